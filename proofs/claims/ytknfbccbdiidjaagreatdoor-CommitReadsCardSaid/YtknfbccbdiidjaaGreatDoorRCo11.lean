/- The walk of the commit's head. -/
import Derived.Test.YtknfbccbdiidjaaGreatDoorWs
import Derived.Test.YtknfbccbdiidjaaGreatDoorRLh
namespace Go.Proofs.YtknfbccbdiidjaaGreatDoor
set_option linter.unusedVariables false
set_option linter.unusedSimpArgs false
open Go.ChangeShapes Go.WideShapes Go.ChangeAt Go.RowKit Go.Maps

theorem hA_tree : tlAt KS SS (placed [hA]) 1 = .ok (partsT KS SS [hA]) := by
 have e : placed [hA] = [hA] := rfl
 rw [e]
 exact tl_makes (ls := [hA]) (fun l hl => by rw [List.mem_singleton.1 hl]; exact hA_ok) (fun i l h => by
  have hi := (List.getElem?_eq_some_iff.1 h).1
  have : i = 0 := by simpa using hi
  subst this
  injection h with h
  rw [← h]
  exact ⟨rfl, by decide⟩) (by decide) 1 (by decide) (by decide)
theorem hA_parts : partsT KS SS [hA] = [partL KS SS 0 hA] := rfl
theorem hA_split : splitL ⟨rP, 7⟩ (placed [hA]) = [hL] := rfl
theorem prove_yes {K s0 : List Wd} {S : Nat → Prop} {w w' : World} {g m0 m1 : Nat} {ls : List LeafT} {E : List (List Nat × Nat)} {Z : Nat → Nat → Prop} {l : LeafT} {e : Ending} (h : ProveP K s0 S w g ls m0 m1 E Z l e w') (hl : l ∈ ls) :
   CmAt K s0 S w' g ls m0 m1 E Z ∧ Kept (fun k => ∃ e ∈ E, Z e.2 k) w w' ∧ ∃ p q T, e = .returned (.tuple #[.agg (waysC p q).toArray, .int .i64 0]) ∧ p.Of K s0 (lowT K s0 ls l.id) (keyK K s0 l) w.heap.size w' ∧ T.Perm (topT K s0 ls) ∧ q.Of K s0 T l.id w.heap.size w' := by
 obtain ⟨h1, h2, h3⟩ := h
 refine ⟨h1, h2, ?_⟩
 rcases h3 with ⟨_, h⟩ | ⟨hn, _⟩
 · exact h
 · exact absurd hl hn
theorem hA_build (w : World) : (Instr.build 32 #[(1, .int .u64 7)]).run Tryz.prog w = .ok (.agg hA.cells.toArray) w := zLf_build 7 w
set_option maxRecDepth 100000 in
set_option maxHeartbeats 16000000 in
theorem headC_is (w : World) (hT : Tabs KS SS w) : Calls Tryz.prog 9 #[] w fun e w' => e = .returned (.bool true) ∧ Below w.heap.size w w' := by
 obtain ⟨Zl, hzl, -, hzls, hzln, hzle'⟩ := zero_leafT
 clear hzle'
 obtain ⟨zw, hzw, -, hzws, hzwn⟩ := zero_ways
 obtain ⟨Z, hinfo, hzs⟩ := info_leafT
 obtain ⟨CA, hCA⟩ : ∃ L, L = hA.cells := ⟨_, rfl⟩
 obtain ⟨LC, hLC⟩ : ∃ L, L = hL.cells := ⟨_, rfl⟩
 obtain ⟨ZH, hZH⟩ : ∃ L, L = bcells hZ := ⟨_, rfl⟩
 have LA := Lib.hid (show CA.length = 99 by rw [hCA]; exact LeafT.len hA_ok)
 have SZC := Lib.hid (show (Tryz.prog.info? 32).map (·.size) = some LC.length by rw [hLC, LeafT.len hL_ok]; kernel_rfl)
 have HNA := Lib.hid (show ∀ v, (Instr.build 32 #[(1, .int .u64 7)]).run Tryz.prog v = .ok (.agg CA.toArray) v from fun v => by rw [hCA]; exact hA_build v)
 have HNH := Lib.hid (show ∀ v, (Instr.build 27 #[]).run Tryz.prog v = .ok (.agg ZH.toArray) v from fun v => by rw [hZH]; exact build_h0C v)
 obtain ⟨ii, hi1, hi2, hi3, hi4⟩ := info_parts hinfo
 have HII := Lib.hid (And.intro hi1 (And.intro hi2 hi3))
 have HZS := Lib.hid hzs
 have HT := Lib.hid hT
 have ECA := Lib.hid hCA
 have ELC := Lib.hid hLC
 have EZH := Lib.hid hZH
 have HZW := Lib.hid hzws
 obtain ⟨W1, hW1⟩ : ∃ W, W = w.alloc (.cells CA.toArray 32) := ⟨_, rfl⟩
 have hh1 : Has W1 w.heap.size 32 ([hA].flatMap LeafT.cells).toArray := by
  rw [hW1, hCA]
  simpa using Has.new w 32 hA.cells.toArray
 have hb1 : Below w.heap.size w W1 := by rw [hW1]; exact (Below.refl _ _).alloc (Nat.le_refl _) _
 have hr1 := rows_has hh1 (len_cells (fun l hl => by rw [List.mem_singleton.1 hl]; exact hA_ok))
 have hcall := lfParts_is KS SS W1 (hT.below hb1 hT.low) (some ⟨w.heap.size, 0, none⟩) 1 1 [hA] hr1 (fun l hl => by rw [List.mem_singleton.1 hl]; exact hA_ok) (by decide)
 rw [hA_tree] at hcall
 have HCALL := Lib.hid hcall
 have HB1 := Lib.hid hb1
 have EW1 := Lib.hid hW1
 have HTV := Lib.hid (show ∀ v, Below w.heap.size w v → Tabs KS SS v from fun v hv => hT.below hv hT.low)
 clear hT hCA hLC hZH hi1 hi2 hi3 hi4 hinfo hzs hzls hzws hW1 hh1 hb1 hr1 hcall
 go_enter Tryz.func9, Tryz.ntmps9
 go_wp2_with (first
  | (refine wpList_build_run rfl 32 #[(1, .const (.int .u64 7))] rfl #[(1, .int .u64 7)] (by kernel_rfl) (.agg CA.toArray) (HNA.out _) ?_)
  | (refine wpList_build1 rfl 22 32 (.tmp 7) rfl ii (.agg Z) Tryz.underlying22 HII.out.1 HII.out.2.1 CA (by rw [HII.out.2.2, LA.out]) (by rw [LA.out]; show Z.size = 99; exact HZS.out) (by rw [LA.out]; decide) (by rw [LA.out]; decide) rfl ?_))
 rw [← EW1.out]
 refine HCALL.out.mono ?_
 rintro _ W2 ⟨hb2, a, c, rfl, hown⟩
 have hown2 : W2.ownsRow W1.heap.size 32 99 (.slice a 1 c) 1 ([hL].flatMap LeafT.cells) := by
  have e : splitL (partNd KS SS 256 (partsT KS SS [hA])) (placed [hA]) = [hL] := by rw [hA_parts, parts_h]; exact hA_split
  rw [e] at hown
  exact hown
 clear hown
 obtain ⟨hrow, hfar⟩ := own_rows hown2 rfl (len_cells (fun l hl => by rw [List.mem_singleton.1 hl]; exact hL_ok))
 obtain ⟨gp, o, rfl, hglt, hrr⟩ := hrow.at_ (by decide)
 have ho : o = 0 := by
  obtain ⟨g, cap, cur, e, _⟩ := own_open hown2 (by decide)
  injection e with e; injection e with e; injection e
 subst ho
 have hrl : W2.rangeAt gp 0 LC := by
  have := hrr 0 hL rfl
  rw [ELC.out]
  simpa using this
 have HB2 := Lib.hid (HB1.out.trans (hb2.mono HB1.out.size))
 have HRL := Lib.hid (show ∀ v, Below W2.heap.size W2 v → v.rangeAt gp 0 LC from fun v hv => rangeAt_kept hrl (Kept.of_below (S := fun _ => False) hv) (fun e => e))
 have HGP := Lib.hid (show w.heap.size ≤ gp ∧ gp < W2.heap.size from ⟨by have := (hfar _ rfl).1; have a2 := HB1.out.size; exact Nat.le_trans a2 this, (hfar _ rfl).2⟩)
 have ha0 := leaf_at0 gp 1 c (by decide)
 have HA0 := Lib.hid ha0
 clear hb2 hown2 hrow hfar hglt hrr hrl HCALL HB1 EW1 ha0
 go_wp2_with fail
 refine (coNew_is KS SS (fun k => W2.heap.size ≤ k) W2 (fun k h => h)).mono ?_
 rintro _ W3 ⟨g, rfl, hcm3, hb3, hg3⟩
 have HCM3 := Lib.hid hcm3
 have HB23 := Lib.hid hb3
 have HB3 := Lib.hid (HB2.out.trans (hb3.mono HB2.out.size))
 have hr3 := HRL.out W3 hb3
 have HR3 := Lib.hid hr3
 have ha3 := HA0.out W3
 clear hcm3 hb3 hg3 hr3
 go_wp2_with (refine wpList_load_midG rfl 32 (.tmp 22) rfl gp 0 rfl LC _ HR3.out Tryz.underlying32 rfl SZC.out ?_)
 have hadd := coAdd_is HCM3.out (fun k h => Nat.le_trans HB23.out.size h) (HTV.out W3 HB3.out) hL hL_ok
 rw [head_add, head_addC, ← ELC.out] at hadd
 have HADD := Lib.hid hadd
 clear hadd ha3
 refine HADD.out.mono ?_
 rintro _ W4 ⟨rfl, hcm4, hk4⟩
 have HCM4 := Lib.hid hcm4
 have HB24 := Lib.hid (HB23.out.trans (hk4.below HB23.out.size (fun k h => h)))
 have HB4 := Lib.hid (HB2.out.trans (HB24.out.mono HB2.out.size))
 clear hcm4 hk4 HADD HCM3 HB3 HR3 HB23
 obtain ⟨m0, m1, E, Z0, hat⟩ := HCM4.out
 have htot := coTotal_at hat hZ hZ_hash
 unfold arr at htot
 rw [head_tot, ← EZH.out] at htot
 have HTOT := Lib.hid htot
 have HAT := Lib.hid hat
 clear htot hat HCM4
 go_wp2_with (refine wpList_build_run rfl 27 #[] rfl #[] (by kernel_rfl) (.agg ZH.toArray) (HNH.out _) ?_)
 refine HTOT.out.mono ?_
 rintro _ W5 ⟨rfl, hb5⟩
 have HB25 := Lib.hid (HB24.out.trans (hb5.mono HB24.out.size))
 have HB5 := Lib.hid (HB2.out.trans (HB25.out.mono HB2.out.size))
 have HAT5 := Lib.hid (HAT.out.quiet hb5)
 have ha5 := HA0.out W5
 have HR5 := Lib.hid (HRL.out W5 HB25.out)
 clear hb5 HTOT HAT HB4 HB24
 have hpv := coProve_at (HAT5.out.zoneS (S' := fun k => W2.heap.size ≤ k ∧ k < W5.heap.size) (fun k h1 h2 => ⟨h2, h1⟩)) (HTV.out W5 HB5.out) (fun k hk => Nat.le_trans (HTV.out W2 HB2.out).low hk.1) hL hL_ok
 rw [← ELC.out] at hpv
 have HPV := Lib.hid hpv
 clear hpv
 go_wp2_with (refine wpList_load_midG rfl 32 (.tmp 36) rfl gp 0 rfl LC _ HR5.out Tryz.underlying32 rfl SZC.out ?_)
 refine HPV.out.mono ?_
 rintro _ W6 hpp
 obtain ⟨hcm6, hk6, p, q, T, rfl, hop, hperm, hoq⟩ := prove_yes hpp (List.mem_singleton.2 rfl)
 have hpn : p.n = 0 := alone_none head_low rfl hop
 have hqn : q.n = 0 := by
  rw [head_top] at hperm
  exact alone_none (List.perm_singleton.1 hperm) rfl hoq
 have hU : ∀ k, (∃ e ∈ E, Z0 e.2 k) → W2.heap.size ≤ k ∧ k < W5.heap.size := fun k ⟨e, he, hz⟩ => (hcm6.zone e he k hz).2.1
 have hb6 : Below w.heap.size w W6 := HB5.out.trans (hk6.below HB5.out.size (fun k e => Nat.le_trans HB2.out.size (hU k e).1))
 have hs56 := hk6.size
 have HLM := Lib.hid (show leadR KS SS p q hL = .ok (anchorOf KS SS [hL]) from lead_made (HTV.out W5 HB5.out).len hcm6.fine (List.mem_singleton.2 rfl) hperm hop hoq)
 have hrl6 := rangeAt_kept HR5.out hk6 (fun e => by have := (hU gp e).1; have := HGP.out.2; omega)
 have SZW := Lib.hid (show (Tryz.prog.info? 41).map (·.size) = some (waysC p q).toArray.size ∧ zw.size = (waysC p q).toArray.size ∧ (Tryz.prog.info? 41).map (·.size) = some (waysC p q).length by
  have := waysC_len hop.at_.hash hoq.at_.hash
  exact ⟨by rw [List.size_toArray, this]; kernel_rfl, by rw [HZW.out, List.size_toArray, this], by rw [this]; kernel_rfl⟩)
 have HNW := Lib.hid (show ∀ C, Has ((W6.alloc (.cells zw 41)).setRow W6.heap.size C) W6.heap.size 41 C ∧ Below W6.heap.size W6 ((W6.alloc (.cells zw 41)).setRow W6.heap.size C) from fun C => by
  rw [World.setRow_alloc_new]
  exact ⟨Has.new W6 _ _, (Below.refl _ _).alloc (Nat.le_refl _) _⟩)
 have HCM6 := Lib.hid hcm6
 have HOP := Lib.hid hop
 have HOQ := Lib.hid hoq
 have HU := Lib.hid hU
 have HB6 := Lib.hid hb6
 have HPN := Lib.hid (And.intro hpn hqn)
 have HRL6 := Lib.hid hrl6
 have HS56 := Lib.hid hs56
 clear hpp hcm6 hk6 hop hperm hoq hpn hqn hU hb6 hrl6 hs56 HPV HB5 HAT5 HR5 ha5
 go_upto_region 6 with (refine wpList_store_row rfl 41 (.tmp 4) (.tmp 39) rfl W6.heap.size (waysC p q).toArray rfl rfl 41 zw (heap_alloc_new W6 _) SZW.out.1 SZW.out.2.1 (waysC_one p q) ?_)
 obtain ⟨h7, hb7⟩ := HNW.out (waysC p q).toArray
 clear HNW
 have hcm := HCM6.out.quiet hb7
 have hop := HOP.out.below hb7
 have hoq := HOQ.out.below hb7
 have HB7 := Lib.hid (HB6.out.trans (hb7.mono HB6.out.size))
 have HRL7 := Lib.hid (rangeAt_kept HRL6.out (Kept.of_below (S := fun _ => False) hb7) (fun e => e))
 clear hb7 HCM6 HOP HOQ HB6 HRL6
 generalize (W6.alloc (.cells zw 41)).setRow W6.heap.size (waysC p q).toArray = W7 at h7 hcm hop hoq HB7 HRL7 ⊢
 obtain ⟨B4, hB4⟩ : ∃ y, y = W6.heap.size := ⟨_, rfl⟩
 have hB45 : W5.heap.size ≤ B4 := by rw [hB4]; exact HS56.out
 rw [← hB4] at h7 ⊢
 clear hB4
 have HSV := Lib.hid (show ∀ v, Kept (fun k => ∃ e ∈ E, Z0 e.2 k) W7 v → v.cell? ⟨B4, 32, none⟩ = some (.slice p.a 0 p.c) ∧ v.cell? ⟨B4, 65, none⟩ = some (.slice q.a 0 q.c) ∧ v.rangeAt B4 0 (waysC p q) ∧ v.rangeAt gp 0 LC ∧ Tabs KS SS v from fun v hv => by
  have h8 := h7.kept hv (fun e => by have := (HU.out B4 e).2; omega)
  obtain ⟨a1, a2⟩ := ways_at hop.at_.hash h8
  have b1 := a1 32 _ (pcells_row hop.at_.hash p.a p.n p.c)
  have b2 := a2 32 _ (pcells_row hoq.at_.hash q.a q.n q.c)
  rw [HPN.out.1] at b1
  rw [HPN.out.2] at b2
  exact ⟨b1, b2, h8.row0, rangeAt_kept HRL7.out hv (fun e => by have := (HU.out gp e).1; have := HGP.out.2; omega), (HTV.out W7 HB7.out).kept hv (fun k e => Nat.le_trans (HTV.out W2 HB2.out).low (HU.out k e).1)⟩)
 have HSS := Lib.hid (show ∀ k, (W2.heap.size ≤ k ∧ k < W5.heap.size) → 2 + 1 ≤ k from fun k hk => Nat.le_trans (HTV.out W2 HB2.out).low hk.1)
 obtain ⟨AN, hAN⟩ : ∃ y, y = anchorOf KS SS [hL] := ⟨_, rfl⟩
 obtain ⟨LAN, hLAN⟩ : ∃ y, y = bcells AN := ⟨_, rfl⟩
 have hANh : IsHash AN := by rw [hAN, head_anchor]; exact anchorK_hash KS SS ss_len _
 have HANH := Lib.hid hANh
 have HLA := Lib.hid hLAN
 have HEA := Lib.hid hAN
 have HNE := Lib.hid (show ∀ v, (binOp .neq 27 (.agg LAN.toArray) (.agg ZH.toArray)).run Tryz.prog v = .ok (.bool true) v from fun v => by
  rw [run_neq_struct, hLAN, EZH.out, hash_eqC AN hZ hANh hZ_hash v, decide_eq_false (by rw [hAN]; exact head_ne)]
  rfl)
 have HEG := Lib.hid (show ∀ v, (eqGuard .neq 27 (.tmp 69) (.tmp 70) (.agg LAN.toArray) (.agg ZH.toArray)).run Tryz.prog v = .ok () v from fun v => by first | rfl | simp [eqGuard])
 have hS0 : Kept (fun k => ∃ e ∈ E, Z0 e.2 k) W7 W7.drew := (Kept.refl _ _).drew
 have hcm' := hcm
 replace hcm := hcm.quiet (Below.refl W7.heap.size W7).drew
 replace hop := hop.below (Below.refl W7.heap.size W7).drew
 replace hoq := hoq.below (Below.refl W7.heap.size W7).drew
 clear hcm' hAN hLAN hANh h7 hB45
 refine wp_region_noPanic ?_
 refine wp_region_held_drew (S := (fun v => Kept (fun k => ∃ e ∈ E, Z0 e.2 k) W7 v)) (by kernel_rfl) hS0 (fun hH0 => ?_)
 apply tk 0 (v := _) rfl (Or.inl ⟨by kernel_rfl, ?hv⟩) hH0 ?_
 case hv => intro w' hS; have z0 := (HSV.out w' hS).1; have z1 := (HSV.out w' hS).2.1; have z2 := HA0.out w'; go_simp; try exact rfl
 simp only [Act.put, qa]
 apply tk 1 (v := _) rfl (Or.inl ⟨by kernel_rfl, ?hv⟩) hH0 ?_
 case hv => intro w' hS; have z0 := (HSV.out w' hS).1; have z1 := (HSV.out w' hS).2.1; have z2 := HA0.out w'; go_simp; try exact rfl
 simp only [Act.put, qa]
 apply tk 2 (v := _) rfl (Or.inl ⟨by kernel_rfl, ?hv⟩) hH0 ?_
 case hv => intro w' hS; have z0 := (HSV.out w' hS).1; have z1 := (HSV.out w' hS).2.1; have z2 := HA0.out w'; go_simp; try exact rfl
 simp only [Act.put, qa]
 apply tk 3 (v := _) rfl (Or.inl ⟨by kernel_rfl, ?hv⟩) hH0 ?_
 case hv => intro w' hS; have z0 := (HSV.out w' hS).1; have z1 := (HSV.out w' hS).2.1; have z2 := HA0.out w'; go_simp; try exact rfl
 simp only [Act.put, qa]
 apply tk 4 (v := _) rfl (Or.inl ⟨by kernel_rfl, ?hv⟩) hH0 ?_
 case hv => intro w' hS; have z0 := (HSV.out w' hS).1; have z1 := (HSV.out w' hS).2.1; have z2 := HA0.out w'; go_simp; try exact rfl
 simp only [Act.put, qa]
 apply tk 5 (v := _) rfl (Or.inl ⟨by kernel_rfl, ?hv⟩) hH0 ?_
 case hv => intro w' hS; have z0 := (HSV.out w' hS).1; have z1 := (HSV.out w' hS).2.1; have z2 := HA0.out w'; go_simp; try exact rfl
 simp only [Act.put, qa]
 apply tk 6 (v := _) rfl (Or.inl ⟨by kernel_rfl, ?hv⟩) hH0 ?_
 case hv => intro w' hS; have z0 := (HSV.out w' hS).1; have z1 := (HSV.out w' hS).2.1; have z2 := HA0.out w'; go_simp; try exact rfl
 simp only [Act.put, qa]
 apply tk 7 (v := _) rfl (Or.inl ⟨by kernel_rfl, ?hv⟩) hH0 ?_
 case hv => intro w' hS; have z0 := (HSV.out w' hS).1; have z1 := (HSV.out w' hS).2.1; have z2 := HA0.out w'; go_simp; try exact rfl
 simp only [Act.put, qa]
 apply tk 8 (v := _) rfl (Or.inl ⟨by kernel_rfl, ?hv⟩) hH0 ?_
 case hv => intro w' hS; have z0 := (HSV.out w' hS).1; have z1 := (HSV.out w' hS).2.1; have z2 := HA0.out w'; go_simp; try exact rfl
 simp only [Act.put, qa]
 apply tk 9 (v := _) rfl (Or.inl ⟨by kernel_rfl, ?hv⟩) hH0 ?_
 case hv => intro w' hS; have z0 := (HSV.out w' hS).1; have z1 := (HSV.out w' hS).2.1; have z2 := HA0.out w'; go_simp; try exact rfl
 simp only [Act.put, qa]
 apply tk 10 (v := _) rfl (Or.inl ⟨by kernel_rfl, ?hv⟩) hH0 ?_
 case hv => intro w' hS; have z0 := (HSV.out w' hS).1; have z1 := (HSV.out w' hS).2.1; have z2 := HA0.out w'; go_simp; try exact rfl
 simp only [Act.put, qa]
 apply tk 11 (v := _) rfl (Or.inl ⟨by kernel_rfl, ?hv⟩) hH0 ?_
 case hv => intro w' hS; have z0 := (HSV.out w' hS).1; have z1 := (HSV.out w' hS).2.1; have z2 := HA0.out w'; go_simp; try exact rfl
 simp only [Act.put, qa]
 apply tk 12 (v := _) rfl (Or.inl ⟨by kernel_rfl, ?hv⟩) hH0 ?_
 case hv => intro w' hS; have z0 := (HSV.out w' hS).1; have z1 := (HSV.out w' hS).2.1; have z2 := HA0.out w'; go_simp; try exact rfl
 simp only [Act.put, qa]
 apply tk 13 (v := _) rfl (Or.inl ⟨by kernel_rfl, ?hv⟩) hH0 ?_
 case hv => intro w' hS; have z0 := (HSV.out w' hS).1; have z1 := (HSV.out w' hS).2.1; have z2 := HA0.out w'; go_simp; try exact rfl
 simp only [Act.put, qa]
 apply tk 14 (v := _) rfl (Or.inl ⟨by kernel_rfl, ?hv⟩) hH0 ?_
 case hv => intro w' hS; have z0 := (HSV.out w' hS).1; have z1 := (HSV.out w' hS).2.1; have z2 := HA0.out w'; go_simp; try exact rfl
 simp only [Act.put, qa]
 apply tk 15 (v := _) rfl (Or.inl ⟨by kernel_rfl, ?hv⟩) hH0 ?_
 case hv => intro w' hS; have z0 := (HSV.out w' hS).1; have z1 := (HSV.out w' hS).2.1; have z2 := HA0.out w'; go_simp; try exact rfl
 simp only [Act.put, qa]
 apply tk 16 (v := _) rfl (Or.inl ⟨by kernel_rfl, ?hv⟩) hH0 ?_
 case hv => intro w' hS; have z0 := (HSV.out w' hS).1; have z1 := (HSV.out w' hS).2.1; have z2 := HA0.out w'; go_simp; try exact rfl
 simp only [Act.put, qa]
 refine tk 17 (v := (.agg (waysC p q).toArray)) rfl (yieldsIf_load_mid (by kernel_rfl) 41 (.tmp 4) rfl B4 0 rfl (waysC p q) _ (fun w' h => (HSV.out _ h).2.2.1) Tryz.underlying41 rfl SZW.out.2.2) hH0 ?_
 simp only [Act.put, qa]
 apply tk 18 (v := _) rfl (Or.inl ⟨by kernel_rfl, ?hv⟩) hH0 ?_
 case hv => intro w' hS; have z0 := (HSV.out w' hS).1; have z1 := (HSV.out w' hS).2.1; have z2 := HA0.out w'; go_simp; try exact rfl
 simp only [Act.put, qa]
 apply tk 20 (v := _) rfl (Or.inl ⟨by kernel_rfl, ?hv⟩) hH0 ?_
 case hv => intro w' hS; have z0 := (HSV.out w' hS).1; have z1 := (HSV.out w' hS).2.1; have z2 := HA0.out w'; go_simp; try exact rfl
 simp only [Act.put, qa]
 apply tk 21 (v := _) rfl (Or.inl ⟨by kernel_rfl, ?hv⟩) hH0 ?_
 case hv => intro w' hS; have z0 := (HSV.out w' hS).1; have z1 := (HSV.out w' hS).2.1; have z2 := HA0.out w'; go_simp; try exact rfl
 simp only [Act.put, qa]
 refine tk 22 (v := (.agg LC.toArray)) rfl (yieldsIf_load_mid (by kernel_rfl) 32 (.tmp 62) rfl gp 0 rfl LC _ (fun w' h => (HSV.out _ h).2.2.2.1) Tryz.underlying32 rfl SZC.out) hH0 ?_
 simp only [Act.put, qa]
 refine wpAnyH_ready (rs := [19]) (by kernel_rfl) (by simp) ?_
 refine AllReadyH.cons rfl (fun KK hKK => ?_) AllReadyH.nil
 go_simp
 have han := coAnch_at hcm (HSV.out _ hH0).2.2.2.2 HSS.out
 rw [← HEA.out] at han
 unfold arr at han
 rw [← HLA.out] at han
 refine han.mono ?_
 rintro _ xa ⟨rfl, hcl, hkl⟩
 have hsxa : Kept (fun k => ∃ e ∈ E, Z0 e.2 k) W7 xa := Kept.trans hH0 hkl
 replace hcm := hcl
 replace hop := hop.kept2 hkl (fun k e => .inl (HU.out k e).2)
 replace hoq := hoq.kept2 hkl (fun k e => .inl (HU.out k e).2)
 clear han hcl hkl
 refine Shut.out hKK _ _ hsxa (fun hH1 => ?_)
 clear hKK KK
 try simp only [Act.put, qa]
 refine wpAnyH_ready (rs := [23]) (by kernel_rfl) (by simp) ?_
 refine AllReadyH.cons rfl (fun KK hKK => ?_) AllReadyH.nil
 go_simp
 have hck := coCheck_is KS SS xa (HSV.out _ hH1).2.2.2.2 p q hop.at_ hoq.at_ AN HANH.out hL hL_ok
 rw [HLM.out, ← HEA.out, show chkR (.ok AN) AN = 0 from if_pos rfl, ← ELC.out] at hck
 unfold arr at hck
 rw [← HLA.out] at hck
 refine hck.mono ?_
 rintro _ xc ⟨rfl, hbc⟩
 have hsc : Kept (fun k => ∃ e ∈ E, Z0 e.2 k) W7 xc := Kept.trans hH1 (Kept.of_below hbc)
 replace hcm := hcm.quiet hbc
 replace hop := hop.below hbc
 replace hoq := hoq.below hbc
 clear hck hbc
 refine Shut.out hKK _ _ hsc (fun hH2 => ?_)
 clear hKK KK
 try simp only [Act.put, qa]
 apply tk 24 (v := _) rfl (Or.inl ⟨by kernel_rfl, ?hv⟩) hH2 ?_
 case hv => intro w' hS; have z0 := (HSV.out w' hS).1; have z1 := (HSV.out w' hS).2.1; have z2 := HA0.out w'; go_simp; try exact rfl
 simp only [Act.put, qa]
 apply tk 25 (v := _) rfl (Or.inl ⟨by kernel_rfl, ?hv⟩) hH2 ?_
 case hv => intro w' hS; have z0 := (HSV.out w' hS).1; have z1 := (HSV.out w' hS).2.1; have z2 := HA0.out w'; go_simp; try exact rfl
 simp only [Act.put, qa]
 apply tk 26 (v := _) rfl (Or.inl ⟨by kernel_rfl, ?hv⟩) hH2 ?_
 case hv => intro w' hS; have z0 := (HSV.out w' hS).1; have z1 := (HSV.out w' hS).2.1; have z2 := HA0.out w'; go_simp; try exact rfl
 simp only [Act.put, qa]
 apply tk 27 (v := _) rfl (Or.inl ⟨by kernel_rfl, ?hv⟩) hH2 ?_
 case hv => intro w' hS; have z0 := (HSV.out w' hS).1; have z1 := (HSV.out w' hS).2.1; have z2 := HA0.out w'; go_simp; try exact rfl
 simp only [Act.put, qa]
 refine tk 29 (v := (.agg ZH.toArray)) rfl (yieldsIf_build (by kernel_rfl) 27 #[] rfl #[] (by kernel_rfl) _ (fun w' _ => HNH.out w')) hH2 ?_
 simp only [Act.put, qa]
 refine wpAnyH_ready (rs := [28]) (by kernel_rfl) (by simp) ?_
 refine AllReadyH.cons rfl (fun KK hKK => ?_) AllReadyH.nil
 go_simp
 have han := coAnch_at hcm (HSV.out _ hH2).2.2.2.2 HSS.out
 rw [← HEA.out] at han
 unfold arr at han
 rw [← HLA.out] at han
 refine han.mono ?_
 rintro _ xd ⟨rfl, hcl, hkl⟩
 have hsxd : Kept (fun k => ∃ e ∈ E, Z0 e.2 k) W7 xd := Kept.trans hH2 hkl
 replace hcm := hcl
 replace hop := hop.kept2 hkl (fun k e => .inl (HU.out k e).2)
 replace hoq := hoq.kept2 hkl (fun k e => .inl (HU.out k e).2)
 clear han hcl hkl
 refine Shut.out hKK _ _ hsxd (fun hH3 => ?_)
 clear hKK KK
 try simp only [Act.put, qa]
 refine tk 30 (v := (.bool true)) rfl (Or.inl ⟨by kernel_rfl, by intro w' hS; have z7 := HNE.out w'; have z8 := HEG.out w'; revert z7 z8; generalize Value.agg LAN.toArray = VX; generalize Value.agg ZH.toArray = VY; intro z7 z8; go_simp; try rfl⟩) hH3 ?_
 simp only [Act.put, qa]
 apply tk 31 (v := _) rfl (Or.inl ⟨by kernel_rfl, ?hv⟩) hH3 ?_
 case hv => intro w' hS; have z0 := (HSV.out w' hS).1; have z1 := (HSV.out w' hS).2.1; have z2 := HA0.out w'; go_simp; try exact rfl
 simp only [Act.put, qa]
 apply tk 32 (v := _) rfl (Or.inl ⟨by kernel_rfl, ?hv⟩) hH3 ?_
 case hv => intro w' hS; have z0 := (HSV.out w' hS).1; have z1 := (HSV.out w' hS).2.1; have z2 := HA0.out w'; go_simp; try exact rfl
 simp only [Act.put, qa]
 refine wpAnyH_done (by kernel_rfl) ?_ _
 refine NoPanic.normal ?_
 have HFIN := Lib.hid (show Below w.heap.size w xd from HB7.out.trans (hsxd.below HB7.out.size (fun k e => Nat.le_trans HB2.out.size (HU.out k e).1)))
 clear hcm hop hoq hsxa hsc hsxd hS0
 go_wp2_with fail
 go_ret
 exact ⟨rfl, HFIN.out⟩
end Go.Proofs.YtknfbccbdiidjaaGreatDoor

