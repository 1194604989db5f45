/- The walk of commit's Add. -/
import Derived.Test.YtknfbccbdiidjaaGreatDoorWs
import Derived.Test.YtknfbccbdiidjaaGreatDoorRCo4
import Derived.Test.YtknfbccbdiidjaaGreatDoorRLb5
namespace Go.Proofs.YtknfbccbdiidjaaGreatDoor
set_option linter.unusedVariables false
set_option linter.unusedSimpArgs false
open Go.ChangeShapes Go.WideShapes Go.ChangeAt Go.RowKit Go.Maps

set_option maxRecDepth 100000 in
theorem len_mapL {w : World} {m : Nat} {l : List Ent} (h : MapIs w m l) (ty : TypeId) : (Builtin.len_ #[99] ty #[.map (some m)]).run Tryz.prog w = .ok (goInt l.length) w := by
 obtain ⟨es, clock, hb, hs, he, hl⟩ := h
 have hl2 : es.size = l.length := by
  have := congrArg List.length he
  rw [List.length_map, List.length_map, Array.length_toList] at this
  exact this
 rw [← hl2]
 exact run_len_map w 99 ty m es clock Tryz.underlying99 hb
theorem zero_ptrT : ∀ w, (zeroValue 105).run Tryz.prog w = .ok (.pointer none) w := fun w => by kernel_rfl
theorem look_mem2 {l : List Ent} (hd : (l.map (·.1)).Nodup) {k : List Nat} {v : Value} (h : (k, v) ∈ l) : look l k = some v := by
 obtain ⟨j, hj⟩ := List.getElem?_of_mem h
 exact look_at hj hd
theorem look_key {K s0 : List Wd} {ls : List LeafT} (hk : (ls.map (keyK K s0)).Nodup) (k : List Nat) : (∃ l, l ∈ ls ∧ keyK K s0 l = k ∧ look (ls.map (entL K s0)) k = some (.agg l.cells.toArray)) ∨ (k ∉ ls.map (keyK K s0) ∧ look (ls.map (entL K s0)) k = none) := by
 have e1 : (ls.map (entL K s0)).map (·.1) = ls.map (keyK K s0) := by rw [List.map_map]; rfl
 by_cases h : k ∈ ls.map (keyK K s0)
 · obtain ⟨l, hl, e⟩ := List.mem_map.1 h
   exact .inl ⟨l, hl, e, look_mem2 (by rw [e1]; exact hk) (List.mem_map.2 ⟨l, hl, by unfold entL; rw [e]⟩)⟩
 · refine .inr ⟨h, look_none fun p hp e => h ?_⟩
   rw [← e1]
   exact List.mem_map.2 ⟨p, hp, e⟩
theorem look_id {E : List (List Nat × Nat)} (hn : (E.map (·.1)).Nodup) (id : List Nat) : (∃ q, (id, q) ∈ E ∧ look (E.map entP) id = some (.pointer (some ⟨q, 0, none⟩))) ∨ (id ∉ E.map (·.1) ∧ look (E.map entP) id = none) := by
 have e1 : (E.map entP).map (·.1) = E.map (·.1) := by rw [List.map_map]; rfl
 by_cases h : id ∈ E.map (·.1)
 · obtain ⟨e, he, e2⟩ := List.mem_map.1 h
   exact .inl ⟨e.2, by rw [← e2]; exact he, look_mem2 (by rw [e1]; exact hn) (List.mem_map.2 ⟨e, he, by rw [← e2]; rfl⟩)⟩
 · refine .inr ⟨h, look_none fun p hp e => h ?_⟩
   rw [← e1]
   exact List.mem_map.2 ⟨p, hp, e⟩
theorem coL_id {v : World} {B : Nat} {l : LeafT} (h : Has v B 32 l.cells.toArray) : v.rangeAt B 0 (bcells l.id) := fun j u hu => by
 rw [Nat.zero_add]
 refine h.cell_is ?_
 rw [List.getElem?_toArray]
 unfold LeafT.cells
 rw [List.getElem?_append_left (List.getElem?_eq_some_iff.1 hu).1]
 exact hu
theorem boxes_lf (w : World) (LC : List Value) : ∃ W1, W1 = (w.alloc (.cells LC.toArray 32)) ∧
   Has W1 (w.heap.size) 32 LC.toArray ∧ Below w.heap.size w W1 := by
 refine ⟨_, rfl, ?_, ?_⟩
 · have := Has.new w 32 LC.toArray
   exact this
 · exact (Below.refl _ _).alloc (Nat.le_refl _) _
variable {K s0 : List Wd} {S : Nat → Prop} {w : World} {g m0 m1 : Nat} {ls : List LeafT} {E : List (List Nat × Nat)} {Z : Nat → Nat → Prop}
def AddP (K s0 : List Wd) (S : Nat → Prop) (w : World) (g : Nat) (ls : List LeafT) (l : LeafT) (e : Ending) (w' : World) : Prop := e = .returned (.int .i64 (addE K s0 ls l)) ∧ Cm K s0 S w' g (addC K s0 ls l) ∧ Kept S w w'
theorem add_stay (h : CmAt K s0 S w g ls m0 m1 E Z) (l : LeafT) (x : Int) (hx : addE K s0 ls l = x) (h0 : x ≠ 0) (v : World) (hv : Below w.heap.size w v) : AddP K s0 S w g ls l (.returned (.int .i64 x)) v := by
 refine ⟨by rw [hx], ?_, Kept.of_below hv⟩
 unfold addC
 rw [if_neg (by rw [hx]; exact h0)]
 exact ⟨m0, m1, E, Z, h.quiet hv⟩
set_option maxRecDepth 100000 in
set_option maxHeartbeats 16000000 in
theorem coAdd_at (h : CmAt K s0 S w g ls m0 m1 E Z) (hn : ∀ k, w.heap.size ≤ k → S k) (hT : Tabs K s0 w) (l : LeafT) (hl : l.ok) :
   Calls Tryz.prog 11 #[.pointer (some ⟨g, 0, none⟩), .agg l.cells.toArray] w (AddP K s0 S w g ls l) := by
 obtain ⟨zk, hzk, hzks, hzkn⟩ := zero_hashT
 obtain ⟨zl, hzl, -, hzls, hzln, hzle'⟩ := zero_leafT
 have hzle := Lib.hid hzle'
 clear hzle'
 obtain ⟨LC, hLC⟩ : ∃ L, L = l.cells := ⟨_, rfl⟩
 obtain ⟨KL, hKL⟩ : ∃ L, L = bcells (keyK K s0 l) := ⟨_, rfl⟩
 obtain ⟨LI, hLI⟩ : ∃ L, L = bcells l.id := ⟨_, rfl⟩
 obtain ⟨SM, hSM⟩ : ∃ x, x = amS ls := ⟨_, rfl⟩
 obtain ⟨AM, hAM⟩ : ∃ x, x = l.am := ⟨_, rfl⟩
 have hkh : IsHash (keyK K s0 l) := tagD_hash K s0 hT.len _ _
 have SZC := Lib.hid (show (Tryz.prog.info? 32).map (·.size) = some LC.toArray.size by rw [List.size_toArray, hLC, LeafT.len hl]; kernel_rfl)
 have SZCL := Lib.hid (show (Tryz.prog.info? 32).map (·.size) = some LC.length by rw [hLC, LeafT.len hl]; kernel_rfl)
 have SZK := Lib.hid (show (Tryz.prog.info? 27).map (·.size) = some KL.toArray.size by rw [List.size_toArray, hKL, bcells_length, hkh.1]; kernel_rfl)
 have SZKL := Lib.hid (show (Tryz.prog.info? 27).map (·.size) = some KL.length by rw [hKL, bcells_length, hkh.1]; kernel_rfl)
 have SZIL := Lib.hid (show (Tryz.prog.info? 27).map (·.size) = some LI.length by rw [hLI, bcells_length, hl.id.1]; kernel_rfl)
 have ZZK := Lib.hid (show zk.size = KL.toArray.size by rw [hzks, List.size_toArray, hKL, bcells_length, hkh.1])
 have ONEK := Lib.hid (show KL.toArray.all (·.oneCell') = true by rw [hKL]; exact all_oneCell_toArray (bcells_one _))
 have ONEC := Lib.hid (show LC.toArray.all (·.oneCell') = true by rw [hLC]; exact LeafT.one l)
 have ELC := Lib.hid hLC
 have EKL := Lib.hid hKL
 have ELI := Lib.hid hLI
 have ESM := Lib.hid hSM
 have EAM := Lib.hid hAM
 have HL := Lib.hid hl
 have H0 := Lib.hid h
 have HN := Lib.hid hn
 have HT := Lib.hid hT
 have HSTAY := Lib.hid (fun x hx h0 v hv => add_stay h l x hx h0 v hv)
 have HTV := Lib.hid (show ∀ v, Below w.heap.size w v → Tabs K s0 v from fun v hv => hT.below hv hT.low)
 have HCE := Lib.hid (show ∀ v, Below w.heap.size w v → v.cell? ⟨g, 0, none⟩ = some (.map (some m0)) ∧ v.cell? ⟨g, 1, none⟩ = some (.map (some m1)) ∧ v.cell? ⟨g, 2, none⟩ = some (.int .u64 (SM : Int)) from fun v hv => by rw [hSM]; exact (h.quiet hv).cells)
 have HAC := Lib.hid (show ∀ (v : World) B, Has v B 32 LC.toArray → v.cell? ⟨B, 32, none⟩ = some (.int .u64 (AM : Int)) ∧ v.rangeAt B 0 LI from fun v B hv => by rw [hLC] at hv; exact ⟨by rw [hAM]; exact hv.cell_is (by rw [List.getElem?_toArray]; exact LeafT.at_am hl), by rw [hLI]; exact coL_id hv⟩)
 obtain ⟨XC, kn, hXL, hX1, hLK1, hkn⟩ : ∃ (XC : List Value) (kn : Bool), XC.length = 99 ∧ XC.toArray.all (·.oneCell') = true ∧ (∀ v, Below w.heap.size w v → (Instr.lookup 99 (.map (some m1)) (.agg KL.toArray) true).run Tryz.prog v = .ok (.tuple #[.agg XC.toArray, .bool kn]) v) ∧ (kn = true ↔ keyK K s0 l ∈ ls.map (keyK K s0)) := by
   have hlk : ∀ v, Below w.heap.size w v → (Instr.lookup 99 (.map (some m1)) (.agg KL.toArray) true).run Tryz.prog v = .ok (.tuple #[(look (ls.map (entL K s0)) (keyK K s0 l)).getD (.agg zl), .bool (look (ls.map (entL K s0)) (keyK K s0 l)).isSome]) v := fun v hv => by
     rw [hKL]
     exact lookup_ok_is (T := 99) Tryz.underlying99 hzl (h.quiet hv).map1 hkh
   rcases look_key h.fine.keys (keyK K s0 l) with ⟨o, ho, he, hlo⟩ | ⟨hne, hlo⟩
   · rw [hlo] at hlk
     exact ⟨o.cells, true, LeafT.len (h.fine.ok o ho), LeafT.one o, hlk, ⟨fun _ => List.mem_map.2 ⟨o, ho, he⟩, fun _ => rfl⟩⟩
   · rw [hlo] at hlk
     refine ⟨zl.toList, false, by rw [Array.length_toList, hzls], ?_, hlk, ⟨fun e => (by cases e), fun e => absurd e hne⟩⟩
     rw [Array.toArray_toList, hzle.out]
     exact LeafT.one _
 obtain ⟨po, hLK0, hpo⟩ : ∃ po : Option Addr, (∀ v, Below w.heap.size w v → (Instr.lookup 98 (.map (some m0)) (.agg LI.toArray) false).run Tryz.prog v = .ok (.pointer po) v) ∧ ((∃ q, (l.id, q) ∈ E ∧ po = some ⟨q, 0, none⟩) ∨ (l.id ∉ idsOf ls ∧ po = none)) := by
   have hlk : ∀ v, Below w.heap.size w v → (Instr.lookup 98 (.map (some m0)) (.agg LI.toArray) false).run Tryz.prog v = .ok ((look (E.map entP) l.id).getD (.pointer none)) v := fun v hv => by
     rw [hLI]
     exact lookup_is (T := 98) Tryz.underlying98 zero_ptrT (h.quiet hv).map0 hl.id
   rcases look_id (by rw [h.ids]; exact ids_nodup ls) l.id with ⟨q, hq, e⟩ | ⟨hne, e⟩
   · rw [e] at hlk
     exact ⟨_, hlk, .inl ⟨q, hq, rfl⟩⟩
   · rw [e] at hlk
     exact ⟨_, hlk, .inr ⟨by rw [← h.ids]; exact hne, rfl⟩⟩
 obtain ⟨nl, hnl⟩ : ∃ x, x = ls.length := ⟨_, rfl⟩
 have HLEN := Lib.hid (show ∀ v ty, Below w.heap.size w v → (Builtin.len_ #[99] ty #[.map (some m1)]).run Tryz.prog v = .ok (goInt nl) v from fun v ty hv => by
   have := len_mapL (h.quiet hv).map1 ty
   rwa [List.length_map, ← hnl] at this)
 have ENL := Lib.hid hnl
 have HNLE := Lib.hid (show nl ≤ 256 ∧ SM < 18446744073709551616 ∧ AM < 18446744073709551616 from ⟨by rw [hnl]; exact h.fine.len, by rw [hSM]; exact h.fine.fit, by rw [hAM]; exact hl.am⟩)
 have HPO := Lib.hid hpo
 clear hnl hpo
 clear hzle
 have XL := Lib.hid hXL
 have X1 := Lib.hid hX1
 have LK1 := Lib.hid hLK1
 have KN := Lib.hid hkn
 have LK0 := Lib.hid hLK0
 have HZLS := Lib.hid hzls
 rw [← hLC]
 clear hXL hX1 hLK1 hkn hLK0 hzls h hn hT hl hLC hKL hLI hSM hAM hkh hzks
 go_enter Tryz.func11, Tryz.ntmps11
 go_upto_region 1 with (fail)
 obtain ⟨W1, hW1, h1, hb1⟩ := boxes_lf w LC
 rw [← hW1]
 clear hW1
 obtain ⟨B, hB⟩ : ∃ y, y = w.heap.size := ⟨_, rfl⟩
 rw [← hB] at h1 ⊢
 have EB := Lib.hid hB
 have H1 := Lib.hid h1
 have HB1 := Lib.hid hb1
 clear hB h1 hb1
 go_wp2_with (refine wpList_load_row rfl 32 (.tmp 3) rfl B rfl 32 LC.toArray (0, 0) _ H1.out Tryz.underlying32 rfl SZC.out ?_)
 have hck := leafCheck_is W1 l HL.out
 rw [← ELC.out] at hck
 unfold leafE at hck
 by_cases hbad : leafBad l = true
 · rw [if_pos hbad] at hck
   have HCK := Lib.hid hck
   have HBAD := Lib.hid (show addE K s0 ls l = 1 by unfold addE; rw [if_pos hbad])
   clear hck hbad
   refine HCK.out.mono ?_
   rintro _ W2 ⟨rfl, hW2⟩
   have HB2 := Lib.hid (show Below w.heap.size w W2 by rw [hW2]; exact HB1.out.alloc HB1.out.size _)
   clear hW2
   go_wp2
   go_ret
   exact HSTAY.out 1 HBAD.out (by decide) _ HB2.out
 · rw [if_neg hbad] at hck
   have HCK := Lib.hid hck
   have HBAD := Lib.hid hbad
   clear hck hbad
   refine HCK.out.mono ?_
   rintro _ W2 ⟨rfl, hW2⟩
   have HB2 := Lib.hid (show Below w.heap.size w W2 by rw [hW2]; exact HB1.out.alloc HB1.out.size _)
   have H2 := Lib.hid (show Has W2 B 32 LC.toArray by rw [hW2]; exact H1.out.alloc _)
   clear hW2 HCK H1 HB1
   go_wp2_with (refine wpList_load_row rfl 32 (.tmp 3) rfl B rfl 32 LC.toArray (0, 0) _ H2.out Tryz.underlying32 rfl SZC.out ?_)
   have hky := lfKey_is K s0 W2 (HTV.out W2 HB2.out) l HL.out
   unfold arr at hky
   rw [← ELC.out, ← EKL.out] at hky
   have HKY := Lib.hid hky
   clear hky
   refine HKY.out.mono ?_
   rintro _ W3 ⟨rfl, hb3⟩
   have HB3 := Lib.hid (HB2.out.trans (hb3.mono HB2.out.size))
   have H3 := Lib.hid (H2.out.below hb3 H2.out.lt)
   clear hb3 HKY H2 HB2
   go_upto_region 7 with (refine wpList_store_row rfl 27 (.tmp 6) (.tmp 21) rfl W3.heap.size KL.toArray rfl rfl 27 zk (heap_alloc_new W3 _) SZK.out ZZK.out ONEK.out ?_)
   have hnw : ∀ C, Has ((W3.alloc (.cells zk 27)).setRow W3.heap.size C) W3.heap.size 27 C ∧ Below W3.heap.size W3 ((W3.alloc (.cells zk 27)).setRow W3.heap.size C) := fun C => by
     rw [World.setRow_alloc_new]
     exact ⟨Has.new W3 _ _, (Below.refl _ _).alloc (Nat.le_refl _) _⟩
   obtain ⟨h6, hb6⟩ := hnw KL.toArray
   clear hnw
   have hb6w := HB3.out.trans (hb6.mono HB3.out.size)
   have h36 := H3.out.below hb6 H3.out.lt
   clear hb6
   generalize (W3.alloc (.cells zk 27)).setRow W3.heap.size KL.toArray = W6 at h6 hb6w h36 ⊢
   obtain ⟨B6, hB6⟩ : ∃ y, y = W3.heap.size := ⟨_, rfl⟩
   have HLE6 := Lib.hid (show w.heap.size ≤ B6 by rw [hB6]; exact HB3.out.size)
   rw [← hB6] at h6 ⊢
   have H66 := Lib.hid h6
   have HB6 := Lib.hid hb6w
   have H36 := Lib.hid h36
   clear h6 hb6w h36 hB6 H3 HB3
   have HC6 := Lib.hid (show ∀ v, Below W6.heap.size W6 v → v.cell? ⟨g, 1, none⟩ = some (.map (some m1)) ∧ (Instr.lookup 99 (.map (some m1)) (.agg KL.toArray) true).run Tryz.prog v = .ok (.tuple #[.agg XC.toArray, .bool kn]) v from fun v hv => by
     have hb := HB6.out.trans (hv.mono HB6.out.size)
     exact ⟨(HCE.out v hb).2.1, LK1.out v hb⟩)
   have hS0 : Below W6.heap.size W6 W6.drew := (Below.refl _ _).drew
   refine wp_region_noPanic ?_
   refine wp_region_held_drew (S := (fun v => Below W6.heap.size W6 v)) (by kernel_rfl) hS0 (fun hH0 => ?_)
   apply tk 0 (v := _) rfl (Or.inl ⟨by kernel_rfl, ?hv⟩) hH0 ?_
   case hv => intro w' hS; have z0 := (HC6.out w' hS).1; have z1 := (HC6.out w' hS).2; go_simp; try exact rfl
   simp only [Act.put, qa]
   apply tk 1 (v := _) rfl (Or.inl ⟨by kernel_rfl, ?hv⟩) hH0 ?_
   case hv => intro w' hS; have z0 := (HC6.out w' hS).1; have z1 := (HC6.out w' hS).2; go_simp; try exact rfl
   simp only [Act.put, qa]
   apply tk 2 (v := _) rfl (Or.inl ⟨by kernel_rfl, ?hv⟩) hH0 ?_
   case hv => intro w' hS; have z0 := (HC6.out w' hS).1; have z1 := (HC6.out w' hS).2; go_simp; try exact rfl
   simp only [Act.put, qa]
   apply tk 3 (v := _) rfl (Or.inl ⟨by kernel_rfl, ?hv⟩) hH0 ?_
   case hv => intro w' hS; have z0 := (HC6.out w' hS).1; have z1 := (HC6.out w' hS).2; go_simp; try exact rfl
   simp only [Act.put, qa]
   refine tk 4 (v := (.agg KL.toArray)) rfl (yieldsIf_load_mid (by kernel_rfl) 27 (.tmp 6) rfl B6 0 rfl KL _ (fun w' h => ((H66.out.below h H66.out.lt).row0)) Tryz.underlying27 rfl SZKL.out) hH0 ?_
   simp only [Act.put, qa]
   apply tk 5 (v := _) rfl (Or.inl ⟨by kernel_rfl, ?hv⟩) hH0 ?_
   case hv => intro w' hS; have z0 := (HC6.out w' hS).1; have z1 := (HC6.out w' hS).2; go_simp; try exact rfl
   simp only [Act.put, qa]
   apply tk 6 (v := _) rfl (Or.inl ⟨by kernel_rfl, ?hv⟩) hH0 ?_
   case hv => intro w' hS; have z0 := (HC6.out w' hS).1; have z1 := (HC6.out w' hS).2; go_simp; try exact rfl
   simp only [Act.put, qa]
   apply tk 7 (v := _) rfl (Or.inl ⟨by kernel_rfl, ?hv⟩) hH0 ?_
   case hv => intro w' hS; have z0 := (HC6.out w' hS).1; have z1 := (HC6.out w' hS).2; go_simp; try exact rfl
   simp only [Act.put, qa]
   apply tk 8 (v := _) rfl (Or.inl ⟨by kernel_rfl, ?hv⟩) hH0 ?_
   case hv => intro w' hS; have z0 := (HC6.out w' hS).1; have z1 := (HC6.out w' hS).2; go_simp; try exact rfl
   simp only [Act.put, qa]
   refine wpAnyH_ready (rs := [9]) (by kernel_rfl) (by simp) ?_
   refine AllReadyH.cons rfl (fun KK hKK => ?_) AllReadyH.nil
   go_simp
   obtain ⟨xa, hxa⟩ : ∃ y, y = W6.drew.alloc (.cells zl 32) := ⟨_, rfl⟩
   have hnxa : Below W6.drew.heap.size W6.drew xa := by rw [hxa]; exact (Below.refl _ _).alloc (Nat.le_refl _) _
   have hsxa : Below W6.heap.size W6 xa := Below.trans hH0 (hnxa.mono hH0.size)
   have hz9 : Has xa W6.drew.heap.size 32 zl := by rw [hxa]; exact Has.new _ _ _
   have hg9 : W6.heap.size ≤ W6.drew.heap.size := hH0.size
   first | rw [← hxa] | (change KK _ (W6.drew.alloc (.cells zl 32)); rw [← hxa])
   obtain ⟨G9, hG9⟩ : ∃ y, y = W6.drew.heap.size := ⟨_, rfl⟩
   first | rw [← hG9] | (have hq : W6.heap.size = G9 := hG9.symm; rw [hq]; clear hq)
   rw [← hG9] at hz9 hg9
   clear hG9
   clear hxa
   refine Shut.out hKK _ _ hsxa (fun hH1 => ?_)
   clear hKK KK
   try simp only [Act.put, qa]
   refine wpAnyH_ready (rs := [10]) (by kernel_rfl) (by simp) ?_
   refine AllReadyH.cons rfl (fun KK hKK => ?_) AllReadyH.nil
   refine step_store_mid rfl 32 (.tmp 7) (.tmp 29) rfl G9 0 XC.toArray rfl rfl (hz9.there 0 _ (by rw [List.size_toArray, HZLS.out, XL.out]; exact Nat.le_refl _)) (by rw [List.size_toArray, XL.out]; kernel_rfl) X1.out ?_
   have hset := set_box (L := XC) hH1 hz9 hg9 (Below.size hH1) (by rw [HZLS.out, XL.out])
   obtain ⟨xb, hxb⟩ : ∃ y, y = xa.setCells G9 0 XC := ⟨_, rfl⟩
   rw [← hxb] at hset
   change KK _ (xa.setCells G9 0 XC)
   rw [← hxb]
   have hsxb := hset.1
   clear hxb
   refine Shut.out hKK _ _ hsxb (fun hH2 => ?_)
   clear hKK KK
   try simp only [Act.put, qa]
   apply tk 11 (v := _) rfl (Or.inl ⟨by kernel_rfl, ?hv⟩) hH2 ?_
   case hv => intro w' hS; have z0 := (HC6.out w' hS).1; have z1 := (HC6.out w' hS).2; go_simp; try exact rfl
   simp only [Act.put, qa]
   refine wpAnyH_done (by kernel_rfl) ?_ _
   refine NoPanic.normal ?_
   have HB7 := Lib.hid (HB6.out.trans (hsxb.mono HB6.out.size))
   have H67 := Lib.hid (H66.out.below hsxb H66.out.lt)
   have H37 := Lib.hid (H36.out.below hsxb H36.out.lt)
   clear hset hsxb hz9 hg9 hS0 H66 H36 HC6 HB6 hnxa hsxa
   obtain ⟨W7, hW7⟩ : ∃ y, y = xb := ⟨_, rfl⟩
   subst hW7
   cases kn with
   | true =>
     have HE := Lib.hid (show addE K s0 ls l = 6 by unfold addE; rw [if_neg HBAD.out, if_pos (KN.out.1 rfl)])
     go_wp2
     go_ret
     exact HSTAY.out 6 HE.out (by decide) _ HB7.out
   | false =>
     have HNK := Lib.hid (show ¬ keyK K s0 l ∈ ls.map (keyK K s0) from fun e => absurd (KN.out.2 e) (by decide))
     have hc1 := (HCE.out W7 HB7.out).2.1
     have hlen : ∀ ty, (Builtin.len_ #[99] ty #[.map (some m1)]).run Tryz.prog W7 = .ok (goInt nl) W7 := fun ty => HLEN.out W7 ty HB7.out
     have hnl := HNLE.out.1
     by_cases h256 : 256 ≤ nl
     · have h256' : (256 : Int) ≤ (nl : Int) := by omega
       have HE := Lib.hid (show addE K s0 ls l = 4 by unfold addE; rw [if_neg HBAD.out, if_neg HNK.out, if_pos (by rw [← ENL.out]; exact h256)])
       go_wp2
       go_ret
       exact HSTAY.out 4 HE.out (by decide) _ HB7.out
     · have h256' : ¬ (256 : Int) ≤ (nl : Int) := by omega
       have HN256 := Lib.hid h256
       clear h256
       go_upto_region 12 with (fail)
       clear hlen hc1 h256' hnl
       have HC12 := Lib.hid (show ∀ v, Below W7.heap.size W7 v → v.cell? ⟨g, 2, none⟩ = some (.int .u64 (SM : Int)) ∧ v.cell? ⟨B, 32, none⟩ = some (.int .u64 (AM : Int)) from fun v hv => ⟨(HCE.out v (HB7.out.trans (hv.mono HB7.out.size))).2.2, (HAC.out v B (H37.out.below hv H37.out.lt)).1⟩)
       have hS0 : Below W7.heap.size W7 W7.drew := (Below.refl _ _).drew
       by_cases hfit : SM + AM < 18446744073709551616
       · have HFIT := Lib.hid hfit
         clear hfit
         refine wp_region_noPanic ?_
         refine wp_region_held_drew (S := (fun v => Below W7.heap.size W7 v)) (by kernel_rfl) hS0 (fun hH0 => ?_)
         apply tk 0 (v := _) rfl (Or.inl ⟨by kernel_rfl, ?hv⟩) hH0 ?_
         case hv => intro w' hS; have z0 := (HC12.out w' hS).1; have z1 := (HC12.out w' hS).2; go_simp; try exact rfl
         simp only [Act.put, qa]
         apply tk 1 (v := _) rfl (Or.inl ⟨by kernel_rfl, ?hv⟩) hH0 ?_
         case hv => intro w' hS; have z0 := (HC12.out w' hS).1; have z1 := (HC12.out w' hS).2; go_simp; try exact rfl
         simp only [Act.put, qa]
         apply tk 2 (v := _) rfl (Or.inl ⟨by kernel_rfl, ?hv⟩) hH0 ?_
         case hv => intro w' hS; have z0 := (HC12.out w' hS).1; have z1 := (HC12.out w' hS).2; go_simp; try exact rfl
         simp only [Act.put, qa]
         apply tk 3 (v := _) rfl (Or.inl ⟨by kernel_rfl, ?hv⟩) hH0 ?_
         case hv => intro w' hS; have z0 := (HC12.out w' hS).1; have z1 := (HC12.out w' hS).2; go_simp; try exact rfl
         simp only [Act.put, qa]
         apply tk 4 (v := _) rfl (Or.inl ⟨by kernel_rfl, ?hv⟩) hH0 ?_
         case hv => intro w' hS; have z0 := (HC12.out w' hS).1; have z1 := (HC12.out w' hS).2; go_simp; try exact rfl
         simp only [Act.put, qa]
         apply tk 5 (v := _) rfl (Or.inl ⟨by kernel_rfl, ?hv⟩) hH0 ?_
         case hv => intro w' hS; have z0 := (HC12.out w' hS).1; have z1 := (HC12.out w' hS).2; go_simp; try exact rfl
         simp only [Act.put, qa]
         refine wpAnyH_ready (rs := [6]) (by kernel_rfl) (by simp) ?_
         refine AllReadyH.cons rfl (fun KK hKK => ?_) AllReadyH.nil
         go_simp
         refine (add_fits _ SM AM HFIT.out).mono ?_
         rintro _ xc ⟨rfl, hxc⟩
         have hsc : Below W7.heap.size W7 xc := by rw [hxc]; exact hH0
         clear hxc
         refine Shut.out hKK _ _ hsc (fun hH1 => ?_)
         clear hKK KK
         try simp only [Act.put, qa]
         apply tk 7 (v := _) rfl (Or.inl ⟨by kernel_rfl, ?hv⟩) hH1 ?_
         case hv => intro w' hS; have z0 := (HC12.out w' hS).1; have z1 := (HC12.out w' hS).2; go_simp; try exact rfl
         simp only [Act.put, qa]
         apply tk 8 (v := _) rfl (Or.inl ⟨by kernel_rfl, ?hv⟩) hH1 ?_
         case hv => intro w' hS; have z0 := (HC12.out w' hS).1; have z1 := (HC12.out w' hS).2; go_simp; try exact rfl
         simp only [Act.put, qa]
         apply tk 9 (v := _) rfl (Or.inl ⟨by kernel_rfl, ?hv⟩) hH1 ?_
         case hv => intro w' hS; have z0 := (HC12.out w' hS).1; have z1 := (HC12.out w' hS).2; go_simp; try exact rfl
         simp only [Act.put, qa]
         apply tk 10 (v := _) rfl (Or.inl ⟨by kernel_rfl, ?hv⟩) hH1 ?_
         case hv => intro w' hS; have z0 := (HC12.out w' hS).1; have z1 := (HC12.out w' hS).2; go_simp; try exact rfl
         simp only [Act.put, qa]
         apply tk 11 (v := _) rfl (Or.inl ⟨by kernel_rfl, ?hv⟩) hH1 ?_
         case hv => intro w' hS; have z0 := (HC12.out w' hS).1; have z1 := (HC12.out w' hS).2; go_simp; try exact rfl
         simp only [Act.put, qa]
         refine wpAnyH_done (by kernel_rfl) ?_ _
         refine NoPanic.normal ?_
         have HB12 := Lib.hid (HB7.out.trans (hsc.mono HB7.out.size))
         have H612 := Lib.hid (H67.out.below hsc H67.out.lt)
         have H312 := Lib.hid (H37.out.below hsc H37.out.lt)
         clear hsc hS0 HC12 HB7 H67 H37
         obtain ⟨W12, hW12⟩ : ∃ y, y = xc := ⟨_, rfl⟩
         subst hW12
         have HE := Lib.hid (show addE K s0 ls l = 0 by unfold addE; rw [if_neg HBAD.out, if_neg HNK.out, if_neg (by rw [← ENL.out]; exact HN256.out), if_pos (by rw [← ESM.out, ← EAM.out]; exact HFIT.out)])
         have HC15 := Lib.hid (show ∀ v, Below W12.heap.size W12 v → v.cell? ⟨g, 0, none⟩ = some (.map (some m0)) ∧ (Instr.lookup 98 (.map (some m0)) (.agg LI.toArray) false).run Tryz.prog v = .ok (.pointer po) v from fun v hv => ⟨(HCE.out v (HB12.out.trans (hv.mono HB12.out.size))).1, LK0.out v (HB12.out.trans (hv.mono HB12.out.size))⟩)
         go_upto_region 15 with (fail)
         have hS0 : Below W12.heap.size W12 W12.drew := (Below.refl _ _).drew
         refine wp_region_noPanic ?_
         refine wp_region_held_drew (S := (fun v => Below W12.heap.size W12 v)) (by kernel_rfl) hS0 (fun hH0 => ?_)
         apply tk 0 (v := _) rfl (Or.inl ⟨by kernel_rfl, ?hv⟩) hH0 ?_
         case hv => intro w' hS; have z0 := (HC15.out w' hS).1; have z1 := (HC15.out w' hS).2; go_simp; try exact rfl
         simp only [Act.put, qa]
         apply tk 1 (v := _) rfl (Or.inl ⟨by kernel_rfl, ?hv⟩) hH0 ?_
         case hv => intro w' hS; have z0 := (HC15.out w' hS).1; have z1 := (HC15.out w' hS).2; go_simp; try exact rfl
         simp only [Act.put, qa]
         apply tk 2 (v := _) rfl (Or.inl ⟨by kernel_rfl, ?hv⟩) hH0 ?_
         case hv => intro w' hS; have z0 := (HC15.out w' hS).1; have z1 := (HC15.out w' hS).2; go_simp; try exact rfl
         simp only [Act.put, qa]
         apply tk 3 (v := _) rfl (Or.inl ⟨by kernel_rfl, ?hv⟩) hH0 ?_
         case hv => intro w' hS; have z0 := (HC15.out w' hS).1; have z1 := (HC15.out w' hS).2; go_simp; try exact rfl
         simp only [Act.put, qa]
         apply tk 4 (v := _) rfl (Or.inl ⟨by kernel_rfl, ?hv⟩) hH0 ?_
         case hv => intro w' hS; have z0 := (HC15.out w' hS).1; have z1 := (HC15.out w' hS).2; go_simp; try exact rfl
         simp only [Act.put, qa]
         refine tk 5 (v := (.agg LI.toArray)) rfl (yieldsIf_load_mid (by kernel_rfl) 27 (.tmp 55) rfl B 0 rfl LI _ (fun w' h => (HAC.out _ B (H312.out.below h H312.out.lt)).2) Tryz.underlying27 rfl SZIL.out) hH0 ?_
         simp only [Act.put, qa]
         apply tk 6 (v := _) rfl (Or.inl ⟨by kernel_rfl, ?hv⟩) hH0 ?_
         case hv => intro w' hS; have z0 := (HC15.out w' hS).1; have z1 := (HC15.out w' hS).2; go_simp; try exact rfl
         simp only [Act.put, qa]
         apply tk 7 (v := _) rfl (Or.inl ⟨by kernel_rfl, ?hv⟩) hH0 ?_
         case hv => intro w' hS; have z0 := (HC15.out w' hS).1; have z1 := (HC15.out w' hS).2; go_simp; try exact rfl
         simp only [Act.put, qa]
         refine wpAnyH_done (by kernel_rfl) ?_ _
         refine NoPanic.normal ?_
         obtain ⟨W15, hW15⟩ : ∃ y, y = W12.drew := ⟨_, rfl⟩
         have HB15 := Lib.hid (show Below w.heap.size w W15 by rw [hW15]; exact HB12.out.drew)
         have H615 := Lib.hid (show Has W15 B6 27 KL.toArray by rw [hW15]; exact H612.out)
         have H315 := Lib.hid (show Has W15 B 32 LC.toArray by rw [hW15]; exact H312.out)
         rw [← hW15]
         clear hW15 hS0 HC15 HB12 H612 H312
         go_upto_if 59 with (fail)
         go_cut [11] from 51 to 60 (fun pv wx => ∃ q Zt, pv = .pointer (some ⟨q, 0, none⟩) ∧ Below W15.heap.size W15 wx ∧ Tr K s0 Zt wx q (lowT K s0 ls l.id) ∧ (∀ k, Zt k → k < wx.heap.size) ∧ 2 + 1 ≤ q ∧ (((l.id, q) ∈ E ∧ Zt = Z q ∧ ∀ k, Zt k → k < w.heap.size) ∨ (l.id ∉ idsOf ls ∧ ∀ k, Zt k → W15.heap.size ≤ k)))
         case first =>
          rcases HPO.out with ⟨q, hq, hpo⟩ | ⟨hne, hpo⟩
          · subst hpo
            have HQ := Lib.hid hq
            have HTQ := Lib.hid ((H0.out.trees _ hq).quiet HB15.out)
            have HZQ := Lib.hid (fun k hz => (H0.out.zone _ hq k hz).1)
            have HLQ := Lib.hid (H0.out.low _ hq)
            clear hq
            go_wp2
            go_meet
            case rel => exact ⟨q, Z q, rfl, Below.refl _ _, HTQ.out, fun k hz => Nat.lt_of_lt_of_le (HZQ.out k hz) HB15.out.size, HLQ.out, .inl ⟨HQ.out, rfl, HZQ.out⟩⟩
          · subst hpo
            have HNE := Lib.hid hne
            clear hne
            go_wp2_with fail
            refine (newT_is K s0 (fun k => W15.heap.size ≤ k) W15 (fun k h => h)).mono ?_
            rintro _ wn ⟨q, rfl, htr, hbn, hqs⟩
            have HTR := Lib.hid (show Tr K s0 (fun k => W15.heap.size ≤ k ∧ k < wn.heap.size) wn q (lowT K s0 ls l.id) by rw [low_nil HNE.out]; exact htr.zone (fun k h1 h2 => ⟨h2, h1⟩))
            have HBN := Lib.hid hbn
            have HLQ := Lib.hid (show 2 + 1 ≤ q from Nat.le_trans (HTV.out W15 HB15.out).low hqs)
            clear htr hbn hqs
            go_wp2
            go_meet
            case rel => exact ⟨q, _, rfl, HBN.out, HTR.out, fun k hz => hz.2, HLQ.out, .inr ⟨HNE.out, fun k hz => hz.1⟩⟩
         case rest =>
          obtain ⟨W18, hW18⟩ : ∃ x, x = wc := ⟨_, rfl⟩
          subst hW18
          obtain ⟨q, Zt, rfl, hb18, htr, hzl, hlow, hqz⟩ := hcut
          have HB18 := Lib.hid (HB15.out.trans (hb18.mono HB15.out.size))
          have H618 := Lib.hid (H615.out.below hb18 H615.out.lt)
          have H318 := Lib.hid (H315.out.below hb18 H315.out.lt)
          have HTR := Lib.hid htr
          have HZL := Lib.hid hzl
          have HLOW := Lib.hid hlow
          have HNB := Lib.hid (show ¬ Zt B ∧ ¬ Zt B6 by
            have a1 := H315.out.lt
            have a2 := H615.out.lt
            have a3 := HLE6.out
            have a4 := EB.out
            rcases hqz with ⟨_, _, h3⟩ | ⟨_, h3⟩
            · exact ⟨fun e => by have := h3 _ e; omega, fun e => by have := h3 _ e; omega⟩
            · exact ⟨fun e => by have := h3 _ e; omega, fun e => by have := h3 _ e; omega⟩)
          have HQZ := Lib.hid (show ((l.id, q) ∈ E ∧ Zt = Z q) ∨ (l.id ∉ idsOf ls ∧ ∀ k, Zt k → w.heap.size ≤ k) by
            rcases hqz with ⟨h1, h2, _⟩ | ⟨h1, h2⟩
            · exact .inl ⟨h1, h2⟩
            · exact .inr ⟨h1, fun k hk => Nat.le_trans HB15.out.size (h2 k hk)⟩)
          clear hb18 htr hzl hlow hqz HPO LK0 HB15 H615 H315
          go_upto_region 18 with (fail)
          have hS0 : Below W18.heap.size W18 W18.drew := (Below.refl _ _).drew
          have hS0 : Kept Zt W18 W18.drew := (Kept.refl _ _).drew
          have hbb : Below W18.heap.size W18 W18.drew := (Below.refl _ _).drew
          have HR18 := Lib.hid (show ∀ v, Kept Zt W18 v → v.rangeAt B6 0 KL ∧ v.rangeAt B 0 LC from fun v hv => ⟨(H618.out.kept hv HNB.out.2).row0, (H318.out.kept hv HNB.out.1).row0⟩)
          refine wp_region_noPanic ?_
          refine wp_region_held_drew (S := (fun v => Kept Zt W18 v)) (by kernel_rfl) hS0 (fun hH0 => ?_)
          apply tk 0 (v := _) rfl (Or.inl ⟨by kernel_rfl, ?hv⟩) hH0 ?_
          case hv => intro w' hS; go_simp; try exact rfl
          simp only [Act.put, qa]
          refine tk 1 (v := (.agg KL.toArray)) rfl (yieldsIf_load_mid (by kernel_rfl) 27 (.tmp 6) rfl B6 0 rfl KL _ (fun w' h => (HR18.out _ h).1) Tryz.underlying27 rfl SZKL.out) hH0 ?_
          simp only [Act.put, qa]
          refine tk 2 (v := (.agg LC.toArray)) rfl (yieldsIf_load_mid (by kernel_rfl) 32 (.tmp 3) rfl B 0 rfl LC _ (fun w' h => (HR18.out _ h).2) Tryz.underlying32 rfl SZCL.out) hH0 ?_
          simp only [Act.put, qa]
          refine wpAnyH_ready (rs := [3]) (by kernel_rfl) (by simp) ?_
          refine AllReadyH.cons rfl (fun KK hKK => ?_) AllReadyH.nil
          go_simp
          have hsm := lfSum_is W18.drew l HL.out
          rw [← ELC.out] at hsm
          refine hsm.mono ?_
          rintro _ xs ⟨hbs, hor⟩
          obtain ⟨sv, rfl, hby⟩ := sum_good HBAD.out hor
          have hs3 : Kept Zt W18 xs := Kept.trans hH0 (Kept.of_below hbs)
          replace hbb := hbb.trans (hbs.mono hbb.size)
          clear hsm hor hbs
          rw [← EAM.out]
          refine Shut.out hKK _ _ hs3 (fun hH1 => ?_)
          clear hKK KK
          try simp only [Act.put, qa]
          refine wpAnyH_ready (rs := [4]) (by kernel_rfl) (by simp) ?_
          refine AllReadyH.cons rfl (fun KK hKK => ?_) AllReadyH.nil
          go_simp
          have hpt := add_put (HTV.out W18 HB18.out).len H0.out.fine HL.out HE.out HTR.out hbb HZL.out hby
          unfold arr at hpt
          rw [← EKL.out, ← EAM.out] at hpt
          refine hpt.mono ?_
          rintro _ xp ⟨rfl, htp, hkp⟩
          clear hpt hby hbb
          refine Shut.out hKK _ _ hkp (fun hH2 => ?_)
          clear hKK KK
          try simp only [Act.put, qa]
          apply tk 5 (v := _) rfl (Or.inl ⟨by kernel_rfl, ?hv⟩) hH2 ?_
          case hv => intro w' hS; go_simp; try exact rfl
          simp only [Act.put, qa]
          refine wpAnyH_done (by kernel_rfl) ?_ _
          refine NoPanic.normal ?_
          have HTP := Lib.hid htp
          have HKP := Lib.hid hkp
          clear htp hkp hs3 hS0 HR18
          obtain ⟨W21, hW21⟩ : ∃ y, y = xp := ⟨_, rfl⟩
          subst hW21
          have hm0a : MapIs W21 m0 (E.map entP) := ((H0.out.quiet HB18.out).map0).kept HKP.out (fun e => by
            rcases HQZ.out with ⟨h1, h2⟩ | ⟨_, h2⟩
            · rw [h2] at e; exact (H0.out.zone _ h1 m0 e).2.2.2.1 rfl
            · have a1 := h2 m0 e; have a2 := H0.out.map0.lt; omega)
          have hm1a : MapIs W21 m1 (ls.map (entL K s0)) := ((H0.out.quiet HB18.out).map1).kept HKP.out (fun e => by
            rcases HQZ.out with ⟨h1, h2⟩ | ⟨_, h2⟩
            · rw [h2] at e; exact (H0.out.zone _ h1 m1 e).2.2.2.2 rfl
            · have a1 := h2 m1 e; have a2 := H0.out.map1.lt; omega)
          have hoba : Has W21 g 101 #[.map (some m0), .map (some m1), .int .u64 (SM : Int)] := by
            have := ((H0.out.quiet HB18.out).obj).kept HKP.out (fun e => by
              rcases HQZ.out with ⟨h1, h2⟩ | ⟨_, h2⟩
              · rw [h2] at e; exact (H0.out.zone _ h1 g e).2.2.1 rfl
              · have a1 := h2 g e; have a2 := H0.out.obj.lt; omega)
            rw [← ESM.out] at this
            exact this
          have h621 := H618.out.kept HKP.out HNB.out.2
          have h321 := H318.out.kept HKP.out HNB.out.1
          obtain ⟨hgm0, hgm1⟩ := (H0.out.quiet HB18.out).gm
          have hmne := H0.out.ne
          have hB6m : B6 ≠ m0 ∧ B6 ≠ m1 := ⟨map_has_ne hm0a h621, map_has_ne hm1a h621⟩
          have hBm : B ≠ m0 ∧ B ≠ m1 := ⟨map_has_ne hm0a h321, map_has_ne hm1a h321⟩
          have hBg : B ≠ g ∧ B6 ≠ g := by have a1 := H0.out.obj.lt; have a2 := EB.out; have a3 := HLE6.out; exact ⟨by omega, by omega⟩
          have hkh : IsHash (keyK K s0 l) := tagD_hash K s0 (HTV.out W18 HB18.out).len _ _
          obtain ⟨w1, v0, st0, q1, hk1, ⟨-, -⟩, hst0⟩ := entry_is (T := 98) Tryz.underlying98 zero_ptrT hm0a.drew HL.out.id
          obtain ⟨w2, q2, hm2, hk2⟩ := hst0 (.pointer (some ⟨q, 0, none⟩))
          have hk2' : Kept (fun k => k = m0) W21 w2 := ((Kept.refl (fun k => k = m0) W21).drew).trans hk2
          have hm1b : MapIs w2 m1 (ls.map (entL K s0)) := hm1a.kept hk2' (fun e => hmne e.symm)
          obtain ⟨w3, v1, st1, q3, hk3, ⟨-, -⟩, hst1⟩ := entry_is (T := 99) Tryz.underlying99 hzl hm1b hkh
          obtain ⟨w4, q4, hm4, hk4⟩ := hst1 (.agg LC.toArray)
          unfold arr at q1 q3
          rw [← ELI.out] at q1
          rw [← EKL.out] at q3
          have hk24 : Kept (fun k => k = m0 ∨ k = m1) W21 w4 := (hk2'.mono (fun _ _ e => .inl e)).trans (hk4.mono (fun _ _ e => .inr e))
          have hk21 : Kept (fun k => k = m0 ∨ k = m1) W21 w1 := (((Kept.refl (fun k => k = m0) W21).drew).trans hk1).mono (fun _ _ e => .inl e)
          have hk22 : Kept (fun k => k = m0 ∨ k = m1) W21 w2 := hk2'.mono (fun _ _ e => .inl e)
          have hk23 : Kept (fun k => k = m0 ∨ k = m1) W21 w3 := hk22.trans (hk3.mono (fun _ _ e => .inr e))
          have hob4 := hoba.kept hk24 (fun e => by rcases e with e | e; exact hgm0 e; exact hgm1 e)
          have hc2 : w4.cell? ⟨g, 2, none⟩ = some (.int .u64 (SM : Int)) := hob4.cell_is rfl
          have hz2 : w4.frozen? ⟨g, 2, none⟩ = false := hob4.free 2
          obtain ⟨w5, hw5⟩ : ∃ y, y = w4.setCell ⟨g, 2, none⟩ (.int .u64 ((SM : Int) + (AM : Int))) := ⟨_, rfl⟩
          have hob5 : Has w5 g 101 #[.map (some m0), .map (some m1), .int .u64 ((SM + AM : Nat) : Int)] := by rw [hw5, show ((SM + AM : Nat) : Int) = (SM : Int) + (AM : Int) from Int.natCast_add SM AM]; exact hob4.set 2 _
          have hk45 : Kept (fun k => k = g) w4 w5 := by rw [hw5]; exact (Kept.refl (fun k => k = g) w4).set (p := ⟨g, 2, none⟩) (.inl rfl) _
          have hk5 : Kept (fun k => k = m0 ∨ k = m1 ∨ k = g) W21 w5 := (hk24.mono (fun _ _ e => by rcases e with e | e; exact .inl e; exact .inr (.inl e))).trans (hk45.mono (fun _ _ e => .inr (.inr e)))
          have hfin := add_fin H0.out HN.out HL.out HE.out HB18.out HQZ.out HZL.out HLOW.out HTP.out HKP.out hk5 (by rw [← ESM.out, ← EAM.out]; exact hob5) ((hm2.kept (S := fun k => k = m1) hk4 (fun e => hmne e)).kept hk45 (fun e => hgm0 e.symm)) (by rw [← ELC.out]; exact hm4.kept hk45 (fun e => hgm1 e.symm))
          have HFIN := Lib.hid hfin
          have HSV := Lib.hid (show ∀ v, Kept (fun k => k = m0 ∨ k = m1 ∨ k = g) W21 v → v.rangeAt B 0 LC ∧ v.rangeAt B 0 LI ∧ v.rangeAt B6 0 KL from fun v hv => by
            have h3 := h321.kept hv (fun e => by rcases e with e | e | e; exact hBm.1 e; exact hBm.2 e; exact hBg.1 e)
            have h6 := h621.kept hv (fun e => by rcases e with e | e | e; exact hB6m.1 e; exact hB6m.2 e; exact hBg.2 e)
            exact ⟨h3.row0, (HAC.out v B h3).2, h6.row0⟩)
          have HGC := Lib.hid (show ∀ v, Kept (fun k => k = m0 ∨ k = m1) W21 v → v.cell? ⟨g, 0, none⟩ = some (.map (some m0)) ∧ v.cell? ⟨g, 1, none⟩ = some (.map (some m1)) from fun v hv => by
            have h3 := hoba.kept hv (fun e => by rcases e with e | e; exact hgm0 e; exact hgm1 e)
            exact ⟨h3.cell_is rfl, h3.cell_is rfl⟩)
          have hup : ∀ v, Kept (fun k => k = m0 ∨ k = m1) W21 v → Kept (fun k => k = m0 ∨ k = m1 ∨ k = g) W21 v ∧ v.cell? ⟨g, 0, none⟩ = some (.map (some m0)) ∧ v.cell? ⟨g, 1, none⟩ = some (.map (some m1)) := fun v hv => ⟨hv.mono (fun _ _ e => by rcases e with e | e; exact .inl e; exact .inr (.inl e)), HGC.out v hv⟩
          have hS1 := hup w1 hk21
          have hS2 := hup w2 hk22
          have hS3 := hup w3 hk23
          have hS4 := hup w4 hk24
          have hS5 : Kept (fun k => k = m0 ∨ k = m1 ∨ k = g) W21 w5 ∧ w5.cell? ⟨g, 0, none⟩ = some (.map (some m0)) ∧ w5.cell? ⟨g, 1, none⟩ = some (.map (some m1)) := ⟨hk5, hob5.cell_is rfl, hob5.cell_is rfl⟩
          have hS0 := hup W21.drew ((Kept.refl _ _).drew)
          have EW5 := Lib.hid hw5
          have HW5 := Lib.hid hS5
          have HFIT2 := Lib.hid (show addC K s0 ls l = ls ++ [l] by unfold addC; rw [if_pos HE.out])
          clear hm0a hm1a hoba h621 h321 hst0 hst1 hm2 hm4 hm1b hk1 hk2 hk3 hk4 hk2' hk21 hk22 hk23 hk24 hob4 hob5 hk45 hk5 hfin hup hw5 hS5 hkh hB6m hBm hBg hgm0 hgm1 hmne
          go_upto_region 21 with (fail)
          refine wp_region_noPanic ?_
          refine wp_region_held_drew (S := (fun v => Kept (fun k => k = m0 ∨ k = m1 ∨ k = g) W21 v ∧ v.cell? ⟨g, 0, none⟩ = some (.map (some m0)) ∧ v.cell? ⟨g, 1, none⟩ = some (.map (some m1)))) (by kernel_rfl) hS0 (fun hH0 => ?_)
          apply tk 0 (v := _) rfl (Or.inl ⟨by kernel_rfl, ?hv⟩) hH0 ?_
          case hv => intro w' hS; have z0 := hS.2.1; have z1 := hS.2.2; go_simp; try exact rfl
          simp only [Act.put, qa]
          apply tk 1 (v := _) rfl (Or.inl ⟨by kernel_rfl, ?hv⟩) hH0 ?_
          case hv => intro w' hS; have z0 := hS.2.1; have z1 := hS.2.2; go_simp; try exact rfl
          simp only [Act.put, qa]
          apply tk 2 (v := _) rfl (Or.inl ⟨by kernel_rfl, ?hv⟩) hH0 ?_
          case hv => intro w' hS; have z0 := hS.2.1; have z1 := hS.2.2; go_simp; try exact rfl
          simp only [Act.put, qa]
          apply tk 3 (v := _) rfl (Or.inl ⟨by kernel_rfl, ?hv⟩) hH0 ?_
          case hv => intro w' hS; have z0 := hS.2.1; have z1 := hS.2.2; go_simp; try exact rfl
          simp only [Act.put, qa]
          apply tk 4 (v := _) rfl (Or.inl ⟨by kernel_rfl, ?hv⟩) hH0 ?_
          case hv => intro w' hS; have z0 := hS.2.1; have z1 := hS.2.2; go_simp; try exact rfl
          simp only [Act.put, qa]
          refine tk 5 (v := (.agg LI.toArray)) rfl (yieldsIf_load_mid (by kernel_rfl) 27 (.tmp 73) rfl B 0 rfl LI _ (fun w' h => (HSV.out _ h.1).2.1) Tryz.underlying27 rfl SZIL.out) hH0 ?_
          simp only [Act.put, qa]
          apply tk 6 (v := _) rfl (Or.inl ⟨by kernel_rfl, ?hv⟩) hH0 ?_
          case hv => intro w' hS; have z0 := hS.2.1; have z1 := hS.2.2; go_simp; try exact rfl
          simp only [Act.put, qa]
          apply tk 7 (v := _) rfl (Or.inl ⟨by kernel_rfl, ?hv⟩) hH0 ?_
          case hv => intro w' hS; have z0 := hS.2.1; have z1 := hS.2.2; go_simp; try exact rfl
          simp only [Act.put, qa]
          apply tk 8 (v := _) rfl (Or.inl ⟨by kernel_rfl, ?hv⟩) hH0 ?_
          case hv => intro w' hS; have z0 := hS.2.1; have z1 := hS.2.2; go_simp; try exact rfl
          simp only [Act.put, qa]
          apply tk 9 (v := _) rfl (Or.inl ⟨by kernel_rfl, ?hv⟩) hH0 ?_
          case hv => intro w' hS; have z0 := hS.2.1; have z1 := hS.2.2; go_simp; try exact rfl
          simp only [Act.put, qa]
          refine tk 10 (v := (.agg KL.toArray)) rfl (yieldsIf_load_mid (by kernel_rfl) 27 (.tmp 6) rfl B6 0 rfl KL _ (fun w' h => (HSV.out _ h.1).2.2) Tryz.underlying27 rfl SZKL.out) hH0 ?_
          simp only [Act.put, qa]
          apply tk 11 (v := _) rfl (Or.inl ⟨by kernel_rfl, ?hv⟩) hH0 ?_
          case hv => intro w' hS; have z0 := hS.2.1; have z1 := hS.2.2; go_simp; try exact rfl
          simp only [Act.put, qa]
          apply tk 12 (v := _) rfl (Or.inl ⟨by kernel_rfl, ?hv⟩) hH0 ?_
          case hv => intro w' hS; have z0 := hS.2.1; have z1 := hS.2.2; go_simp; try exact rfl
          simp only [Act.put, qa]
          refine tk 13 (v := (.agg LC.toArray)) rfl (yieldsIf_load_mid (by kernel_rfl) 32 (.tmp 3) rfl B 0 rfl LC _ (fun w' h => (HSV.out _ h.1).1) Tryz.underlying32 rfl SZCL.out) hH0 ?_
          simp only [Act.put, qa]
          apply tk 14 (v := _) rfl (Or.inl ⟨by kernel_rfl, ?hv⟩) hH0 ?_
          case hv => intro w' hS; have z0 := hS.2.1; have z1 := hS.2.2; go_simp; try exact rfl
          simp only [Act.put, qa]
          refine wpAnyH_ready (rs := [15]) (by kernel_rfl) (by simp) ?_
          refine AllReadyH.cons rfl (fun KK hKK => ?_) AllReadyH.nil
          go_simp
          refine Shut.out hKK _ _ hS1 (fun hH1 => ?_)
          clear hKK KK
          try simp only [Act.put, qa]
          apply tk 16 (v := _) rfl (Or.inl ⟨by kernel_rfl, ?hv⟩) hH1 ?_
          case hv => intro w' hS; have z0 := hS.2.1; have z1 := hS.2.2; go_simp; try exact rfl
          simp only [Act.put, qa]
          refine wpAnyH_ready (rs := [17]) (by kernel_rfl) (by simp) ?_
          refine AllReadyH.cons rfl (fun KK hKK => ?_) AllReadyH.nil
          go_simp
          refine Shut.out hKK _ _ hS2 (fun hH2 => ?_)
          clear hKK KK
          try simp only [Act.put, qa]
          refine wpAnyH_ready (rs := [18]) (by kernel_rfl) (by simp) ?_
          refine AllReadyH.cons rfl (fun KK hKK => ?_) AllReadyH.nil
          go_simp
          refine Shut.out hKK _ _ hS3 (fun hH3 => ?_)
          clear hKK KK
          try simp only [Act.put, qa]
          apply tk 19 (v := _) rfl (Or.inl ⟨by kernel_rfl, ?hv⟩) hH3 ?_
          case hv => intro w' hS; have z0 := hS.2.1; have z1 := hS.2.2; go_simp; try exact rfl
          simp only [Act.put, qa]
          refine wpAnyH_ready (rs := [20]) (by kernel_rfl) (by simp) ?_
          refine AllReadyH.cons rfl (fun KK hKK => ?_) AllReadyH.nil
          go_simp
          refine Shut.out hKK _ _ hS4 (fun hH4 => ?_)
          clear hKK KK
          try simp only [Act.put, qa]
          apply tk 21 (v := _) rfl (Or.inl ⟨by kernel_rfl, ?hv⟩) hH4 ?_
          case hv => intro w' hS; have z0 := hS.2.1; have z1 := hS.2.2; go_simp; try exact rfl
          simp only [Act.put, qa]
          apply tk 22 (v := _) rfl (Or.inl ⟨by kernel_rfl, ?hv⟩) hH4 ?_
          case hv => intro w' hS; have z0 := hS.2.1; have z1 := hS.2.2; go_simp; try exact rfl
          simp only [Act.put, qa]
          refine wpAnyH_ready (rs := [23]) (by kernel_rfl) (by simp) ?_
          refine AllReadyH.cons rfl (fun KK hKK => ?_) AllReadyH.nil
          go_simp
          rw [← EW5.out]
          refine Shut.out hKK _ _ HW5.out (fun hH5 => ?_)
          clear hKK KK
          try simp only [Act.put, qa]
          refine wpAnyH_done (by kernel_rfl) ?_ _
          refine NoPanic.normal ?_
          go_wp2
          go_ret
          exact ⟨by rw [HE.out]; rfl, by rw [HFIT2.out]; exact HFIN.out.1, HFIN.out.2⟩
       · have HFIT := Lib.hid hfit
         have HE := Lib.hid (show addE K s0 ls l = 10 by unfold addE; rw [if_neg HBAD.out, if_neg HNK.out, if_neg (by rw [← ENL.out]; exact HN256.out), if_neg (by rw [← ESM.out, ← EAM.out]; exact hfit)])
         clear hfit
         refine wp_region_noPanic ?_
         refine wp_region_held_drew (S := (fun v => Below W7.heap.size W7 v)) (by kernel_rfl) hS0 (fun hH0 => ?_)
         apply tk 0 (v := _) rfl (Or.inl ⟨by kernel_rfl, ?hv⟩) hH0 ?_
         case hv => intro w' hS; have z0 := (HC12.out w' hS).1; have z1 := (HC12.out w' hS).2; go_simp; try exact rfl
         simp only [Act.put, qa]
         apply tk 1 (v := _) rfl (Or.inl ⟨by kernel_rfl, ?hv⟩) hH0 ?_
         case hv => intro w' hS; have z0 := (HC12.out w' hS).1; have z1 := (HC12.out w' hS).2; go_simp; try exact rfl
         simp only [Act.put, qa]
         apply tk 2 (v := _) rfl (Or.inl ⟨by kernel_rfl, ?hv⟩) hH0 ?_
         case hv => intro w' hS; have z0 := (HC12.out w' hS).1; have z1 := (HC12.out w' hS).2; go_simp; try exact rfl
         simp only [Act.put, qa]
         apply tk 3 (v := _) rfl (Or.inl ⟨by kernel_rfl, ?hv⟩) hH0 ?_
         case hv => intro w' hS; have z0 := (HC12.out w' hS).1; have z1 := (HC12.out w' hS).2; go_simp; try exact rfl
         simp only [Act.put, qa]
         apply tk 4 (v := _) rfl (Or.inl ⟨by kernel_rfl, ?hv⟩) hH0 ?_
         case hv => intro w' hS; have z0 := (HC12.out w' hS).1; have z1 := (HC12.out w' hS).2; go_simp; try exact rfl
         simp only [Act.put, qa]
         apply tk 5 (v := _) rfl (Or.inl ⟨by kernel_rfl, ?hv⟩) hH0 ?_
         case hv => intro w' hS; have z0 := (HC12.out w' hS).1; have z1 := (HC12.out w' hS).2; go_simp; try exact rfl
         simp only [Act.put, qa]
         refine wpAnyH_ready (rs := [6]) (by kernel_rfl) (by simp) ?_
         refine AllReadyH.cons rfl (fun KK hKK => ?_) AllReadyH.nil
         go_simp
         refine (add_over _ SM AM (Nat.le_of_not_lt HFIT.out) (by have := HNLE.out; omega)).mono ?_
         rintro _ xc ⟨rfl, hxc⟩
         have hsc : Below W7.heap.size W7 xc := by rw [hxc]; exact hH0
         clear hxc
         refine Shut.out hKK _ _ hsc (fun hH1 => ?_)
         clear hKK KK
         try simp only [Act.put, qa]
         apply tk 7 (v := _) rfl (Or.inl ⟨by kernel_rfl, ?hv⟩) hH1 ?_
         case hv => intro w' hS; have z0 := (HC12.out w' hS).1; have z1 := (HC12.out w' hS).2; go_simp; try exact rfl
         simp only [Act.put, qa]
         apply tk 8 (v := _) rfl (Or.inl ⟨by kernel_rfl, ?hv⟩) hH1 ?_
         case hv => intro w' hS; have z0 := (HC12.out w' hS).1; have z1 := (HC12.out w' hS).2; go_simp; try exact rfl
         simp only [Act.put, qa]
         apply tk 9 (v := _) rfl (Or.inl ⟨by kernel_rfl, ?hv⟩) hH1 ?_
         case hv => intro w' hS; have z0 := (HC12.out w' hS).1; have z1 := (HC12.out w' hS).2; go_simp; try exact rfl
         simp only [Act.put, qa]
         apply tk 10 (v := _) rfl (Or.inl ⟨by kernel_rfl, ?hv⟩) hH1 ?_
         case hv => intro w' hS; have z0 := (HC12.out w' hS).1; have z1 := (HC12.out w' hS).2; go_simp; try exact rfl
         simp only [Act.put, qa]
         apply tk 11 (v := _) rfl (Or.inl ⟨by kernel_rfl, ?hv⟩) hH1 ?_
         case hv => intro w' hS; have z0 := (HC12.out w' hS).1; have z1 := (HC12.out w' hS).2; go_simp; try exact rfl
         simp only [Act.put, qa]
         refine wpAnyH_done (by kernel_rfl) ?_ _
         refine NoPanic.normal ?_
         have HB12 := Lib.hid (HB7.out.trans (hsc.mono HB7.out.size))
         clear hsc hS0 HC12 HB7 H67 H37
         go_wp2
         go_ret
         exact HSTAY.out 10 HE.out (by decide) _ HB12.out
theorem coAdd_is (h : Cm K s0 S w g ls) (hn : ∀ k, w.heap.size ≤ k → S k) (hT : Tabs K s0 w) (l : LeafT) (hl : l.ok) :
  Calls Tryz.prog 11 #[.pointer (some ⟨g, 0, none⟩), .agg l.cells.toArray] w fun e w' => e = .returned (.int .i64 (addE K s0 ls l)) ∧ Cm K s0 S w' g (addC K s0 ls l) ∧ Kept S w w' := by
 obtain ⟨m0, m1, E, Z, h⟩ := h
 exact coAdd_at h hn hT l hl
end Go.Proofs.YtknfbccbdiidjaaGreatDoor

