/- The walk of commit's Anchor. -/
import Derived.Test.YtknfbccbdiidjaaGreatDoorWs
import Derived.Test.YtknfbccbdiidjaaGreatDoorUCo5
import Derived.Test.YtknfbccbdiidjaaGreatDoorURnEq
import Derived.Test.YtknfbccbdiidjaaGreatDoorULf1
namespace Go.Proofs.YtknfbccbdiidjaaGreatDoor
set_option linter.unusedVariables false
set_option linter.unusedSimpArgs false
open Go.ChangeShapes Go.WideShapes Go.ChangeAt Go.RowKit Go.Maps

variable {K s0 : List Wd} {S : Nat → Prop} {w w' : World} {g m0 m1 : Nat} {ls : List LeafT} {E : List (List Nat × Nat)} {Z : Nat → Nat → Prop}
theorem top_keyed (hf : Fine K s0 ls) : Keyed ((topT K s0 ls).map (·.k)) := by
 have e : (topT K s0 ls).map (·.k) = idsOf ls := by
  unfold topT
  rw [List.map_map]
  have : (Lf.k ∘ topL K s0 ls) = id := rfl
  rw [this, List.map_id]
 rw [e]
 exact ⟨fun k hk => by
  obtain ⟨l, hl, e2⟩ := (ids_mem ls k).1 hk
  rw [← e2]
  exact (hf.ok l hl).id, ids_nodup ls⟩
theorem top_perm (hf : Fine K s0 ls) {T : List Lf} (hp : T.Perm (topT K s0 ls)) (hk : Keyed (T.map (·.k))) : partNd K s0 256 T = partNd K s0 256 (topT K s0 ls) := part_perm K s0 256 T _ hk (coh_top _) hp
theorem top_fit (hs0 : s0.length = 8) (hf : Fine K s0 ls) : (partNd K s0 256 (topT K s0 ls)).s < 18446744073709551616 := by
 rw [part_sum K s0 256 _ (top_keyed hf) (coh_top _)]
 unfold topT
 rw [top_sum hs0 hf]
 have a1 := ids_sum ls _ (ids_nodup ls)
 have a2 := hf.fit
 omega
theorem top_hash (hs0 : s0.length = 8) : IsHash (partNd K s0 256 (topT K s0 ls)).h := part_hash K s0 hs0 256 _
theorem boxes_an (w : World) (Z : Array Value) : ∃ W1, W1 = (w.alloc (.cells Z 27)) ∧
   Has W1 (w.heap.size) 27 Z ∧ Below w.heap.size w W1 := by
 refine ⟨_, rfl, ?_, ?_⟩
 · have := Has.new w 27 Z
   exact this
 · exact (Below.refl _ _).alloc (Nat.le_refl _) _
set_option maxRecDepth 100000 in
set_option maxHeartbeats 8000000 in
theorem coAnch_at (h : CmAt K s0 S w g ls m0 m1 E Z) (hT : Tabs K s0 w) (hS : ∀ k, S k → 2 + 1 ≤ k) :
   Calls Tryz.prog 12 #[.pointer (some ⟨g, 0, none⟩)] w fun e w' => e = .returned (arr (anchorOf K s0 ls)) ∧ CmAt K s0 S w' g ls m0 m1 E Z ∧ Kept (fun k => ∃ e ∈ E, Z e.2 k) w w' := by
 obtain ⟨zk, hzk, hzks, hzkn⟩ := zero_hashT
 obtain ⟨D, hD⟩ : ∃ D, D = anchorOf K s0 ls := ⟨_, rfl⟩
 have hDh : IsHash D := by
   rw [hD]
   unfold anchorOf
   by_cases e : ls = []
   · rw [if_pos e]; exact ⟨rfl, fun k hk => by rw [List.eq_of_mem_replicate hk]; decide⟩
   · rw [if_neg e]; exact anchorK_hash K s0 hT.len _
 unfold arr
 rw [← hD]
 obtain ⟨LD, hLD⟩ : ∃ L, L = bcells D := ⟨_, rfl⟩
 rw [← hLD]
 have SZD := Lib.hid (show (Tryz.prog.info? 27).map (·.size) = some LD.toArray.size by rw [List.size_toArray, hLD, bcells_length, hDh.1]; kernel_rfl)
 have ZZD := Lib.hid (show zk.size = LD.toArray.size by rw [hzks, List.size_toArray, hLD, bcells_length, hDh.1])
 have ONED := Lib.hid (show LD.toArray.all (·.oneCell') = true by rw [hLD]; exact all_oneCell_toArray (bcells_one D))
 obtain ⟨nl, hnl⟩ : ∃ n, n = ls.length := ⟨_, rfl⟩
 have HLEN := Lib.hid (show ∀ v ty, Below w.heap.size w v → (Builtin.len_ #[99] ty #[.map (some m1)]).run Tryz.prog v = .ok (goInt nl) v from fun v ty hv => by
   have := len_mapL (h.quiet hv).map1 ty
   rwa [List.length_map, ← hnl] at this)
 have HNL := Lib.hid hnl
 have HD := Lib.hid hD
 have ELD := Lib.hid hLD
 have H := Lib.hid h
 have HS := Lib.hid hS
 have HT := Lib.hid hT
 obtain ⟨W1, hW1, h1, hb1⟩ := boxes_an w zk
 have EW := Lib.hid hW1
 have H1 := Lib.hid h1
 have HB1 := Lib.hid hb1
 clear h hT hS hD hDh hLD hnl hW1 h1 hb1 hzks
 go_enter Tryz.func12, Tryz.ntmps12
 go_upto_region 1 with (fail)
 rw [← EW.out]
 obtain ⟨B, hB⟩ : ∃ y, y = w.heap.size := ⟨_, rfl⟩
 rw [← hB] at H1 ⊢
 have EB := Lib.hid hB
 clear hB EW
 have hc1 := (H.out.quiet HB1.out).cells.2.1
 have hlen : ∀ ty, (Builtin.len_ #[99] ty #[.map (some m1)]).run Tryz.prog W1 = .ok (goInt nl) W1 := fun ty => HLEN.out W1 ty HB1.out
 by_cases hn0 : nl = 0
 · have HZ := Lib.hid (show LD = bcells (List.replicate 32 0) by
     have e0 : ls = [] := List.eq_nil_of_length_eq_zero (by rw [← HNL.out]; exact hn0)
     rw [ELD.out, HD.out]
     unfold anchorOf
     rw [if_pos e0])
   have HBH := Lib.hid (show ∀ v, (Instr.build 27 #[]).run Tryz.prog v = .ok (.agg LD.toArray) v from fun v => by rw [HZ.out]; kernel_rfl)
   subst hn0
   go_wp2_with (first
     | (refine wpList_build_run rfl 27 #[] rfl #[] (by kernel_rfl) (.agg LD.toArray) (HBH.out _) ?_)
     | (refine wpList_store_row rfl 27 (.tmp 2) (.tmp 13) rfl B LD.toArray rfl rfl 27 zk H1.out SZD.out ZZD.out ONED.out ?_))
   have hk9 := kept_setRow (g := B) W1 LD.toArray
   have hb9 := HB1.out.trans (hk9.below HB1.out.size (fun j e => by rw [show j = B from e, EB.out]; exact Nat.le_refl _))
   have HRES9 := Lib.hid (show Has (W1.setRow B LD.toArray) B 27 LD.toArray from H1.out.setRow)
   have HFIN := Lib.hid (And.intro (H.out.quiet hb9) (show Kept (fun k => ∃ e ∈ E, Z e.2 k) w (W1.setRow B LD.toArray) from Kept.of_below hb9))
   clear hk9 hb9
   refine bodyPost_ret (results_cell_row rfl _ _ B 27 LD.toArray (0, 0) _ rfl HRES9.out Tryz.underlying27 rfl SZD.out) rfl ?_
   exact ⟨rfl, HFIN.out⟩
 · have hn1 : ¬ (nl : Int) = 0 := by omega
   have HNN := Lib.hid (show ¬ ls = [] from fun e => hn0 (by rw [HNL.out, e]; rfl))
   clear hn0
   have hal := coAll_at ((H.out.zoneS (S' := fun k => S k ∧ k < w.heap.size) (fun k h1 h2 => ⟨h2, h1⟩)).quiet HB1.out) (HT.out.below HB1.out HT.out.low) (fun k e => HS.out k e.1)
   have HAL := Lib.hid hal
   clear hal
   go_wp2_with fail
   refine HAL.out.mono ?_
   rintro _ W3 ⟨ga, T, Za, rfl, hperm, htr, hza, hlo, hcm, hkp⟩
   have hBz : ¬ (∃ e ∈ E, Z e.2 B) := fun ⟨e, he, hz⟩ => by have a1 := (H.out.zone e he B hz).1; have a2 := EB.out; omega
   have hb3 := H1.out.kept hkp hBz
   have ht3 : Tabs K s0 W3 := (HT.out.below HB1.out HT.out.low).kept hkp (fun k ⟨e, he, hz⟩ => HS.out k (H.out.zone e he k hz).2.1)
   have hrt := tr_root htr ht3 hlo
   rw [top_perm H.out.fine hperm htr.keyed] at hrt
   obtain ⟨P, hP⟩ : ∃ P, P = partNd K s0 256 (topT K s0 ls) := ⟨_, rfl⟩
   rw [← hP] at hrt
   have HPH := Lib.hid (show IsHash P.h by rw [hP]; exact top_hash ht3.len)
   have HPS := Lib.hid (show P.s < 18446744073709551616 by rw [hP]; exact top_fit ht3.len H.out.fine)
   have HDP := Lib.hid (show anchorK K s0 P = D by rw [HD.out, hP]; unfold anchorOf; rw [if_neg HNN.out])
   have HRT := Lib.hid hrt
   have HKP := Lib.hid hkp
   have HCM := Lib.hid hcm
   have HB3 := Lib.hid hb3
   have HT3 := Lib.hid ht3
   have HZA := Lib.hid (show ∀ k, Za k → W1.heap.size ≤ k ∧ k ≠ B ∧ 2 + 1 ≤ k from fun k hz => by have a1 := hza k hz; have a2 := H1.out.lt; have a3 := (HT.out.below HB1.out HT.out.low).low; exact ⟨a1, by omega, by omega⟩)
   clear hperm htr hza hlo hcm hkp hBz hb3 ht3 hrt hP HAL hlen hc1
   go_wp2_with fail
   refine HRT.out.mono ?_
   rintro _ W4 ⟨rfl, -, hk4⟩
   have hb4 := HB3.out.kept hk4 (fun e => (HZA.out B e).2.1 rfl)
   have HB4 := Lib.hid hb4
   have HCM4 := Lib.hid (HCM.out.kept hk4 (fun k _ e1 e2 => by have a1 := (HZA.out k e2).1; have a2 := e1.2; have a3 := HB1.out.size; omega))
   have HT4 := Lib.hid (HT3.out.kept hk4 (fun k e => (HZA.out k e).2.2))
   have HK4 := Lib.hid (show Kept (fun k => (∃ e ∈ E, Z e.2 k) ∨ w.heap.size ≤ k) w W4 from ((Kept.of_below HB1.out).trans (HKP.out.mono (fun _ _ e => .inl e))).step hk4 (fun k e => .inr (Nat.le_trans HB1.out.size (HZA.out k e).1)))
   clear hb4 hk4 HB3 HCM HT3 HRT HKP
   have han := coAnchor_is K s0 W4 HT4.out P HPH.out HPS.out
   rw [HDP.out] at han
   unfold arr at han
   rw [← ELD.out] at han
   have HAN := Lib.hid han
   clear han
   go_wp2_with fail
   refine HAN.out.mono ?_
   rintro _ W5 ⟨rfl, hb5⟩
   have HB5 := Lib.hid (HB4.out.below hb5 HB4.out.lt)
   have HCM5 := Lib.hid (HCM4.out.quiet hb5)
   have HK5 := Lib.hid (HK4.out.trans (Kept.of_below hb5))
   clear hb5 HAN HCM4 HK4 HB4
   go_wp2_with (refine wpList_store_row rfl 27 (.tmp 2) (.tmp 17) rfl B LD.toArray rfl rfl 27 zk HB5.out SZD.out ZZD.out ONED.out ?_)
   have hk9 := kept_setRow (g := B) W5 LD.toArray
   have HRES9 := Lib.hid (show Has (W5.setRow B LD.toArray) B 27 LD.toArray from HB5.out.setRow)
   have HFIN := Lib.hid (show CmAt K s0 S (W5.setRow B LD.toArray) g ls m0 m1 E Z ∧ Kept (fun k => ∃ e ∈ E, Z e.2 k) w (W5.setRow B LD.toArray) from by
     refine ⟨(HCM5.out.kept hk9 (fun k _ e1 e2 => by have a1 := e1.2; have a2 : k = B := e2; have a3 := EB.out; omega)).zoneS (fun k _ e => e.1), ?_⟩
     · exact (HK5.out.step hk9 (fun k e => .inr (by rw [show k = B from e, EB.out]; exact Nat.le_refl _))).mono (fun k hk e => by rcases e with e | e; exact e; omega))
   clear hk9
   refine bodyPost_ret (results_cell_row rfl _ _ B 27 LD.toArray (0, 0) _ rfl HRES9.out Tryz.underlying27 rfl SZD.out) rfl ?_
   exact ⟨rfl, HFIN.out⟩
theorem zone_S (h : CmAt K s0 S w g ls m0 m1 E Z) (hk : Kept (fun k => ∃ e ∈ E, Z e.2 k) w w') : Kept S w w' := hk.mono (fun k _ ⟨e, he, hz⟩ => (h.zone e he k hz).2.1)
theorem coAnch_is (h : Cm K s0 S w g ls) (hT : Tabs K s0 w) (hS : ∀ k, S k → 2 + 1 ≤ k) :
  Calls Tryz.prog 12 #[.pointer (some ⟨g, 0, none⟩)] w fun e w' => e = .returned (arr (anchorOf K s0 ls)) ∧ Cm K s0 S w' g ls ∧ Kept S w w' := by
 obtain ⟨m0, m1, E, Z, h⟩ := h
 exact (coAnch_at h hT hS).mono fun e w' ⟨h1, h2, h3⟩ => ⟨h1, ⟨m0, m1, E, Z, h2⟩, zone_S h h3⟩
end Go.Proofs.YtknfbccbdiidjaaGreatDoor
/- Leaves compared, field by field. -/
namespace Go.Proofs.YtknfbccbdiidjaaGreatDoor
set_option linter.unusedVariables false
set_option linter.unusedSimpArgs false
open Go.ChangeShapes Go.WideShapes Go.ChangeAt Go.RowKit Go.Maps

theorem lq_num {t : TypeId} {k : IntKind} {T : TypeId} (ht : t = T) (hu : Tryz.prog.underlying T = some (.int k)) {l : List Value} {off : Nat} {v : Value} (h : l[off]? = some v) (w : World) : (part t l.toArray off).run Tryz.prog w = .ok v w := by
 subst ht
 exact part_int hu (by simpa using h) w
theorem lq_eq {t : TypeId} {k : IntKind} {T : TypeId} (ht : t = T) (hu : Tryz.prog.underlying T = some (.int k)) (d : Nat) (a b : Int) (w : World) : (Op.equalIn (d + 1) t (.int k a) (.int k b)).run Tryz.prog w = .ok (a == b) w := by
 subst ht
 exact run_equalIn_int w d t k k a b hu
instance : DecidableEq LeafT := fun a b => decidable_of_iff (a.id = b.id ∧ a.am = b.am ∧ a.ow = b.ow ∧ a.pl = b.pl ∧ a.sp.h = b.sp.h ∧ a.sp.s = b.sp.s) (by
  obtain ⟨a1, a2, a3, a4, ⟨a5, a6⟩⟩ := a
  obtain ⟨b1, b2, b3, b4, ⟨b5, b6⟩⟩ := b
  simp)
theorem lf_id {l : LeafT} (h : l.ok) : (l.cells.drop 0).take 32 = bcells l.id := by
 rw [List.drop_zero, LeafT.cells, List.take_append_of_le_length (by rw [bcells_length, h.id.1]; exact Nat.le_refl _)]
 exact List.take_of_length_le (by rw [bcells_length, h.id.1]; exact Nat.le_refl _)
theorem lf_ow {l : LeafT} (h : l.ok) : (l.cells.drop 33).take 32 = bcells l.ow := by
 have e : l.cells = (bcells l.id ++ [Value.int .u64 (l.am : Int)]) ++ (bcells l.ow ++ (.int .i64 l.pl :: ndV l.sp)) := by unfold LeafT.cells; simp
 have hl : (bcells l.id ++ [Value.int .u64 (l.am : Int)]).length = 33 := by simp [bcells_length, h.id.1]
 rw [e, ← hl, List.drop_left, List.take_append_of_le_length (by rw [bcells_length, h.ow.1]; exact Nat.le_refl _)]
 exact List.take_of_length_le (by rw [bcells_length, h.ow.1]; exact Nat.le_refl _)
theorem lf_sp {l : LeafT} (h : l.ok) : (l.cells.drop 66).take 33 = ndV l.sp := by
 have e : l.cells = (bcells l.id ++ [Value.int .u64 (l.am : Int)] ++ bcells l.ow ++ [Value.int .i64 l.pl]) ++ ndV l.sp := by unfold LeafT.cells; simp
 have hl : (bcells l.id ++ [Value.int .u64 (l.am : Int)] ++ bcells l.ow ++ [Value.int .i64 l.pl]).length = 66 := by simp [bcells_length, h.id.1, h.ow.1]
 rw [e, ← hl, List.drop_left]
 exact List.take_of_length_le (by rw [ndV_len h.sp]; exact Nat.le_refl _)
theorem nd_h {x : Nd} (h : IsHash x.h) : ((ndV x).drop 0).take 32 = bcells x.h := by
 rw [List.drop_zero, ndV, ncells, List.take_append_of_le_length (by rw [bcells_length, h.1]; exact Nat.le_refl _)]
 exact List.take_of_length_le (by rw [bcells_length, h.1]; exact Nat.le_refl _)
theorem nd_s {x : Nd} (h : IsHash x.h) : (ndV x)[32]? = some (.int .u64 (x.s : Int)) := by
 rw [ndV, ncells, List.getElem?_append_right (by rw [bcells_length, h.1]; exact Nat.le_refl _), bcells_length, h.1]
 rfl
theorem le_hash {t : TypeId} (ht : t = 27) {l : List Value} {off : Nat} {k : List Nat} (h : (l.drop off).take 32 = bcells k) (w : World) : (part t l.toArray off).run Tryz.prog w = .ok (.agg (bcells k).toArray) w := by
 subst ht
 rw [part_agg Tryz.underlying27 (k := 32) (by kernel_rfl), extract_list, h]
theorem le_heq {t : TypeId} (ht : t = 27) (d : Nat) {a b : List Nat} (ha : IsHash a) (hb : IsHash b) (w : World) : (Op.equalIn (d + 2) t (.agg (bcells a).toArray) (.agg (bcells b).toArray)).run Tryz.prog w = .ok (decide (a = b)) w := by
 subst ht
 exact hash_eq_at d a b ha hb w
theorem le_node {t : TypeId} (ht : t = 30) (d : Nat) (x y : Nd) (hx : IsHash x.h) (hy : IsHash y.h) (w : World) : (Op.equalIn (d + 4) t (.agg (ndV x).toArray) (.agg (ndV y).toArray)).run Tryz.prog w = .ok (decide (x.h = y.h ∧ x.s = y.s)) w := by
 subst ht
 obtain ⟨f0, f1, hf, ⟨n0, t0, o0⟩, ⟨n1, t1, o1⟩⟩ := mn_fields
 rw [run_equalIn_struct w (d + 3) 30 _ _ mn_struct (by kernel_rfl), hf, eqF_any n0 (le_hash t0 (off := f0.offset) (by rw [o0]; exact nd_h hx) w) (le_hash t0 (off := f0.offset) (by rw [o0]; exact nd_h hy) w) (le_heq t0 (d + 1) hx hy w),
   eqF_any n1 (lq_num t1 Tryz.underlying28 (off := f1.offset) (by rw [o1]; exact nd_s hx) w) (lq_num t1 Tryz.underlying28 (off := f1.offset) (by rw [o1]; exact nd_s hy) w) (lq_eq t1 Tryz.underlying28 (d + 2) _ _ w), eqF_nil]
 by_cases h1 : x.h = y.h
 · by_cases h2 : x.s = y.s
   · simp [h1, h2]
   · have h2' : ¬ ((x.s : Int) = (y.s : Int)) := fun e => h2 (by omega)
     simp [h1, h2, h2']
 · simp [h1]
theorem le_part {t : TypeId} (ht : t = 30) {l : List Value} {off : Nat} {x : Nd} (h : (l.drop off).take 33 = ndV x) (w : World) : (part t l.toArray off).run Tryz.prog w = .ok (.agg (ndV x).toArray) w := by
 subst ht
 obtain ⟨i, hi⟩ := info_of_underlying mn_struct
 have hc : Tryz.prog.cellsOf 30 = 33 := by kernel_rfl
 have e : l.toArray.extract off (off + Tryz.prog.cellsOf 30) = (ndV x).toArray := by rw [hc, extract_list, h]
 simp [part, isAgg, run_underlying mn_struct, run_sizeOf w hi, e, h]
theorem le_fields : ∃ f0 f1 f2 f3 f4, (Tryz.prog.fieldsOf 32).toList = [f0, f1, f2, f3, f4] ∧ (f0.name ≠ "_" ∧ f0.type = 27 ∧ f0.offset = 0) ∧ (f1.name ≠ "_" ∧ f1.type = 28 ∧ f1.offset = 32) ∧ (f2.name ≠ "_" ∧ f2.type = 27 ∧ f2.offset = 33) ∧
  (f3.name ≠ "_" ∧ f3.type = 3 ∧ f3.offset = 65) ∧ (f4.name ≠ "_" ∧ f4.type = 30 ∧ f4.offset = 66) := by
 unfold Program.fieldsOf
 rw [Tryz.underlying32]
 exact ⟨_, _, _, _, _, rfl, ⟨by decide, rfl, rfl⟩, ⟨by decide, rfl, rfl⟩, ⟨by decide, rfl, rfl⟩, ⟨by decide, rfl, rfl⟩, ⟨by decide, rfl, rfl⟩⟩
theorem le_struct : Tryz.prog.underlying 32 = some (.struct (Tryz.prog.fieldsOf 32)) := by
 unfold Program.fieldsOf
 rw [Tryz.underlying32]
theorem le_eq (x y : LeafT) (hx : x.ok) (hy : y.ok) (w : World) : (Op.equalIn 10000 32 (.agg x.cells.toArray) (.agg y.cells.toArray)).run Tryz.prog w = .ok (decide (x = y)) w := by
 obtain ⟨f0, f1, f2, f3, f4, hf, ⟨n0, t0, o0⟩, ⟨n1, t1, o1⟩, ⟨n2, t2, o2⟩, ⟨n3, t3, o3⟩, ⟨n4, t4, o4⟩⟩ := le_fields
 rw [run_equalIn_struct w 9999 32 _ _ le_struct (by kernel_rfl), hf,
   eqF_any n0 (le_hash t0 (off := f0.offset) (by rw [o0]; exact lf_id hx) w) (le_hash t0 (off := f0.offset) (by rw [o0]; exact lf_id hy) w) (le_heq t0 9997 hx.id hy.id w),
   eqF_any n1 (lq_num t1 Tryz.underlying28 (off := f1.offset) (by rw [o1]; exact LeafT.at_am hx) w) (lq_num t1 Tryz.underlying28 (off := f1.offset) (by rw [o1]; exact LeafT.at_am hy) w) (lq_eq t1 Tryz.underlying28 9998 _ _ w),
   eqF_any n2 (le_hash t2 (off := f2.offset) (by rw [o2]; exact lf_ow hx) w) (le_hash t2 (off := f2.offset) (by rw [o2]; exact lf_ow hy) w) (le_heq t2 9997 hx.ow hy.ow w),
   eqF_any n3 (lq_num t3 Tryz.underlying3 (off := f3.offset) (by rw [o3]; exact LeafT.at_pl hx) w) (lq_num t3 Tryz.underlying3 (off := f3.offset) (by rw [o3]; exact LeafT.at_pl hy) w) (lq_eq t3 Tryz.underlying3 9998 _ _ w),
   eqF_any n4 (le_part t4 (off := f4.offset) (by rw [o4]; exact lf_sp hx) w) (le_part t4 (off := f4.offset) (by rw [o4]; exact lf_sp hy) w) (le_node t4 9995 x.sp y.sp hx.sp hy.sp w), eqF_nil]
 have hd : (x = y) ↔ (x.id = y.id ∧ x.am = y.am ∧ x.ow = y.ow ∧ x.pl = y.pl ∧ x.sp.h = y.sp.h ∧ x.sp.s = y.sp.s) := by
   obtain ⟨a1, a2, a3, a4, ⟨a5, a6⟩⟩ := x
   obtain ⟨b1, b2, b3, b4, ⟨b5, b6⟩⟩ := y
   simp
 have hdd : decide (x = y) = decide (x.id = y.id ∧ x.am = y.am ∧ x.ow = y.ow ∧ x.pl = y.pl ∧ x.sp.h = y.sp.h ∧ x.sp.s = y.sp.s) := decide_eq_decide.2 hd
 rw [hdd]
 by_cases h1 : x.id = y.id
 · by_cases h2 : x.am = y.am
   · by_cases h3 : x.ow = y.ow
     · by_cases h4 : x.pl = y.pl
       · simp [h1, h2, h3, h4]
         by_cases h5 : x.sp.h = y.sp.h ∧ x.sp.s = y.sp.s
         · simp [h5]
         · simp [h5]
           exact fun e1 e2 => h5 ⟨e1, e2⟩
       · simp [h1, h2, h3, h4]
     · simp [h1, h2, h3]
   · have h2' : ¬ ((x.am : Int) = (y.am : Int)) := fun e => h2 (by omega)
     simp [h1, h2, h2']
 · simp [h1]

end Go.Proofs.YtknfbccbdiidjaaGreatDoor
