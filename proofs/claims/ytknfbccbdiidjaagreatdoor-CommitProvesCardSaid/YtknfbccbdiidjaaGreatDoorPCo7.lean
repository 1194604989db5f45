/- The walk of commit's Anchor. -/
import Derived.Test.YtknfbccbdiidjaaGreatDoorWu
import Derived.Test.YtknfbccbdiidjaaGreatDoorPCo5
import Derived.Test.YtknfbccbdiidjaaGreatDoorPBes1
import Derived.Test.YtknfbccbdiidjaaGreatDoorPLb2
namespace Go.Proofs.YtknfbccbdiidjaaGreatDoor
set_option linter.unusedVariables false
set_option linter.unusedSimpArgs false
open Go.ChangeShapes Go.WideShapes Go.ChangeAt Go.RowKit Go.Maps

section
variable {K s0 : List Wd} {S : Nat → Prop} {w w' : World} {g m0 m1 : Nat} {ls : List LeafT} {E : List (List Nat × Nat)} {Z : Nat → Nat → Prop}
theorem top_keyed (hf : Fine K s0 ls) : Keyed ((topT K s0 ls).map (·.k)) := by
 have e : (topT K s0 ls).map (·.k) = idsOf ls := by
  unfold topT
  rw [List.map_map]
  have : (Lf.k ∘ topL K s0 ls) = id := rfl
  rw [this, List.map_id]
 rw [e]
 exact ⟨fun k hk => by
  obtain ⟨l, hl, e2⟩ := (ids_mem ls k).1 hk
  rw [← e2]
  exact (hf.ok l hl).id, ids_nodup ls⟩
theorem top_perm (hf : Fine K s0 ls) {T : List Lf} (hp : T.Perm (topT K s0 ls)) (hk : Keyed (T.map (·.k))) : partNd K s0 256 T = partNd K s0 256 (topT K s0 ls) := part_perm K s0 256 T _ hk (coh_top _) hp
theorem top_fit (hs0 : s0.length = 8) (hf : Fine K s0 ls) : (partNd K s0 256 (topT K s0 ls)).s < 18446744073709551616 := by
 rw [part_sum K s0 256 _ (top_keyed hf) (coh_top _)]
 unfold topT
 rw [top_sum hs0 hf]
 have a1 := ids_sum ls _ (ids_nodup ls)
 have a2 := hf.fit
 omega
theorem top_hash (hs0 : s0.length = 8) : IsHash (partNd K s0 256 (topT K s0 ls)).h := part_hash K s0 hs0 256 _
theorem boxes_an (w : World) (Z : Array Value) : ∃ W1, W1 = (w.alloc (.cells Z 27)) ∧
   Has W1 (w.heap.size) 27 Z ∧ Below w.heap.size w W1 := by
 refine ⟨_, rfl, ?_, ?_⟩
 · have := Has.new w 27 Z
   exact this
 · exact (Below.refl _ _).alloc (Nat.le_refl _) _
set_option maxRecDepth 100000 in
set_option maxHeartbeats 8000000 in
theorem coAnch_at (h : CmAt K s0 S w g ls m0 m1 E Z) (hT : Tabs K s0 w) (hS : ∀ k, S k → 2 + 1 ≤ k) :
   Calls Tryz.prog 12 #[.pointer (some ⟨g, 0, none⟩)] w fun e w' => e = .returned (arr (anchorOf K s0 ls)) ∧ CmAt K s0 S w' g ls m0 m1 E Z ∧ Kept (fun k => ∃ e ∈ E, Z e.2 k) w w' := by
 obtain ⟨zk, hzk, Ag, hzkn⟩ := zero_hashT
 obtain ⟨D, hD⟩ : ∃ D, D = anchorOf K s0 ls := ⟨_, rfl⟩
 have hDh : IsHash D := by
   rw [hD]
   unfold anchorOf
   by_cases e : ls = []
   · rw [if_pos e]; exact ⟨rfl, fun k hk => by rw [List.eq_of_mem_replicate hk]; decide⟩
   · rw [if_neg e]; exact anchorK_hash K s0 hT.len _
 unfold arr
 rw [← hD]
 obtain ⟨LD, hLD⟩ : ∃ L, L = bcells D := ⟨_, rfl⟩
 rw [← hLD]
 have Ai := Hh (show (Tryz.prog.info? 27).map (·.size) = some LD.toArray.size by rw [List.size_toArray, hLD, bcells_length, hDh.1]; kernel_rfl)
 have Az := Hh (show zk.size = LD.toArray.size by rw [Ag, List.size_toArray, hLD, bcells_length, hDh.1])
 have Af := Hh (show LD.toArray.all (·.oneCell') = true by rw [hLD]; exact all_oneCell_toArray (bcells_one D))
 obtain ⟨nl, hnl⟩ : ∃ n, n = ls.length := ⟨_, rfl⟩
 have Al := Hh (show ∀ v ty, Below w.heap.size w v → (Builtin.len_ #[99] ty #[.map (some m1)]).run Tryz.prog v = .ok (goInt nl) v from fun v ty hv => by
   have := len_mapL (h.quiet hv).map1 ty
   rwa [List.length_map, ← hnl] at this)
 have Aw := Hh hnl
 have HD := Hh hD
 have An := Hh hLD
 have H := Hh h
 have HS := Hh hS
 have HT := Hh hT
 obtain ⟨W1, hW1, h1, hb1⟩ := boxes_an w zk
 have EW := Hh hW1
 have H1 := Hh h1
 have Aa := Hh hb1
 clear h hT hS hD hDh hLD hnl hW1 h1 hb1 Ag
 go_enter Tryz.func12, Tryz.ntmps12
 go_upto_region 1 with (fail)
 rw [← EW.o]
 obtain ⟨B, hB⟩ : ∃ y, y = w.heap.size := ⟨_, rfl⟩
 rw [← hB] at H1 ⊢
 have EB := Hh hB
 clear hB EW
 have hc1 := (H.o.quiet Aa.o).cells.2.1
 have Am : ∀ ty, (Builtin.len_ #[99] ty #[.map (some m1)]).run Tryz.prog W1 = .ok (goInt nl) W1 := fun ty => Al.o W1 ty Aa.o
 by_cases hn0 : nl = 0
 · have HZ := Hh (show LD = bcells (List.replicate 32 0) by
     have e0 : ls = [] := List.eq_nil_of_length_eq_zero (by rw [← Aw.o]; exact hn0)
     rw [An.o, HD.o]
     unfold anchorOf
     rw [if_pos e0])
   have A0 := Hh (show ∀ v, (Instr.build 27 #[]).run Tryz.prog v = .ok (.agg LD.toArray) v from fun v => by rw [HZ.o]; kernel_rfl)
   subst hn0
   go_wp2_with (first
     | (refine wpList_build_run rfl 27 #[] rfl #[] (by kernel_rfl) (.agg LD.toArray) (A0.o _) ?_)
     | (refine wpList_store_row rfl 27 (.tmp 2) (.tmp 13) rfl B LD.toArray rfl rfl 27 zk H1.o Ai.o Az.o Af.o ?_))
   have hk9 := kept_setRow (g := B) W1 LD.toArray
   have hb9 := Aa.o.trans (hk9.below Aa.o.size (fun j e => by rw [show j = B from e, EB.o]; exact Nat.le_refl _))
   have Ab := Hh (show Has (W1.setRow B LD.toArray) B 27 LD.toArray from H1.o.setRow)
   have Ad := Hh (And.intro (H.o.quiet hb9) (show Kept (fun k => ∃ e ∈ E, Z e.2 k) w (W1.setRow B LD.toArray) from Kept.of_below hb9))
   clear hk9 hb9
   refine bodyPost_ret (results_cell_row rfl _ _ B 27 LD.toArray (0, 0) _ rfl Ab.o Tryz.underlying27 rfl Ai.o) rfl ?_
   exact ⟨rfl, Ad.o⟩
 · have hn1 : ¬ (nl : Int) = 0 := by omega
   have A3 := Hh (show ¬ ls = [] from fun e => hn0 (by rw [Aw.o, e]; rfl))
   clear hn0
   have hal := coAll_at ((H.o.zoneS (S' := fun k => S k ∧ k < w.heap.size) (fun k h1 h2 => ⟨h2, h1⟩)).quiet Aa.o) (HT.o.below Aa.o HT.o.low) (fun k e => HS.o k e.1)
   have Ao := Hh hal
   clear hal
   go_wp2_with fail
   refine Ao.o.mono ?_
   rintro _ W3 ⟨ga, T, Za, rfl, Ac, htr, hza, hlo, hcm, hkp⟩
   have hBz : ¬ (∃ e ∈ E, Z e.2 B) := fun ⟨e, he, hz⟩ => by have a1 := (H.o.zone e he B hz).1; have a2 := EB.o; omega
   have hb3 := H1.o.kept hkp hBz
   have ht3 : Tabs K s0 W3 := (HT.o.below Aa.o HT.o.low).kept hkp (fun k ⟨e, he, hz⟩ => HS.o k (H.o.zone e he k hz).2.1)
   have hrt := tr_root htr ht3 hlo
   rw [top_perm H.o.fine Ac htr.keyed] at hrt
   obtain ⟨P, hP⟩ : ∃ P, P = partNd K s0 256 (topT K s0 ls) := ⟨_, rfl⟩
   rw [← hP] at hrt
   have A4 := Hh (show IsHash P.h by rw [hP]; exact top_hash ht3.len)
   have A5 := Hh (show P.s < 18446744073709551616 by rw [hP]; exact top_fit ht3.len H.o.fine)
   have A1 := Hh (show anchorK K s0 P = D by rw [HD.o, hP]; unfold anchorOf; rw [if_neg A3.o])
   have Ax := Hh hrt
   have Av := Hh hkp
   have As := Hh hcm
   have Aq := Hh hb3
   have Ay := Hh ht3
   have Ah := Hh (show ∀ k, Za k → W1.heap.size ≤ k ∧ k ≠ B ∧ 2 + 1 ≤ k from fun k hz => by have a1 := hza k hz; have a2 := H1.o.lt; have a3 := (HT.o.below Aa.o HT.o.low).low; exact ⟨a1, by omega, by omega⟩)
   clear Ac htr hza hlo hcm hkp hBz hb3 ht3 hrt hP Ao Am hc1
   go_wp2_with fail
   refine Ax.o.mono ?_
   rintro _ W4 ⟨rfl, -, hk4⟩
   have hb4 := Aq.o.kept hk4 (fun e => (Ah.o B e).2.1 rfl)
   have Aj := Hh hb4
   have Ae := Hh (As.o.kept hk4 (fun k _ e1 e2 => by have a1 := (Ah.o k e2).1; have a2 := e1.2; have a3 := Aa.o.size; omega))
   have A6 := Hh (Ay.o.kept hk4 (fun k e => (Ah.o k e).2.2))
   have Au := Hh (show Kept (fun k => (∃ e ∈ E, Z e.2 k) ∨ w.heap.size ≤ k) w W4 from ((Kept.of_below Aa.o).trans (Av.o.mono (fun _ _ e => .inl e))).step hk4 (fun k e => .inr (Nat.le_trans Aa.o.size (Ah.o k e).1)))
   clear hb4 hk4 Aq As Ay Ax Av
   have han := coAnchor_is K s0 W4 A6.o P A4.o A5.o
   rw [A1.o] at han
   unfold arr at han
   rw [← An.o] at han
   have Ap := Hh han
   clear han
   go_wp2_with fail
   refine Ap.o.mono ?_
   rintro _ W5 ⟨rfl, hb5⟩
   have Ar := Hh (Aj.o.below hb5 Aj.o.lt)
   have Ak := Hh (Ae.o.quiet hb5)
   have A2 := Hh (Au.o.trans (Kept.of_below hb5))
   clear hb5 Ap Ae Au Aj
   go_wp2_with (refine wpList_store_row rfl 27 (.tmp 2) (.tmp 17) rfl B LD.toArray rfl rfl 27 zk Ar.o Ai.o Az.o Af.o ?_)
   have hk9 := kept_setRow (g := B) W5 LD.toArray
   have Ab := Hh (show Has (W5.setRow B LD.toArray) B 27 LD.toArray from Ar.o.setRow)
   have Ad := Hh (show CmAt K s0 S (W5.setRow B LD.toArray) g ls m0 m1 E Z ∧ Kept (fun k => ∃ e ∈ E, Z e.2 k) w (W5.setRow B LD.toArray) from by
     refine ⟨(Ak.o.kept hk9 (fun k _ e1 e2 => by have a1 := e1.2; have a2 : k = B := e2; have a3 := EB.o; omega)).zoneS (fun k _ e => e.1), ?_⟩
     · exact (A2.o.step hk9 (fun k e => .inr (by rw [show k = B from e, EB.o]; exact Nat.le_refl _))).mono (fun k hk e => by rcases e with e | e; exact e; omega))
   clear hk9
   refine bodyPost_ret (results_cell_row rfl _ _ B 27 LD.toArray (0, 0) _ rfl Ab.o Tryz.underlying27 rfl Ai.o) rfl ?_
   exact ⟨rfl, Ad.o⟩
theorem zone_S (h : CmAt K s0 S w g ls m0 m1 E Z) (hk : Kept (fun k => ∃ e ∈ E, Z e.2 k) w w') : Kept S w w' := hk.mono (fun k _ ⟨e, he, hz⟩ => (h.zone e he k hz).2.1)
theorem coAnch_is (h : Cm K s0 S w g ls) (hT : Tabs K s0 w) (hS : ∀ k, S k → 2 + 1 ≤ k) :
  Calls Tryz.prog 12 #[.pointer (some ⟨g, 0, none⟩)] w fun e w' => e = .returned (arr (anchorOf K s0 ls)) ∧ Cm K s0 S w' g ls ∧ Kept S w w' := by
 obtain ⟨m0, m1, E, Z, h⟩ := h
 exact (coAnch_at h hT hS).mono fun e w' ⟨h1, h2, h3⟩ => ⟨h1, ⟨m0, m1, E, Z, h2⟩, zone_S h h3⟩
end
/- Leaves compared, field by field. -/

theorem lq_num {t : TypeId} {k : IntKind} {T : TypeId} (ht : t = T) (hu : Tryz.prog.underlying T = some (.int k)) {l : List Value} {off : Nat} {v : Value} (h : l[off]? = some v) (w : World) : (part t l.toArray off).run Tryz.prog w = .ok v w := by
 subst ht
 exact part_int hu (by simpa using h) w
theorem lq_eq {t : TypeId} {k : IntKind} {T : TypeId} (ht : t = T) (hu : Tryz.prog.underlying T = some (.int k)) (d : Nat) (a b : Int) (w : World) : (Op.equalIn (d + 1) t (.int k a) (.int k b)).run Tryz.prog w = .ok (a == b) w := by
 subst ht
 exact run_equalIn_int w d t k k a b hu
instance : DecidableEq LeafT := fun a b => decidable_of_iff (a.id = b.id ∧ a.am = b.am ∧ a.ow = b.ow ∧ a.pl = b.pl ∧ a.sp.h = b.sp.h ∧ a.sp.s = b.sp.s) (by
  obtain ⟨a1, a2, a3, a4, ⟨a5, a6⟩⟩ := a
  obtain ⟨b1, b2, b3, b4, ⟨b5, b6⟩⟩ := b
  simp)
theorem lf_id {l : LeafT} (h : l.ok) : (l.cells.drop 0).take 32 = bcells l.id := by
 rw [List.drop_zero, LeafT.cells, List.take_append_of_le_length (by rw [bcells_length, h.id.1]; exact Nat.le_refl _)]
 exact List.take_of_length_le (by rw [bcells_length, h.id.1]; exact Nat.le_refl _)
theorem lf_ow {l : LeafT} (h : l.ok) : (l.cells.drop 33).take 32 = bcells l.ow := by
 have e : l.cells = (bcells l.id ++ [Value.int .u64 (l.am : Int)]) ++ (bcells l.ow ++ (.int .i64 l.pl :: ndV l.sp)) := by unfold LeafT.cells; simp
 have hl : (bcells l.id ++ [Value.int .u64 (l.am : Int)]).length = 33 := by simp [bcells_length, h.id.1]
 rw [e, ← hl, List.drop_left, List.take_append_of_le_length (by rw [bcells_length, h.ow.1]; exact Nat.le_refl _)]
 exact List.take_of_length_le (by rw [bcells_length, h.ow.1]; exact Nat.le_refl _)
theorem lf_sp {l : LeafT} (h : l.ok) : (l.cells.drop 66).take 33 = ndV l.sp := by
 have e : l.cells = (bcells l.id ++ [Value.int .u64 (l.am : Int)] ++ bcells l.ow ++ [Value.int .i64 l.pl]) ++ ndV l.sp := by unfold LeafT.cells; simp
 have hl : (bcells l.id ++ [Value.int .u64 (l.am : Int)] ++ bcells l.ow ++ [Value.int .i64 l.pl]).length = 66 := by simp [bcells_length, h.id.1, h.ow.1]
 rw [e, ← hl, List.drop_left]
 exact List.take_of_length_le (by rw [ndV_len h.sp]; exact Nat.le_refl _)
theorem nd_h {x : Nd} (h : IsHash x.h) : ((ndV x).drop 0).take 32 = bcells x.h := by
 rw [List.drop_zero, ndV, ncells, List.take_append_of_le_length (by rw [bcells_length, h.1]; exact Nat.le_refl _)]
 exact List.take_of_length_le (by rw [bcells_length, h.1]; exact Nat.le_refl _)
theorem nd_s {x : Nd} (h : IsHash x.h) : (ndV x)[32]? = some (.int .u64 (x.s : Int)) := by
 rw [ndV, ncells, List.getElem?_append_right (by rw [bcells_length, h.1]; exact Nat.le_refl _), bcells_length, h.1]
 rfl
theorem le_hash {t : TypeId} (ht : t = 27) {l : List Value} {off : Nat} {k : List Nat} (h : (l.drop off).take 32 = bcells k) (w : World) : (part t l.toArray off).run Tryz.prog w = .ok (.agg (bcells k).toArray) w := by
 subst ht
 rw [part_agg Tryz.underlying27 (k := 32) (by kernel_rfl), extract_list, h]
theorem le_heq {t : TypeId} (ht : t = 27) (d : Nat) {a b : List Nat} (ha : IsHash a) (hb : IsHash b) (w : World) : (Op.equalIn (d + 2) t (.agg (bcells a).toArray) (.agg (bcells b).toArray)).run Tryz.prog w = .ok (decide (a = b)) w := by
 subst ht
 exact hash_eq_at d a b ha hb w
theorem le_node {t : TypeId} (ht : t = 30) (d : Nat) (x y : Nd) (hx : IsHash x.h) (hy : IsHash y.h) (w : World) : (Op.equalIn (d + 4) t (.agg (ndV x).toArray) (.agg (ndV y).toArray)).run Tryz.prog w = .ok (decide (x.h = y.h ∧ x.s = y.s)) w := by
 subst ht
 obtain ⟨f0, f1, hf, ⟨n0, t0, o0⟩, ⟨n1, t1, o1⟩⟩ := mn_fields
 rw [run_equalIn_struct w (d + 3) 30 _ _ mn_struct (by kernel_rfl), hf, eqF_any n0 (le_hash t0 (off := f0.offset) (by rw [o0]; exact nd_h hx) w) (le_hash t0 (off := f0.offset) (by rw [o0]; exact nd_h hy) w) (le_heq t0 (d + 1) hx hy w),
   eqF_any n1 (lq_num t1 Tryz.underlying28 (off := f1.offset) (by rw [o1]; exact nd_s hx) w) (lq_num t1 Tryz.underlying28 (off := f1.offset) (by rw [o1]; exact nd_s hy) w) (lq_eq t1 Tryz.underlying28 (d + 2) _ _ w), eqF_nil]
 by_cases h1 : x.h = y.h
 · by_cases h2 : x.s = y.s
   · simp [h1, h2]
   · have h2' : ¬ ((x.s : Int) = (y.s : Int)) := fun e => h2 (by omega)
     simp [h1, h2, h2']
 · simp [h1]
theorem le_part {t : TypeId} (ht : t = 30) {l : List Value} {off : Nat} {x : Nd} (h : (l.drop off).take 33 = ndV x) (w : World) : (part t l.toArray off).run Tryz.prog w = .ok (.agg (ndV x).toArray) w := by
 subst ht
 obtain ⟨i, hi⟩ := info_of_underlying mn_struct
 have hc : Tryz.prog.cellsOf 30 = 33 := by kernel_rfl
 have e : l.toArray.extract off (off + Tryz.prog.cellsOf 30) = (ndV x).toArray := by rw [hc, extract_list, h]
 simp [part, isAgg, run_underlying mn_struct, run_sizeOf w hi, e, h]
theorem le_fields : ∃ f0 f1 f2 f3 f4, (Tryz.prog.fieldsOf 32).toList = [f0, f1, f2, f3, f4] ∧ (f0.name ≠ "_" ∧ f0.type = 27 ∧ f0.offset = 0) ∧ (f1.name ≠ "_" ∧ f1.type = 28 ∧ f1.offset = 32) ∧ (f2.name ≠ "_" ∧ f2.type = 27 ∧ f2.offset = 33) ∧
  (f3.name ≠ "_" ∧ f3.type = 3 ∧ f3.offset = 65) ∧ (f4.name ≠ "_" ∧ f4.type = 30 ∧ f4.offset = 66) := by
 unfold Program.fieldsOf
 rw [Tryz.underlying32]
 exact ⟨_, _, _, _, _, rfl, ⟨by decide, rfl, rfl⟩, ⟨by decide, rfl, rfl⟩, ⟨by decide, rfl, rfl⟩, ⟨by decide, rfl, rfl⟩, ⟨by decide, rfl, rfl⟩⟩
theorem le_struct : Tryz.prog.underlying 32 = some (.struct (Tryz.prog.fieldsOf 32)) := by
 unfold Program.fieldsOf
 rw [Tryz.underlying32]
theorem le_eq (x y : LeafT) (hx : x.ok) (hy : y.ok) (w : World) : (Op.equalIn 10000 32 (.agg x.cells.toArray) (.agg y.cells.toArray)).run Tryz.prog w = .ok (decide (x = y)) w := by
 obtain ⟨f0, f1, f2, f3, f4, hf, ⟨n0, t0, o0⟩, ⟨n1, t1, o1⟩, ⟨n2, t2, o2⟩, ⟨n3, t3, o3⟩, ⟨n4, t4, o4⟩⟩ := le_fields
 rw [run_equalIn_struct w 9999 32 _ _ le_struct (by kernel_rfl), hf,
   eqF_any n0 (le_hash t0 (off := f0.offset) (by rw [o0]; exact lf_id hx) w) (le_hash t0 (off := f0.offset) (by rw [o0]; exact lf_id hy) w) (le_heq t0 9997 hx.id hy.id w),
   eqF_any n1 (lq_num t1 Tryz.underlying28 (off := f1.offset) (by rw [o1]; exact LeafT.at_am hx) w) (lq_num t1 Tryz.underlying28 (off := f1.offset) (by rw [o1]; exact LeafT.at_am hy) w) (lq_eq t1 Tryz.underlying28 9998 _ _ w),
   eqF_any n2 (le_hash t2 (off := f2.offset) (by rw [o2]; exact lf_ow hx) w) (le_hash t2 (off := f2.offset) (by rw [o2]; exact lf_ow hy) w) (le_heq t2 9997 hx.ow hy.ow w),
   eqF_any n3 (lq_num t3 Tryz.underlying3 (off := f3.offset) (by rw [o3]; exact LeafT.at_pl hx) w) (lq_num t3 Tryz.underlying3 (off := f3.offset) (by rw [o3]; exact LeafT.at_pl hy) w) (lq_eq t3 Tryz.underlying3 9998 _ _ w),
   eqF_any n4 (le_part t4 (off := f4.offset) (by rw [o4]; exact lf_sp hx) w) (le_part t4 (off := f4.offset) (by rw [o4]; exact lf_sp hy) w) (le_node t4 9995 x.sp y.sp hx.sp hy.sp w), eqF_nil]
 have hd : (x = y) ↔ (x.id = y.id ∧ x.am = y.am ∧ x.ow = y.ow ∧ x.pl = y.pl ∧ x.sp.h = y.sp.h ∧ x.sp.s = y.sp.s) := by
   obtain ⟨a1, a2, a3, a4, ⟨a5, a6⟩⟩ := x
   obtain ⟨b1, b2, b3, b4, ⟨b5, b6⟩⟩ := y
   simp
 have hdd : decide (x = y) = decide (x.id = y.id ∧ x.am = y.am ∧ x.ow = y.ow ∧ x.pl = y.pl ∧ x.sp.h = y.sp.h ∧ x.sp.s = y.sp.s) := decide_eq_decide.2 hd
 rw [hdd]
 by_cases h1 : x.id = y.id
 · by_cases h2 : x.am = y.am
   · by_cases h3 : x.ow = y.ow
     · by_cases h4 : x.pl = y.pl
       · simp [h1, h2, h3, h4]
         by_cases h5 : x.sp.h = y.sp.h ∧ x.sp.s = y.sp.s
         · simp [h5]
         · simp [h5]
           exact fun e1 e2 => h5 ⟨e1, e2⟩
       · simp [h1, h2, h3, h4]
     · simp [h1, h2, h3]
   · have h2' : ¬ ((x.am : Int) = (y.am : Int)) := fun e => h2 (by omega)
     simp [h1, h2, h2']
 · simp [h1]
section
/- The walk of commit's Total. -/

variable {K s0 : List Wd} {S : Nat → Prop} {w w' : World} {g m0 m1 : Nat} {ls : List LeafT} {E : List (List Nat × Nat)} {Z : Nat → Nat → Prop}
theorem hash_eqC (a b : List Nat) (ha : IsHash a) (hb : IsHash b) (w : World) : (Op.equalIn 10000 27 (.agg (bcells a).toArray) (.agg (bcells b).toArray)).run Tryz.prog w = .ok (decide (a = b)) w := le_heq rfl 9998 ha hb w
theorem am_perm {a b : List LeafT} (h : a.Perm b) : amS a = amS b := by
 unfold amS
 exact (h.map _).sum_nat
theorem am_erase {ls : List LeafT} {y : LeafT} (h : y ∈ ls) : amS ls = y.am + amS (ls.erase y) := by
 rw [am_perm (List.perm_cons_erase h)]
 rfl
theorem am_sub : ∀ (ys ls : List LeafT), ys.Nodup → (∀ y ∈ ys, y ∈ ls) → amS ys ≤ amS ls
 | [], ls, _, _ => Nat.zero_le _
 | y :: ys, ls, hn, hm => by
  rw [List.nodup_cons] at hn
  have hy := hm y List.mem_cons_self
  rw [am_erase hy]
  have := am_sub ys (ls.erase y) hn.2 (fun x hx => (List.mem_erase_of_ne (fun e => hn.1 (by rw [← e]; exact hx))).2 (hm x (List.mem_cons_of_mem _ hx)))
  show y.am + amS ys ≤ _
  omega
theorem nodup_of_map {α β : Type} (f : α → β) {l : List α} (h : (l.map f).Nodup) : l.Nodup := by
 rw [List.Nodup, List.pairwise_map] at h
 exact h.imp (fun hne e => hne (congrArg f e))
theorem key_inj (h : (ls.map (keyK K s0)).Nodup) {a b : LeafT} (ha : a ∈ ls) (hb : b ∈ ls) (e : keyK K s0 a = keyK K s0 b) : a = b := by
 induction ls with
 | nil => cases ha
 | cons x ls ih =>
  rw [List.map_cons, List.nodup_cons] at h
  rcases List.mem_cons.1 ha with ha | ha
  · rcases List.mem_cons.1 hb with hb | hb
    · rw [ha, hb]
    · exact absurd (List.mem_map.2 ⟨b, hb, by rw [← e, ha]⟩) h.1
  · rcases List.mem_cons.1 hb with hb | hb
    · exact absurd (List.mem_map.2 ⟨a, ha, by rw [e, hb]⟩) h.1
    · exact ih h.2 ha hb
structure GoL (K s0 : List Wd) (w : World) (S : Nat → Prop) (g : Nat) (ls : List LeafT) (m0 m1 : Nat) (E : List (List Nat × Nat)) (Z : Nat → Nat → Prop) (r : Nat) (wr : World) (done : List (List Nat)) (ys : List LeafT) : Prop where
 iter : Iter wr m1 r (ls.map (entL K s0)) done
 keys : ys.map (keyK K s0) = done
 mem : ∀ y ∈ ys, y ∈ ls
 below : Below w.heap.size w wr
 lt : r < wr.heap.size
theorem GoL.nodup {r : Nat} {wr : World} {done : List (List Nat)} {ys : List LeafT} (h : GoL K s0 w S g ls m0 m1 E Z r wr done ys) : ys.Nodup := nodup_of_map (keyK K s0) (by rw [h.keys]; exact h.iter.nodup.1)
theorem GoL.all {r : Nat} {wr : World} {done : List (List Nat)} {ys : List LeafT} (h : GoL K s0 w S g ls m0 m1 E Z r wr done ys) (hk : (ls.map (keyK K s0)).Nodup) (hd : ∀ p ∈ ls.map (entL K s0), p.1 ∈ done) : ys.Perm ls := by
 refine (List.perm_ext_iff_of_nodup h.nodup (nodup_of_map (keyK K s0) hk)).2 fun x => ⟨fun hx => h.mem x hx, fun hx => ?_⟩
 have := hd _ (List.mem_map.2 ⟨x, hx, rfl⟩)
 rw [← h.keys] at this
 obtain ⟨y, hy, e⟩ := List.mem_map.1 this
 rw [← key_inj hk (h.mem y hy) hx e]
 exact hy
theorem ofId_perm {a b : List LeafT} (h : a.Perm b) (id : List Nat) : amS (ofId a id) = amS (ofId b id) := am_perm (h.filter _)
theorem boxes_tot (w : World) (LK : List Value) : ∃ W1, W1 = (w.alloc (.cells LK.toArray 27)) ∧
   Has W1 (w.heap.size) 27 LK.toArray ∧ Below w.heap.size w W1 := by
 refine ⟨_, rfl, ?_, ?_⟩
 · have := Has.new w 27 LK.toArray
   exact this
 · exact (Below.refl _ _).alloc (Nat.le_refl _) _
set_option maxRecDepth 100000 in
set_option maxHeartbeats 16000000 in
theorem coTotal_at (h : CmAt K s0 S w g ls m0 m1 E Z) (id : List Nat) (hid : IsHash id) :
  Calls Tryz.prog 32 #[.pointer (some ⟨g, 0, none⟩), arr id] w fun e w' => e = .returned (.int .u64 (amS (ofId ls id) : Int)) ∧ Below w.heap.size w w' := by
 obtain ⟨zl, hzl, -, Am, hzln, -⟩ := zero_leafT
 obtain ⟨LK, hLK⟩ : ∃ L, L = bcells id := ⟨_, rfl⟩
 unfold arr
 rw [← hLK]
 have Ah := Hh (show (Tryz.prog.info? 27).map (·.size) = some LK.toArray.size by rw [List.size_toArray, hLK, bcells_length, hid.1]; kernel_rfl)
 have Ay := Hh hLK
 have A1 := Hh hid
 have A4 := Hh Am
 have H := Hh h
 obtain ⟨W1, hW1, h1, hb1⟩ := boxes_tot w LK
 have h1c := h.quiet hb1
 obtain ⟨w0, Ak, hit, hk0, Al⟩ := range_is (T := 99) Tryz.underlying99 h1c.map1
 have hc1 := h1c.cells.2.1
 obtain ⟨r, hr⟩ : ∃ y, y = W1.heap.size := ⟨_, rfl⟩
 rw [← hr] at Ak hit
 have As := Hh (show GoL K s0 w S g ls m0 m1 E Z r w0 [] [] from ⟨hit, rfl, fun y hy => (by cases hy), hb1.trans (hk0.below hb1.size (fun _ e => e.elim)), by rw [Al]; omega⟩)
 have HB := Hh (h1.kept hk0 (fun e => e))
 have EW := Hh hW1
 have HR := Hh (show w.heap.size < r by rw [hr]; exact h1.lt)
 clear h h1c hit hk0 Al hr hW1 h1 hb1 hLK hid Am
 go_enter Tryz.func32, Tryz.ntmps32
 go_upto_region 1 with (fail)
 rw [← EW.o]
 obtain ⟨B, hB⟩ : ∃ y, y = w.heap.size := ⟨_, rfl⟩
 rw [← hB] at HB HR ⊢
 have EB := Hh hB
 clear hB EW
 go_wp2_with fail
 go_loopw [5] (fun sv wr => ∃ done ys, GoL K s0 w S g ls m0 m1 E Z r wr done ys ∧ sv = .int .u64 (amS (ofId ys id) : Int) ∧ Has wr B 27 LK.toArray) (fun _ wr => wr.rangeLeft m1 r)
 case atStart => exact ⟨_, _, As.o, rfl, HB.o⟩
 case round =>
  clear As Ak hc1 HB
  obtain ⟨done, ys, hgo, rfl, hbk⟩ := hrel
  rcases next_is hgo.iter 0 with ⟨hd, hnx⟩ | ⟨key, vv, w2, hmem, hnd, hkh, hnx, hit1, hk1, hsz1, hlt1, hen⟩
  · have HE := Hh (show amS (ofId ys id) = amS (ofId ls id) ∧ Below w.heap.size w wr from ⟨ofId_perm (hgo.all H.o.fine.keys hd) id, hgo.below⟩)
    clear hgo hd hbk
    go_wp2
    go_ret
    exact ⟨by rw [HE.o.1]; rfl, HE.o.2⟩
  · obtain ⟨l, hl, hee⟩ := List.mem_map.1 hmem
    obtain ⟨rfl, rfl⟩ : key = keyK K s0 l ∧ vv = .agg l.cells.toArray := by
     unfold entL at hee
     injection hee with e1 e2
     exact ⟨e1.symm, e2.symm⟩
    have Ab := H.o.fine.ok l hl
    obtain ⟨LC, hLC⟩ : ∃ L, L = l.cells := ⟨_, rfl⟩
    obtain ⟨LI, hLI⟩ : ∃ L, L = bcells l.id := ⟨_, rfl⟩
    obtain ⟨AM, hAM⟩ : ∃ x, x = l.am := ⟨_, rfl⟩
    obtain ⟨SM, hSM⟩ : ∃ x, x = amS (ofId ys id) := ⟨_, rfl⟩
    rw [← hLC] at hnx hen
    rw [← hSM]
    have hni : l ∉ ys := fun e => hnd (by rw [← hgo.keys]; exact List.mem_map.2 ⟨l, e, rfl⟩)
    have Aj : (ys ++ [l]).Nodup := by
     rw [List.nodup_append]
     exact ⟨hgo.nodup, by simp, fun a ha b hb e => hni (by rw [List.mem_singleton] at hb; rw [← hb, ← e]; exact ha)⟩
    have hms : ∀ y ∈ ys ++ [l], y ∈ ls := fun y hy => by
     rcases List.mem_append.1 hy with hy | hy
     · exact hgo.mem y hy
     · rw [List.mem_singleton.1 hy]; exact hl
    have hle : amS (ofId (ys ++ [l]) id) < 18446744073709551616 := by
     have a1 := am_sub _ _ Aj hms
     have a2 := of_le (ys ++ [l]) id
     have a3 := H.o.fine.fit
     omega
    have A5 := Hh (show (Tryz.prog.info? 32).map (·.size) = some LC.toArray.size by rw [List.size_toArray, hLC, LeafT.len Ab]; kernel_rfl)
    have A6 := Hh (show zl.size = LC.toArray.size by rw [A4.o, List.size_toArray, hLC, LeafT.len Ab])
    have Ar := Hh (show LC.toArray.all (·.oneCell') = true by rw [hLC]; exact LeafT.one l)
    have Ax := Hh (show (Tryz.prog.info? 27).map (·.size) = some LI.length by rw [hLI, bcells_length, Ab.id.1]; kernel_rfl)
    have Az := Hh (show ∀ (v : World) B, Has v B 32 LC.toArray → v.cell? ⟨B, 32, none⟩ = some (.int .u64 (AM : Int)) ∧ v.rangeAt B 0 LI from fun v B hv => by rw [hLC] at hv; exact ⟨by rw [hAM]; exact hv.cell_is (by rw [List.getElem?_toArray]; exact LeafT.at_am Ab), by rw [hLI]; exact coL_id hv⟩)
    have A0 := Hh (show ∀ v, (Op.equalIn 10000 27 (.agg LI.toArray) (.agg LK.toArray)).run Tryz.prog v = .ok (decide (l.id = id)) v from fun v => by rw [hLI, Ay.o]; exact hash_eqC l.id id Ab.id A1.o v)
    have Av := Hh (show ∀ C, Has ((w2.alloc (.cells zl 32)).setRow w2.heap.size C) w2.heap.size 32 C ∧ Kept (fun _ => False) w2 ((w2.alloc (.cells zl 32)).setRow w2.heap.size C) from fun C => by
     rw [World.setRow_alloc_new]
     exact ⟨Has.new w2 _ _, (Kept.refl _ _).alloc _⟩)
    have hrB : w.heap.size ≤ r := by have a1 := HR.o; have a2 := EB.o; omega
    have Ai : GoL K s0 w S g ls m0 m1 E Z r w2 (done ++ [keyK K s0 l]) (ys ++ [l]) := ⟨hit1, by rw [List.map_append, hgo.keys]; rfl, hms, hgo.below.trans (hk1.below hgo.below.size (fun k e => by rw [show k = r from e]; exact hrB)), Nat.lt_of_lt_of_le hgo.lt hk1.size⟩
    have Aa := Hh Ai
    have Ae := Hh (hbk.kept hk1 (fun e => by have a1 := HR.o; have a2 : B = r := e; omega))
    have Ag := Hh hlt1
    have A2 := Hh hle
    have Aq := Hh (show amS (ofId (ys ++ [l]) id) = SM + (if l.id = id then AM else 0) by
     rw [ofId_snoc, amS_app, ← hSM, hAM]
     by_cases e : l.id = id
     · rw [if_pos e, if_pos e, amS_one]
     · rw [if_neg e, if_neg e]; rfl)
    clear hgo hmem hee Ab hLC hLI hAM hSM hni Aj hms hle hnd hit1 hk1 hlt1 Ai hbk hl hkh hrB hsz1
    go_upto_region 7 with (refine wpList_store_row rfl 32 (.tmp 7) (.tmp 18) rfl w2.heap.size LC.toArray rfl rfl 32 zl (heap_alloc_new w2 _) A5.o A6.o Ar.o ?_)
    obtain ⟨h9, hk9⟩ := Av.o LC.toArray
    have Ac : GoL K s0 w S g ls m0 m1 E Z r ((w2.alloc (.cells zl 32)).setRow w2.heap.size LC.toArray) (done ++ [keyK K s0 l]) (ys ++ [l]) := ⟨Aa.o.iter.kept hk9 (fun e => e) (fun e => e), Aa.o.keys, Aa.o.mem, Aa.o.below.trans (hk9.below Aa.o.below.size (fun _ e => e.elim)), Nat.lt_of_lt_of_le Aa.o.lt hk9.size⟩
    have Ad := Aa.o.iter.left_kept hk9 (fun e => e) (fun e => e)
    have hb9 := Ae.o.kept hk9 (fun e => e)
    clear hk9 Av Ae hnx hen
    generalize (w2.alloc (.cells zl 32)).setRow w2.heap.size LC.toArray = W5 at h9 Ac Ad hb9 ⊢
    generalize w2.heap.size = G5 at h9 ⊢
    obtain ⟨c32, hri⟩ := Az.o W5 G5 h9
    have Aw := Hh hri
    have An := Hh hb9
    have Af := Hh Ac
    have Au := Hh (show W5.rangeLeft m1 r < wr.rangeLeft m1 r by rw [Ad]; exact Ag.o)
    have heq := A0.o W5
    obtain ⟨bq, hbq⟩ : ∃ b, b = decide (l.id = id) := ⟨_, rfl⟩
    rw [← hbq] at heq
    have Ao := Hh hbq
    clear hri hb9 Ac Ad hbq h9 Ag
    have hwr : bq = true → IntKind.u64.wrap ((SM : Int) + (AM : Int)) = ((SM + AM : Nat) : Int) := fun e => by
     have e2 : l.id = id := of_decide_eq_true (by rw [← Ao.o]; exact e)
     have a1 := A2.o
     rw [Aq.o, if_pos e2] at a1
     rw [IntKind.wrap_u64]
     omega
    have A3 := Hh hwr
    clear hwr
    cases bq with
    | true =>
     have Ap := Hh (show amS (ofId (ys ++ [l]) id) = SM + AM by rw [Aq.o, if_pos (of_decide_eq_true Ao.o.symm)])
     have hwr := A3.o rfl
     go_wp2_with (first
       | (refine wpList_load_mid rfl 27 (.tmp 19) rfl G5 0 rfl LI _ Aw.o Tryz.underlying27 rfl Ax.o ?_)
       | (refine wpList_load_row rfl 27 (.tmp 3) rfl B rfl 27 LK.toArray (0, 0) _ An.o Tryz.underlying27 rfl Ah.o ?_))
     go_roundw
     case rel => exact ⟨_, _, Af.o, by rw [Ap.o]; go_num, An.o⟩
     case measure => exact Au.o
    | false =>
     have Ap := Hh (show amS (ofId (ys ++ [l]) id) = SM by rw [Aq.o, if_neg (of_decide_eq_false Ao.o.symm)]; rfl)
     go_wp2_with (first
       | (refine wpList_load_mid rfl 27 (.tmp 19) rfl G5 0 rfl LI _ Aw.o Tryz.underlying27 rfl Ax.o ?_)
       | (refine wpList_load_row rfl 27 (.tmp 3) rfl B rfl 27 LK.toArray (0, 0) _ An.o Tryz.underlying27 rfl Ah.o ?_))
     go_roundw
     case rel => exact ⟨_, _, Af.o, by rw [Ap.o], An.o⟩
     case measure => exact Au.o
end
end Go.Proofs.YtknfbccbdiidjaaGreatDoor
