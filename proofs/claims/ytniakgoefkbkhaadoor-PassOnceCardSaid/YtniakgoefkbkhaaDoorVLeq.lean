/- Leaves compared, field by field. -/
import Derived.Test.YtniakgoefkbkhaaDoorWs
import Derived.Test.YtniakgoefkbkhaaDoorVRnEq
import Derived.Test.YtniakgoefkbkhaaDoorVLf1
namespace Go.Proofs.YtniakgoefkbkhaaDoor
set_option linter.unusedVariables false
set_option linter.unusedSimpArgs false
open Go.ChangeShapes Go.WideShapes Go.ChangeAt Go.RowKit Go.Maps

theorem lq_num {t : TypeId} {k : IntKind} {T : TypeId} (ht : t = T) (hu : Tryd.prog.underlying T = some (.int k)) {l : List Value} {off : Nat} {v : Value} (h : l[off]? = some v) (w : World) : (part t l.toArray off).run Tryd.prog w = .ok v w := by
 subst ht
 exact part_int hu (by simpa using h) w
theorem lq_eq {t : TypeId} {k : IntKind} {T : TypeId} (ht : t = T) (hu : Tryd.prog.underlying T = some (.int k)) (d : Nat) (a b : Int) (w : World) : (Op.equalIn (d + 1) t (.int k a) (.int k b)).run Tryd.prog w = .ok (a == b) w := by
 subst ht
 exact run_equalIn_int w d t k k a b hu
instance : DecidableEq LeafT := fun a b => decidable_of_iff (a.id = b.id ∧ a.am = b.am ∧ a.ow = b.ow ∧ a.pl = b.pl ∧ a.sp.h = b.sp.h ∧ a.sp.s = b.sp.s) (by
  obtain ⟨a1, a2, a3, a4, ⟨a5, a6⟩⟩ := a
  obtain ⟨b1, b2, b3, b4, ⟨b5, b6⟩⟩ := b
  simp)
theorem lf_id {l : LeafT} (h : l.ok) : (l.cells.drop 0).take 32 = bcells l.id := by
 rw [List.drop_zero, LeafT.cells, List.take_append_of_le_length (by rw [bcells_length, h.id.1]; exact Nat.le_refl _)]
 exact List.take_of_length_le (by rw [bcells_length, h.id.1]; exact Nat.le_refl _)
theorem lf_ow {l : LeafT} (h : l.ok) : (l.cells.drop 33).take 32 = bcells l.ow := by
 have e : l.cells = (bcells l.id ++ [Value.int .u64 (l.am : Int)]) ++ (bcells l.ow ++ (.int .i64 l.pl :: ndV l.sp)) := by unfold LeafT.cells; simp
 have hl : (bcells l.id ++ [Value.int .u64 (l.am : Int)]).length = 33 := by simp [bcells_length, h.id.1]
 rw [e, ← hl, List.drop_left, List.take_append_of_le_length (by rw [bcells_length, h.ow.1]; exact Nat.le_refl _)]
 exact List.take_of_length_le (by rw [bcells_length, h.ow.1]; exact Nat.le_refl _)
theorem lf_sp {l : LeafT} (h : l.ok) : (l.cells.drop 66).take 33 = ndV l.sp := by
 have e : l.cells = (bcells l.id ++ [Value.int .u64 (l.am : Int)] ++ bcells l.ow ++ [Value.int .i64 l.pl]) ++ ndV l.sp := by unfold LeafT.cells; simp
 have hl : (bcells l.id ++ [Value.int .u64 (l.am : Int)] ++ bcells l.ow ++ [Value.int .i64 l.pl]).length = 66 := by simp [bcells_length, h.id.1, h.ow.1]
 rw [e, ← hl, List.drop_left]
 exact List.take_of_length_le (by rw [ndV_len h.sp]; exact Nat.le_refl _)
theorem nd_h {x : Nd} (h : IsHash x.h) : ((ndV x).drop 0).take 32 = bcells x.h := by
 rw [List.drop_zero, ndV, ncells, List.take_append_of_le_length (by rw [bcells_length, h.1]; exact Nat.le_refl _)]
 exact List.take_of_length_le (by rw [bcells_length, h.1]; exact Nat.le_refl _)
theorem nd_s {x : Nd} (h : IsHash x.h) : (ndV x)[32]? = some (.int .u64 (x.s : Int)) := by
 rw [ndV, ncells, List.getElem?_append_right (by rw [bcells_length, h.1]; exact Nat.le_refl _), bcells_length, h.1]
 rfl
theorem le_hash {t : TypeId} (ht : t = 39) {l : List Value} {off : Nat} {k : List Nat} (h : (l.drop off).take 32 = bcells k) (w : World) : (part t l.toArray off).run Tryd.prog w = .ok (.agg (bcells k).toArray) w := by
 subst ht
 rw [part_agg Tryd.underlying39 (k := 32) (by kernel_rfl), extract_list, h]
theorem le_heq {t : TypeId} (ht : t = 39) (d : Nat) {a b : List Nat} (ha : IsHash a) (hb : IsHash b) (w : World) : (Op.equalIn (d + 2) t (.agg (bcells a).toArray) (.agg (bcells b).toArray)).run Tryd.prog w = .ok (decide (a = b)) w := by
 subst ht
 exact hash_eq_at d a b ha hb w
theorem le_node {t : TypeId} (ht : t = 79) (d : Nat) (x y : Nd) (hx : IsHash x.h) (hy : IsHash y.h) (w : World) : (Op.equalIn (d + 4) t (.agg (ndV x).toArray) (.agg (ndV y).toArray)).run Tryd.prog w = .ok (decide (x.h = y.h ∧ x.s = y.s)) w := by
 subst ht
 obtain ⟨f0, f1, hf, ⟨n0, t0, o0⟩, ⟨n1, t1, o1⟩⟩ := mn_fields
 rw [run_equalIn_struct w (d + 3) 79 _ _ mn_struct (by kernel_rfl), hf, eqF_any n0 (le_hash t0 (off := f0.offset) (by rw [o0]; exact nd_h hx) w) (le_hash t0 (off := f0.offset) (by rw [o0]; exact nd_h hy) w) (le_heq t0 (d + 1) hx hy w),
   eqF_any n1 (lq_num t1 Tryd.underlying22 (off := f1.offset) (by rw [o1]; exact nd_s hx) w) (lq_num t1 Tryd.underlying22 (off := f1.offset) (by rw [o1]; exact nd_s hy) w) (lq_eq t1 Tryd.underlying22 (d + 2) _ _ w), eqF_nil]
 by_cases h1 : x.h = y.h
 · by_cases h2 : x.s = y.s
   · simp [h1, h2]
   · have h2' : ¬ ((x.s : Int) = (y.s : Int)) := fun e => h2 (by omega)
     simp [h1, h2, h2']
 · simp [h1]
theorem le_part {t : TypeId} (ht : t = 79) {l : List Value} {off : Nat} {x : Nd} (h : (l.drop off).take 33 = ndV x) (w : World) : (part t l.toArray off).run Tryd.prog w = .ok (.agg (ndV x).toArray) w := by
 subst ht
 obtain ⟨i, hi⟩ := info_of_underlying mn_struct
 have hc : Tryd.prog.cellsOf 79 = 33 := by kernel_rfl
 have e : l.toArray.extract off (off + Tryd.prog.cellsOf 79) = (ndV x).toArray := by rw [hc, extract_list, h]
 simp [part, isAgg, run_underlying mn_struct, run_sizeOf w hi, e, h]
theorem le_fields : ∃ f0 f1 f2 f3 f4, (Tryd.prog.fieldsOf 81).toList = [f0, f1, f2, f3, f4] ∧ (f0.name ≠ "_" ∧ f0.type = 39 ∧ f0.offset = 0) ∧ (f1.name ≠ "_" ∧ f1.type = 22 ∧ f1.offset = 32) ∧ (f2.name ≠ "_" ∧ f2.type = 39 ∧ f2.offset = 33) ∧
  (f3.name ≠ "_" ∧ f3.type = 3 ∧ f3.offset = 65) ∧ (f4.name ≠ "_" ∧ f4.type = 79 ∧ f4.offset = 66) := by
 unfold Program.fieldsOf
 rw [Tryd.underlying81]
 exact ⟨_, _, _, _, _, rfl, ⟨by decide, rfl, rfl⟩, ⟨by decide, rfl, rfl⟩, ⟨by decide, rfl, rfl⟩, ⟨by decide, rfl, rfl⟩, ⟨by decide, rfl, rfl⟩⟩
theorem le_struct : Tryd.prog.underlying 81 = some (.struct (Tryd.prog.fieldsOf 81)) := by
 unfold Program.fieldsOf
 rw [Tryd.underlying81]
theorem le_eq (x y : LeafT) (hx : x.ok) (hy : y.ok) (w : World) : (Op.equalIn 10000 81 (.agg x.cells.toArray) (.agg y.cells.toArray)).run Tryd.prog w = .ok (decide (x = y)) w := by
 obtain ⟨f0, f1, f2, f3, f4, hf, ⟨n0, t0, o0⟩, ⟨n1, t1, o1⟩, ⟨n2, t2, o2⟩, ⟨n3, t3, o3⟩, ⟨n4, t4, o4⟩⟩ := le_fields
 rw [run_equalIn_struct w 9999 81 _ _ le_struct (by kernel_rfl), hf,
   eqF_any n0 (le_hash t0 (off := f0.offset) (by rw [o0]; exact lf_id hx) w) (le_hash t0 (off := f0.offset) (by rw [o0]; exact lf_id hy) w) (le_heq t0 9997 hx.id hy.id w),
   eqF_any n1 (lq_num t1 Tryd.underlying22 (off := f1.offset) (by rw [o1]; exact LeafT.at_am hx) w) (lq_num t1 Tryd.underlying22 (off := f1.offset) (by rw [o1]; exact LeafT.at_am hy) w) (lq_eq t1 Tryd.underlying22 9998 _ _ w),
   eqF_any n2 (le_hash t2 (off := f2.offset) (by rw [o2]; exact lf_ow hx) w) (le_hash t2 (off := f2.offset) (by rw [o2]; exact lf_ow hy) w) (le_heq t2 9997 hx.ow hy.ow w),
   eqF_any n3 (lq_num t3 Tryd.underlying3 (off := f3.offset) (by rw [o3]; exact LeafT.at_pl hx) w) (lq_num t3 Tryd.underlying3 (off := f3.offset) (by rw [o3]; exact LeafT.at_pl hy) w) (lq_eq t3 Tryd.underlying3 9998 _ _ w),
   eqF_any n4 (le_part t4 (off := f4.offset) (by rw [o4]; exact lf_sp hx) w) (le_part t4 (off := f4.offset) (by rw [o4]; exact lf_sp hy) w) (le_node t4 9995 x.sp y.sp hx.sp hy.sp w), eqF_nil]
 have hd : (x = y) ↔ (x.id = y.id ∧ x.am = y.am ∧ x.ow = y.ow ∧ x.pl = y.pl ∧ x.sp.h = y.sp.h ∧ x.sp.s = y.sp.s) := by
   obtain ⟨a1, a2, a3, a4, ⟨a5, a6⟩⟩ := x
   obtain ⟨b1, b2, b3, b4, ⟨b5, b6⟩⟩ := y
   simp
 have hdd : decide (x = y) = decide (x.id = y.id ∧ x.am = y.am ∧ x.ow = y.ow ∧ x.pl = y.pl ∧ x.sp.h = y.sp.h ∧ x.sp.s = y.sp.s) := decide_eq_decide.2 hd
 rw [hdd]
 by_cases h1 : x.id = y.id
 · by_cases h2 : x.am = y.am
   · by_cases h3 : x.ow = y.ow
     · by_cases h4 : x.pl = y.pl
       · simp [h1, h2, h3, h4]
         by_cases h5 : x.sp.h = y.sp.h ∧ x.sp.s = y.sp.s
         · simp [h5]
         · simp [h5]
           exact fun e1 e2 => h5 ⟨e1, e2⟩
       · simp [h1, h2, h3, h4]
     · simp [h1, h2, h3]
   · have h2' : ¬ ((x.am : Int) = (y.am : Int)) := fun e => h2 (by omega)
     simp [h1, h2, h2']
 · simp [h1]

end Go.Proofs.YtniakgoefkbkhaaDoor

