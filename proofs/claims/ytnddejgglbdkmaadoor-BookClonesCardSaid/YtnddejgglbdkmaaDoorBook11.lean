/- The walk of slices.Delete at offers: one of them is cut out. -/
import Derived.Test.YtnddejgglbdkmaaDoorBook10
import Derived.Lib.SliceRun
namespace Go.Proofs.YtnddejgglbdkmaaDoor
set_option linter.unusedVariables false
set_option linter.unusedSimpArgs false
open Go.ChangeShapes Go.WideShapes Go.ChangeAt Go.RowKit Go.Maps

theorem Has.setCells {g : Nat} {t : TypeId} : ∀ (vs : List Value) (o : Nat) (w : World) (cur : Array Value), Has w g t cur →
    ∃ cur', Has (w.setCells g o vs) g t cur' ∧ cur'.size = cur.size ∧ (∀ j, j < cur.size → cur'[j]? = if o ≤ j ∧ j < o + vs.length then vs[j - o]? else cur[j]?) ∧ Kept (fun k => k = g) w (w.setCells g o vs)
  | [], o, w, cur, h => ⟨cur, h, rfl, fun j _ => by rw [if_neg (by simp)], Kept.refl _ _⟩
  | v :: vs, o, w, cur, h => by
    obtain ⟨cur', h1, h2, h3, h4⟩ := Has.setCells vs (o + 1) _ _ (h.set o v)
    refine ⟨cur', h1, by rw [h2]; simp, fun j hj => ?_, ((Kept.refl (fun k => k = g) w).set (p := ⟨g, o, none⟩) (.inl rfl) v).trans h4⟩
    rw [h3 j (by simpa using hj)]
    by_cases e : j = o
    · subst e
      rw [if_neg (by omega), if_pos (by simp), Nat.sub_self, Array.getElem?_setIfInBounds_self_of_lt hj]
      rfl
    · by_cases e2 : o + 1 ≤ j ∧ j < o + 1 + vs.length
      · rw [if_pos e2, if_pos (by simp; omega), show j - o = (j - (o + 1)) + 1 by omega, List.getElem?_cons_succ]
      · rw [if_neg e2, if_neg (by simp only [List.length_cons]; omega), Array.getElem?_setIfInBounds_ne (by omega)]

theorem flat_len (os : List Off) (h : ∀ o ∈ os, o.ok) : (os.flatMap Off.cells).length = 68 * os.length := by
  induction os with
  | nil => rfl
  | cons o os ih =>
    rw [List.flatMap_cons, List.length_append, Off.length o (h o List.mem_cons_self), ih (fun p hp => h p (List.mem_cons_of_mem _ hp)), List.length_cons]
    omega
/-- zeros of an offer. -/
theorem zero_cells : ∃ (A0 : Array Value) (Z : List Value), (∀ w, (zeroValue 32).run Tryd.prog w = .ok (.agg A0) w) ∧ (Builtin.zeroCells A0 1).toList = Z ∧ Z.length = 68 ∧ ∀ v ∈ Z, v.oneCell' = true :=
  ⟨(Off.cells ⟨0, 0, List.replicate 32 0, 0, List.replicate 32 0, 0⟩).toArray, Off.cells ⟨0, 0, List.replicate 32 0, 0, List.replicate 32 0, 0⟩, fun w => by kernel_rfl, by kernel_rfl, by kernel_rfl, off_one _⟩
/-- one offer is cleared. -/
theorem clear_off (W : World) (B o c : Nat) (ty : TypeId) (A0 : Array Value) (Z : List Value) (h0 : ∀ w, (zeroValue 32).run Tryd.prog w = .ok (.agg A0) w) (hZ : (Builtin.zeroCells A0 1).toList = Z) (h1 : ∀ v ∈ Z, v.oneCell' = true)
    (hc : ∀ j, j < Z.length → (W.cell? ⟨B, o + j, none⟩).isSome = true) (hf : ∀ j, j < Z.length → W.frozen? ⟨B, o + j, none⟩ = false) :
    (Builtin.clear_ #[71] ty #[.slice (some ⟨B, o, none⟩) 1 c]).run Tryd.prog W = .ok (.tuple #[]) (W.setCells B o Z) := by
  have hst := run_storeCells_cells (P := Tryd.prog) B o Z 0 W (by simpa using hc) (by simpa using hf) h1
  simp only [Nat.add_zero] at hst
  simp [Builtin.clear_, run_underlying Tryd.underlying71, h0, Value.cells, hZ, hst, Result.andThen]
/-- what stands in the row when one offer is cut out. -/
theorem cut_cells (os : List Off) (hok : ∀ o ∈ os, o.ok) (i : Nat) (hi : i < os.length) (cur cur1 cur2 : Array Value) (cap : Nat) (hcap : os.length ≤ cap) (hsz : cur.size = cap * 68) (hcur : cur.toList.take (os.length * 68) = os.flatMap Off.cells) (Z : List Value) (hZ : Z.length = 68)
    (h1 : ∀ j, j < cur.size → cur1[j]? = if i * 68 ≤ j ∧ j < i * 68 + ((os.drop (i + 1)).flatMap Off.cells).length then ((os.drop (i + 1)).flatMap Off.cells)[j - i * 68]? else cur[j]?) (s1 : cur1.size = cur.size)
    (h2 : ∀ j, j < cur1.size → cur2[j]? = if (os.length - 1) * 68 ≤ j ∧ j < (os.length - 1) * 68 + Z.length then Z[j - (os.length - 1) * 68]? else cur1[j]?) (s2 : cur2.size = cur1.size) :
    cur2.toList.take ((os.length - 1) * 68) = (os.eraseIdx i).flatMap Off.cells := by
  have hd : ((os.drop (i + 1)).flatMap Off.cells).length = 68 * (os.length - (i + 1)) := by rw [flat_len _ (fun o ho => hok o (List.mem_of_mem_drop ho)), List.length_drop]
  have ht : ((os.take i).flatMap Off.cells).length = 68 * i := by rw [flat_len _ (fun o ho => hok o (List.mem_of_mem_take ho)), List.length_take, Nat.min_eq_left (by omega)]
  rw [List.eraseIdx_eq_take_drop_succ, List.flatMap_append]
  apply List.ext_getElem?
  intro j
  rw [List.getElem?_take]
  by_cases hj : j < (os.length - 1) * 68
  · rw [if_pos hj, Array.getElem?_toList, h2 j (by rw [s1, hsz]; have := Nat.mul_le_mul_right 68 hcap; omega), if_neg (by omega), h1 j (by rw [hsz]; have := Nat.mul_le_mul_right 68 hcap; omega)]
    by_cases hji : j < i * 68
    · rw [if_neg (by omega), List.getElem?_append_left (by omega)]
      have e : cur[j]? = (cur.toList.take (os.length * 68))[j]? := by rw [List.getElem?_take, if_pos (by omega), Array.getElem?_toList]
      rw [e, hcur]
      conv => lhs; rw [← List.take_append_drop i os, List.flatMap_append]
      rw [List.getElem?_append_left (by omega)]
    · rw [if_pos (by omega), List.getElem?_append_right (by omega), ht, show 68 * i = i * 68 by omega]
  · rw [if_neg hj, List.getElem?_eq_none]
    rw [List.length_append, hd, ht]
    omega
end Go.Proofs.YtnddejgglbdkmaaDoor
