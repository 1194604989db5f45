/- Two digests compared; offers in memory. -/
import Derived.Test.YtnddejgglbdkmaaDoorBook2
import Derived.Laws.StructEq
namespace Go.Proofs.YtnddejgglbdkmaaDoor
set_option linter.unusedVariables false
set_option linter.unusedSimpArgs false
open Go.ChangeShapes Go.WideShapes Go.ChangeAt Go.RowKit Go.Maps

theorem hash_eq (a b : List Nat) (ha : IsHash a) (hb : IsHash b) (w : World) : (Op.equal 30 (arr a) (arr b)).run Tryd.prog w = .ok (decide (a = b)) w := by
  obtain ⟨la, hla⟩ := key_some a ha
  obtain ⟨lb, hlb⟩ := key_some b hb
  have h := run_equal_deep (P := Tryd.prog) w (m := 2) (by omega) (k := 30) (by kernel_rfl) (by rw [Tryd.underlying30]) hla hlb
  obtain ⟨r, hr, hiff⟩ := h
  have hab : la = lb ↔ a = b := ⟨fun e => by subst e; exact arr_inj (hashKey.inj hla hlb), fun e => by subst e; rw [hla] at hlb; exact Option.some.inj hlb⟩
  have e : r = decide (a = b) := by
    by_cases hc : a = b
    · rw [decide_eq_true hc]; exact hiff.2 (hab.2 hc)
    · rw [decide_eq_false hc]
      cases r with
      | false => rfl
      | true => exact absurd (hab.1 (hiff.1 rfl)) hc
  rw [hr, e]
theorem hash_eqIn (a b : List Nat) (ha : IsHash a) (hb : IsHash b) (w : World) : (Op.equalIn 10000 30 (arr a) (arr b)).run Tryd.prog w = .ok (decide (a = b)) w := hash_eq a b ha hb w

/-- an offer that can be. -/
def Off.ok (o : Off) : Prop := IsHash o.id ∧ IsHash o.lock ∧ o.am < 18446744073709551616
theorem Off.length (o : Off) (h : o.ok) : o.cells.length = 68 := by
  simp [Off.cells, bcells_length, h.1.1, h.2.1.1]
theorem flat_get (os : List Off) (h : ∀ o ∈ os, o.ok) (i j : Nat) (o : Off) (hi : os[i]? = some o) (hj : j < 68) : (os.flatMap Off.cells)[68 * i + j]? = o.cells[j]? := by
  induction os generalizing i with
  | nil => simp at hi
  | cons p os ih =>
    have hp := Off.length p (h p List.mem_cons_self)
    rw [List.flatMap_cons]
    cases i with
    | zero =>
      simp at hi; subst hi
      rw [Nat.mul_zero, Nat.zero_add, List.getElem?_append_left (by omega)]
    | succ i =>
      rw [List.getElem?_cons_succ] at hi
      rw [List.getElem?_append_right (by omega), hp, show 68 * (i + 1) + j - 68 = 68 * i + j by omega]
      exact ih (fun o ho => h o (List.mem_cons_of_mem _ ho)) i hi
/-- a row of offers, laid open at one of them. -/
theorem off_range {w : World} {B : Nat} {v : Value} {os : List Off} (h : w.ownsRow B 32 68 v os.length (os.flatMap Off.cells)) (hok : ∀ o ∈ os, o.ok) {i : Nat} {o : Off} (hi : os[i]? = some o) :
    ∃ g cap, v = .slice (some ⟨g, 0, none⟩) os.length cap ∧ B ≤ g ∧ g < w.heap.size ∧ w.rangeAt g (68 * i) o.cells := by
  have hil := (List.getElem?_eq_some_iff.1 hi).1
  obtain ⟨g, cap, cur, rfl, hB, hh, h1, h2, h3, h4⟩ := own_open h (by omega)
  refine ⟨g, cap, rfl, hB, hh.lt, fun j u hu => ?_⟩
  have hj : j < 68 := by
    have := (List.getElem?_eq_some_iff.1 hu).1
    rw [Off.length o (hok o (List.mem_of_getElem? hi))] at this
    exact this
  refine hh.cell_is ?_
  rw [h4 _ (by omega), flat_get os hok i j o hi hj, hu]
end Go.Proofs.YtnddejgglbdkmaaDoor
