/- What (*sha.Hasher).Sum makes, step by step, as plain lists. -/
import Derived.Test.YtngmpcmeebcdmaaDoorSha4
namespace Go.Proofs.YtngmpcmeebcdmaaDoor
set_option linter.unusedVariables false
set_option linter.unusedSimpArgs false
open Go.ChangeShapes Go.WideShapes Go.ChangeAt Go.RowKit

/-- the eight bytes of a number, the last k of them told, the others nought. -/
def eightTo (n k : Nat) : List Nat := (List.range 8).map fun i => if 7 - i < k then n / 2 ^ (8 * (7 - i)) % 256 else 0
theorem eightTo_length (n k : Nat) : (eightTo n k).length = 8 := by simp [eightTo]
theorem eightTo_zero (n : Nat) : eightTo n 0 = List.replicate 8 0 := rfl
theorem eightTo_full (n : Nat) : eightTo n 8 = eight n := by
  unfold eightTo eight
  apply List.map_congr_left
  intro i hi
  rw [if_pos (by omega)]
theorem eightTo_set (n k : Nat) (hk : k < 8) : (eightTo n k).set (7 - k) (n / 2 ^ (8 * k) % 256) = eightTo n (k + 1) := by
  apply List.ext_getElem?
  intro i
  simp only [eightTo, List.getElem?_set, List.length_map, List.length_range, List.getElem?_map]
  by_cases h : 7 - k = i
  · subst h
    rw [if_pos rfl, if_pos (by omega), List.getElem?_range (by omega), Option.map_some, if_pos (by omega), show 7 - (7 - k) = k by omega]
  · rw [if_neg h]
    by_cases h8 : i < 8
    · simp only [List.getElem?_range h8, Option.map_some]
      by_cases h2 : 7 - i < k
      · rw [if_pos h2, if_pos (by omega)]
      · rw [if_neg h2, if_neg (by omega)]
    · simp [h8]
/-- the end's 128 bytes, k of the eight bytes told. -/
def endTo (r : List Nat) (size n k : Nat) : List Nat := (r ++ 128 :: List.replicate (size - 9 - r.length) 0) ++ (eightTo (8 * n) k ++ List.replicate (128 - size) 0)
theorem endTo_length (r : List Nat) (size n k : Nat) (h1 : r.length + 9 ≤ size) (h2 : size ≤ 128) : (endTo r size n k).length = 128 := by
  simp [endTo, eightTo_length]; omega
theorem endTo_zero (r : List Nat) (size n : Nat) (h1 : r.length + 9 ≤ size) (h2 : size ≤ 128) : (r ++ 128 :: List.replicate (127 - r.length) 0) = endTo r size n 0 := by
  unfold endTo
  rw [eightTo_zero, List.append_assoc]
  congr 1
  rw [List.cons_append]
  congr 1
  rw [← List.append_assoc, List.replicate_append_replicate, List.replicate_append_replicate]
  congr 1
  omega
theorem endTo_set (r : List Nat) (size n k : Nat) (h1 : r.length + 9 ≤ size) (h2 : size ≤ 128) (hk : k < 8) :
    (endTo r size n k).set (size - 1 - k) (8 * n / 2 ^ (8 * k) % 256) = endTo r size n (k + 1) := by
  unfold endTo
  have e : (r ++ 128 :: List.replicate (size - 9 - r.length) 0).length = size - 8 := by simp; omega
  rw [List.set_append_right _ _ (by omega), e, List.set_append_left _ _ (by rw [eightTo_length]; omega), show size - 1 - k - (size - 8) = 7 - k by omega, eightTo_set _ _ hk]
theorem endTo_full (r : List Nat) (n : Nat) (h : r.length < 64) : endTo r (if r.length < 56 then 64 else 128) n 8 = tailOf r n ++ List.replicate (128 - (if r.length < 56 then 64 else 128)) 0 := by
  unfold endTo tailOf
  rw [eightTo_full]
  simp [List.append_assoc]
theorem endTo_low (r : List Nat) (size n k : Nat) (h : ∀ x ∈ r, x < 256) : ∀ x ∈ endTo r size n k, x < 256 := by
  intro x hx
  unfold endTo at hx
  simp only [List.mem_append, List.mem_cons, List.mem_replicate, eightTo, List.mem_map, List.mem_range] at hx
  rcases hx with (hx | rfl | ⟨_, rfl⟩) | ⟨i, _, rfl⟩ | ⟨_, rfl⟩
  · exact h x hx
  · omega
  · omega
  · split
    · exact Nat.mod_lt _ (by omega)
    · omega
  · omega
theorem tailOf_low (r : List Nat) (n : Nat) (hl : r.length < 64) (h : ∀ x ∈ r, x < 256) : ∀ x ∈ tailOf r n, x < 256 := by
  intro x hx
  have := endTo_low r (if r.length < 56 then 64 else 128) n 8 h x
  rw [endTo_full r n hl] at this
  exact this (List.mem_append_left _ hx)
/-- the bytes of the first k words, the others nought. -/
def outTo (s : List Wd) (k : Nat) : List Nat := (s.take k).flatMap bytesOf ++ List.replicate (32 - 4 * k) 0
theorem flat_length (s : List Wd) : (s.flatMap bytesOf).length = 4 * s.length := by
  induction s with
  | nil => rfl
  | cons x s ih => rw [List.flatMap_cons, List.length_append, ih, List.length_cons]; simp [bytesOf]; omega
theorem outTo_length (s : List Wd) (k : Nat) (hs : s.length = 8) (hk : k ≤ 8) : (outTo s k).length = 32 := by
  rw [outTo, List.length_append, flat_length, List.length_take, List.length_replicate]; omega
theorem set_four (P Z : List Nat) (p b0 b1 b2 b3 : Nat) (hp : P.length = p) :
    ((((P ++ 0 :: 0 :: 0 :: 0 :: Z).set p b0).set (p + 1) b1).set (p + 2) b2).set (p + 3) b3 = P ++ b0 :: b1 :: b2 :: b3 :: Z := by
  subst hp
  rw [List.set_append_right _ _ (Nat.le_refl _), Nat.sub_self, List.set_cons_zero, List.set_append_right _ _ (by omega), show P.length + 1 - P.length = 1 by omega, List.set_cons_succ, List.set_cons_zero,
    List.set_append_right _ _ (by omega), show P.length + 2 - P.length = 2 by omega, List.set_cons_succ, List.set_cons_succ, List.set_cons_zero, List.set_append_right _ _ (by omega), show P.length + 3 - P.length = 3 by omega,
    List.set_cons_succ, List.set_cons_succ, List.set_cons_succ, List.set_cons_zero]
theorem outTo_set (s : List Wd) (k : Nat) (hs : s.length = 8) (hk : k < 8) :
    ((((outTo s k).set (4 * k) ((s.getD k 0).toNat / 16777216)).set (4 * k + 1) ((s.getD k 0).toNat / 65536 % 256)).set (4 * k + 2) ((s.getD k 0).toNat / 256 % 256)).set (4 * k + 3) ((s.getD k 0).toNat % 256) = outTo s (k + 1) := by
  unfold outTo
  obtain ⟨z, hz⟩ : ∃ z, 32 - 4 * k = z + 4 := ⟨28 - 4 * k, by omega⟩
  have e : List.replicate (32 - 4 * k) 0 = 0 :: 0 :: 0 :: 0 :: List.replicate z (0 : Nat) := by rw [hz]; rfl
  rw [e, set_four _ _ _ _ _ _ _ (by rw [flat_length, List.length_take]; omega), show 32 - 4 * (k + 1) = z by omega, List.take_add_one, List.flatMap_append]
  have hg : s[k]? = some (s.getD k 0) := by simp [hs, hk]
  rw [hg]
  simp [bytesOf]
theorem outTo_full (s : List Wd) (hs : s.length = 8) : outTo s 8 = s.flatMap bytesOf := by
  unfold outTo
  rw [List.take_of_length_le (by omega)]
  simp
theorem outTo_zero (s : List Wd) : outTo s 0 = List.replicate 32 0 := rfl
theorem bcells_set (b : List Nat) (i x : Nat) : (bcells b).set i (.int .u8 (x : Int)) = bcells (b.set i x) := by
  simp [bcells, List.map_set]
end Go.Proofs.YtngmpcmeebcdmaaDoor
