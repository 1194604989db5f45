/- Numbers as digits of one byte, the lowest first: the plain laws. -/
import Derived.Test.YtngmpcmeebcdmaaDoorBase
namespace Go.Proofs.YtngmpcmeebcdmaaDoor
set_option linter.unusedVariables false
set_option linter.unusedSimpArgs false

/-- a number's digits, none above the highest. -/
def digs (n : Nat) : List Nat := if h : n = 0 then [] else n % 256 :: digs (n / 256)
termination_by n
decreasing_by omega
theorem digs_zero : digs 0 = [] := by rw [digs, dif_pos rfl]
theorem digs_pos {n : Nat} (h : ¬ n = 0) : digs n = n % 256 :: digs (n / 256) := by rw [digs, dif_neg h]
/-- digits' value. -/
def valD : List Nat → Nat
  | [] => 0
  | d :: ds => d + 256 * valD ds
theorem digs_val (n : Nat) : valD (digs n) = n := by
  induction n using Nat.strongRecOn with
  | ind n ih =>
    by_cases h : n = 0
    · rw [h, digs_zero]; rfl
    · rw [digs_pos h]
      show n % 256 + 256 * valD (digs (n / 256)) = n
      rw [ih (n / 256) (by omega)]; omega
theorem digs_lt (n : Nat) : ∀ d ∈ digs n, d < 256 := by
  induction n using Nat.strongRecOn with
  | ind n ih =>
    by_cases h : n = 0
    · rw [h, digs_zero]; intro d hd; cases hd
    · rw [digs_pos h]
      intro d hd
      rcases List.mem_cons.1 hd with e | e
      · omega
      · exact ih (n / 256) (by omega) d e
/-- the digit at a place. -/
theorem digs_at (n i : Nat) : (digs n).getD i 0 = n / 256 ^ i % 256 := by
  induction i generalizing n with
  | zero =>
    by_cases h : n = 0
    · rw [h, digs_zero]; rfl
    · rw [digs_pos h]; simp
  | succ i ih =>
    by_cases h : n = 0
    · rw [h, digs_zero]; simp
    · rw [digs_pos h]
      show (digs (n / 256)).getD i 0 = _
      rw [ih, Nat.div_div_eq_div_mul, Nat.pow_succ, Nat.mul_comm 256]
theorem digs_len (n k : Nat) : (digs n).length ≤ k ↔ n < 256 ^ k := by
  induction k generalizing n with
  | zero =>
    by_cases h : n = 0
    · rw [h, digs_zero]; simp
    · rw [digs_pos h]; simp; omega
  | succ k ih =>
    by_cases h : n = 0
    · rw [h, digs_zero]; simp; exact Nat.pow_pos (by decide)
    · rw [digs_pos h, List.length_cons, Nat.succ_le_succ_iff, ih, Nat.pow_succ]
      exact Nat.div_lt_iff_lt_mul (by decide)
theorem digs_over {n i : Nat} (h : (digs n).length ≤ i) : n / 256 ^ i = 0 := Nat.div_eq_of_lt ((digs_len n i).1 h)
theorem digs_top {n i : Nat} (h : i < (digs n).length) : 256 ^ i ≤ n := by
  refine Nat.le_of_not_lt fun hc => ?_
  have := (digs_len n i).2 hc
  omega
/-- digits without noughts at the end are those of their value. -/
theorem val_app (l m : List Nat) : valD (l ++ m) = valD l + 256 ^ l.length * valD m := by
  induction l with
  | nil => simp [valD]
  | cons d l ih =>
    show d + 256 * valD (l ++ m) = d + 256 * valD l + 256 ^ (l.length + 1) * valD m
    rw [ih, Nat.pow_succ, Nat.mul_add]
    have : 256 ^ l.length * 256 * valD m = 256 * (256 ^ l.length * valD m) := by rw [Nat.mul_comm (256 ^ l.length) 256, Nat.mul_assoc]
    omega
theorem val_lt (l : List Nat) (h : ∀ d ∈ l, d < 256) : valD l < 256 ^ l.length := by
  induction l with
  | nil => simp [valD]
  | cons d l ih =>
    have h1 := h d List.mem_cons_self
    have h2 := ih (fun x hx => h x (List.mem_cons_of_mem _ hx))
    show d + 256 * valD l < 256 ^ (l.length + 1)
    rw [Nat.pow_succ]
    omega
theorem val_digs (l : List Nat) (h : ∀ d ∈ l, d < 256) (ht : 0 < l.length → ¬ l.getD (l.length - 1) 0 = 0) : digs (valD l) = l := by
  induction l with
  | nil => exact digs_zero
  | cons d l ih =>
    have h1 := h d List.mem_cons_self
    have hl : ∀ x ∈ l, x < 256 := fun x hx => h x (List.mem_cons_of_mem _ hx)
    have e : valD (d :: l) = d + 256 * valD l := rfl
    have hi : digs (valD l) = l := ih hl fun h0 => by
      have h2 := ht (by simp)
      rw [List.length_cons, Nat.add_sub_cancel] at h2
      intro hc
      apply h2
      have e2 : l.length = (l.length - 1) + 1 := by omega
      rw [e2]
      exact hc
    have hnz : ¬ valD (d :: l) = 0 := by
      intro h0
      rw [e] at h0
      have hd : d = 0 := by omega
      have hv : valD l = 0 := by omega
      rw [hv, digs_zero] at hi
      have h2 := ht (by simp)
      rw [← hi] at h2
      exact h2 hd
    rw [digs_pos hnz, e]
    have a : (d + 256 * valD l) % 256 = d := by omega
    have b : (d + 256 * valD l) / 256 = valD l := by omega
    rw [a, b, hi]
theorem val_snoc0 (l : List Nat) : valD (l ++ [0]) = valD l := by rw [val_app]; simp [valD]
/-- what is cut off at the end is nought. -/
theorem val_take (l : List Nat) (k : Nat) (hk : k < l.length) (h : l.getD k 0 = 0) : valD (l.take (k + 1)) = valD (l.take k) := by
  rw [List.take_add_one, List.getElem?_eq_getElem hk]
  have : l[k] = 0 := by rwa [List.getD_eq_getElem?_getD, List.getElem?_eq_getElem hk] at h
  rw [this]
  exact val_snoc0 _
theorem pow_step (n i : Nat) : n / 256 ^ i = 256 * (n / 256 ^ (i + 1)) + n / 256 ^ i % 256 := by
  rw [Nat.pow_succ, ← Nat.div_div_eq_div_mul]; omega
theorem mod_step (n i : Nat) : n % 256 ^ (i + 1) = n % 256 ^ i + 256 ^ i * (n / 256 ^ i % 256) := by
  rw [Nat.pow_succ, Nat.mod_mul]
/-- one digit of a sum. -/
theorem add_step {a b i c V : Nat} (h : V + 256 ^ i * c = a % 256 ^ i + b % 256 ^ i) : (V + 256 ^ i * ((c + a / 256 ^ i % 256 + b / 256 ^ i % 256) % 256)) + 256 ^ (i + 1) * ((c + a / 256 ^ i % 256 + b / 256 ^ i % 256) / 256) = a % 256 ^ (i + 1) + b % 256 ^ (i + 1) := by
  rw [mod_step, mod_step]
  obtain ⟨x, hx⟩ : ∃ x, x = a / 256 ^ i % 256 := ⟨_, rfl⟩
  obtain ⟨y, hy⟩ : ∃ y, y = b / 256 ^ i % 256 := ⟨_, rfl⟩
  obtain ⟨P, hP⟩ : ∃ P, P = 256 ^ i := ⟨_, rfl⟩
  rw [← hx, ← hy, Nat.pow_succ, ← hP]
  rw [← hP] at h
  have e : P * (c + x + y) = P * ((c + x + y) % 256) + P * 256 * ((c + x + y) / 256) := by
    rw [Nat.mul_assoc, ← Nat.mul_add]
    congr 1
    omega
  rw [Nat.mul_add, Nat.mul_add] at e
  omega
/-- the number again, from the highest digit on. -/
theorem num_step (n i : Nat) : n / 256 ^ (i + 1) * 256 + n / 256 ^ i % 256 = n / 256 ^ i := by
  have := pow_step n i; omega
end Go.Proofs.YtngmpcmeebcdmaaDoor
