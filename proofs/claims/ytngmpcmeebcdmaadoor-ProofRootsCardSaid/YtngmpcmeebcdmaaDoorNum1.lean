/- Products and orders of numbers in digits: the plain laws. -/
import Derived.Test.YtngmpcmeebcdmaaDoorNum0
namespace Go.Proofs.YtngmpcmeebcdmaaDoor
set_option linter.unusedVariables false
set_option linter.unusedSimpArgs false

theorem val_set (l : List Nat) (j x : Nat) (h : j < l.length) : valD (l.set j (l.getD j 0 + x)) = valD l + 256 ^ j * x := by
  induction l generalizing j with
  | nil => cases h
  | cons d l ih =>
    cases j with
    | zero =>
      show (d + x) + 256 * valD l = d + 256 * valD l + 256 ^ 0 * x
      omega
    | succ j =>
      show d + 256 * valD (l.set j (l.getD j 0 + x)) = d + 256 * valD l + 256 ^ (j + 1) * x
      rw [ih j (by simpa using h), Nat.pow_succ, Nat.mul_add]
      have : 256 ^ j * 256 * x = 256 * (256 ^ j * x) := by rw [Nat.mul_comm (256 ^ j) 256, Nat.mul_assoc]
      omega
theorem set_lt {l : List Nat} {j x B : Nat} (h : ∀ d ∈ l, d ≤ B) (hx : x ≤ B) : ∀ d ∈ l.set j x, d ≤ B := fun d hd => by
  rcases List.mem_or_eq_of_mem_set hd with h1 | h1
  · exact h d h1
  · omega
theorem getD_le {l : List Nat} {B : Nat} (h : ∀ d ∈ l, d ≤ B) (j : Nat) : l.getD j 0 ≤ B := by
  rw [List.getD_eq_getElem?_getD]
  cases hj : l[j]? with
  | none => exact Nat.zero_le _
  | some d => exact h d (List.mem_of_getElem? hj)
theorem val_zeros (n : Nat) : valD (List.replicate n 0) = 0 := by
  induction n with
  | zero => rfl
  | succ n ih => rw [List.replicate_succ]; show 0 + 256 * valD _ = 0; rw [ih]
theorem val_take_succ (l : List Nat) (k : Nat) : valD (l.take (k + 1)) = valD (l.take k) + 256 ^ k * l.getD k 0 := by
  by_cases h : k < l.length
  · rw [List.take_add_one, List.getElem?_eq_getElem h, val_app, List.length_take, Nat.min_eq_left (by omega)]
    rw [List.getD_eq_getElem?_getD, List.getElem?_eq_getElem h]
    simp [valD]
  · rw [List.take_of_length_le (by omega), List.take_of_length_le (by omega), List.getD_eq_getElem?_getD, List.getElem?_eq_none (by omega)]
    simp
/-- how a product is gathered: rows done, digits of the next row done. -/
structure MulAt (a b out : List Nat) (i k : Nat) : Prop where
  len : out.length = a.length + b.length + 4
  val : valD out = valD (a.take i) * valD b + 256 ^ i * (a.getD i 0 * valD (b.take k))
  low : ∀ d ∈ out, d ≤ (i * b.length + k) * 65025
theorem MulAt.start (a b : List Nat) : MulAt a b (List.replicate (a.length + b.length + 4) 0) 0 0 :=
  ⟨by simp, by rw [val_zeros]; simp [valD], fun d hd => by rw [(List.mem_replicate.1 hd).2]; exact Nat.zero_le _⟩
theorem MulAt.step {a b out : List Nat} {i k : Nat} (h : MulAt a b out i k) (hi : i < a.length) (hk : k < b.length) (ha : ∀ d ∈ a, d < 256) (hb : ∀ d ∈ b, d < 256) :
    MulAt a b (out.set (i + k) (out.getD (i + k) 0 + a.getD i 0 * b.getD k 0)) i (k + 1) := by
  have h1 : a.getD i 0 ≤ 255 := getD_le (fun d hd => by have := ha d hd; omega) i
  have h2 : b.getD k 0 ≤ 255 := getD_le (fun d hd => by have := hb d hd; omega) k
  have h3 : a.getD i 0 * b.getD k 0 ≤ 255 * 255 := Nat.mul_le_mul h1 h2
  have h4 := getD_le h.low (i + k)
  refine ⟨by rw [List.length_set]; exact h.len, ?_, ?_⟩
  · rw [val_set _ _ _ (by rw [h.len]; omega), h.val, val_take_succ, Nat.mul_add, Nat.mul_add, Nat.pow_add]
    have : 256 ^ i * (a.getD i 0 * (256 ^ k * b.getD k 0)) = 256 ^ i * 256 ^ k * (a.getD i 0 * b.getD k 0) := by
      rw [Nat.mul_assoc, Nat.mul_left_comm (a.getD i 0)]
    omega
  · have e : (i * b.length + (k + 1)) * 65025 = (i * b.length + k) * 65025 + 65025 := by rw [← Nat.add_assoc, Nat.succ_mul]
    rw [e]
    exact set_lt (fun d hd => Nat.le_trans (h.low d hd) (by omega)) (by omega)
theorem MulAt.row {a b out : List Nat} {i : Nat} (h : MulAt a b out i b.length) : MulAt a b out (i + 1) 0 := by
  refine ⟨h.len, ?_, ?_⟩
  · rw [h.val, List.take_length, val_take_succ, Nat.add_mul, Nat.mul_assoc]
    simp [valD]
  · rw [Nat.succ_mul]
    exact fun d hd => Nat.le_trans (h.low d hd) (by omega)
/-- how what is carried goes up. -/
structure CarryAt (P B : Nat) (out : List Nat) (i c : Nat) : Prop where
  val : valD out + 256 ^ i * c = P
  low : ∀ (j : Nat) d, j < i → out[j]? = some d → d < 256
  top : ∀ d ∈ out, d ≤ B
  car : c ≤ B
  big : 255 ≤ B
theorem CarryAt.step {P B : Nat} {out : List Nat} {i c : Nat} (h : CarryAt P B out i c) (hi : i < out.length) : CarryAt P B (out.set i ((c + out.getD i 0) % 256)) (i + 1) ((c + out.getD i 0) / 256) := by
  have ht := getD_le h.top i
  obtain ⟨x, hx⟩ : ∃ x, x = out.getD i 0 := ⟨_, rfl⟩
  have hg : out[i]? = some x := by rw [hx, List.getD_eq_getElem?_getD, List.getElem?_eq_getElem hi]; rfl
  have hc := h.car
  have hbg := h.big
  rw [← hx] at ht ⊢
  refine ⟨?_, fun j d hj hd => ?_, fun d hd => ?_, by have := h.big; omega, h.big⟩
  · have e0 := val_set (out.set i 0) i ((c + x) % 256) (by rw [List.length_set]; exact hi)
    have e1 := val_set (out.set i 0) i x (by rw [List.length_set]; exact hi)
    have ez : (out.set i 0).getD i 0 = 0 := by rw [List.getD_eq_getElem?_getD, List.getElem?_set_self hi]; rfl
    rw [ez, Nat.zero_add, List.set_set] at e0 e1
    have es : out.set i x = out := by
      apply List.ext_getElem?
      intro j
      by_cases hj : i = j
      · subst hj; rw [List.getElem?_set_self hi, hg]
      · rw [List.getElem?_set_ne hj]
    rw [es] at e1
    have hv := h.val
    rw [e0, Nat.pow_succ]
    have : 256 ^ i * (c + x) = 256 ^ i * ((c + x) % 256) + 256 ^ i * 256 * ((c + x) / 256) := by
      rw [Nat.mul_assoc, ← Nat.mul_add]
      congr 1
      omega
    rw [Nat.mul_add] at this
    omega
  · rcases Nat.lt_or_ge j i with h1 | h1
    · rw [List.getElem?_set_ne (by omega)] at hd
      exact h.low j d h1 hd
    · have e : j = i := by omega
      subst e
      rw [List.getElem?_set_self hi] at hd
      injection hd with hd
      omega
  · rcases List.mem_or_eq_of_mem_set hd with h1 | h1
    · exact h.top d h1
    · omega
theorem CarryAt.done {P B : Nat} {out : List Nat} {c : Nat} (h : CarryAt P B out out.length c) (hP : P < 256 ^ out.length) : valD out = P ∧ ∀ d ∈ out, d < 256 := by
  have hv := h.val
  have hc : c = 0 := by
    rcases Nat.eq_zero_or_pos c with h0 | h0
    · exact h0
    · have := Nat.mul_le_mul_left (256 ^ out.length) h0
      omega
  rw [hc] at hv
  refine ⟨by omega, fun d hd => ?_⟩
  obtain ⟨j, hj⟩ := List.getElem?_of_mem hd
  exact h.low j d (List.getElem?_eq_some_iff.1 hj).1 hj
theorem prod_lt (a b : List Nat) (ha : ∀ d ∈ a, d < 256) (hb : ∀ d ∈ b, d < 256) : valD a * valD b < 256 ^ (a.length + b.length + 4) := by
  have h1 := val_lt a ha
  have h2 := val_lt b hb
  have h3 : valD a * valD b ≤ 256 ^ a.length * 256 ^ b.length := Nat.mul_le_mul (by omega) (by omega)
  rw [← Nat.pow_add] at h3
  have h4 : 256 ^ (a.length + b.length) < 256 ^ (a.length + b.length + 4) := Nat.pow_lt_pow_right (by decide) (by omega)
  omega
/-- -1, 0, 1. -/
def cmpN (m n : Nat) : Int := if m < n then -1 else if m = n then 0 else 1
theorem cmp_len {m n : Nat} (h : (digs m).length < (digs n).length) : m < n := by
  refine Nat.lt_of_not_le fun hc => ?_
  have h1 := (digs_len m (digs m).length).1 (Nat.le_refl _)
  have := (digs_len n (digs m).length).2 (by omega)
  omega
theorem cmp_digit {m n i : Nat} (he : m / 256 ^ (i + 1) = n / 256 ^ (i + 1)) (h : m / 256 ^ i % 256 < n / 256 ^ i % 256) : m < n := by
  have h1 := pow_step m i
  have h2 := pow_step n i
  refine Nat.lt_of_not_le fun hc => ?_
  have := Nat.div_le_div_right (c := 256 ^ i) hc
  omega
theorem cmp_same {m n i : Nat} (he : m / 256 ^ (i + 1) = n / 256 ^ (i + 1)) (h : m / 256 ^ i % 256 = n / 256 ^ i % 256) : m / 256 ^ i = n / 256 ^ i := by
  have h1 := pow_step m i
  have h2 := pow_step n i
  omega
end Go.Proofs.YtngmpcmeebcdmaaDoor
