/- Numbers as digits of one byte, the lowest first: the plain laws. -/
import Derived.Test.YtcekammjpghjnaaDoorWs
import Derived.Test.YtcekammjpghjnaaDoorUMem
namespace Go.Proofs.YtcekammjpghjnaaDoor
set_option linter.unusedVariables false
set_option linter.unusedSimpArgs false

def digs (n : Nat) : List Nat := if h : n = 0 then [] else n % 256 :: digs (n / 256)
termination_by n
decreasing_by omega
theorem digs_zero : digs 0 = [] := by rw [digs, dif_pos rfl]
theorem digs_pos {n : Nat} (h : ¬ n = 0) : digs n = n % 256 :: digs (n / 256) := by rw [digs, dif_neg h]
def valD : List Nat → Nat
 | [] => 0
 | d :: ds => d + 256 * valD ds
theorem digs_val (n : Nat) : valD (digs n) = n := by
 induction n using Nat.strongRecOn with
 | ind n ih =>
  by_cases h : n = 0
  · rw [h, digs_zero]; rfl
  · rw [digs_pos h]
    show n % 256 + 256 * valD (digs (n / 256)) = n
    rw [ih (n / 256) (by omega)]; omega
theorem digs_lt (n : Nat) : ∀ d ∈ digs n, d < 256 := by
 induction n using Nat.strongRecOn with
 | ind n ih =>
  by_cases h : n = 0
  · rw [h, digs_zero]; intro d hd; cases hd
  · rw [digs_pos h]
    intro d hd
    rcases List.mem_cons.1 hd with e | e
    · omega
    · exact ih (n / 256) (by omega) d e
theorem digs_at (n i : Nat) : (digs n).getD i 0 = n / 256 ^ i % 256 := by
 induction i generalizing n with
 | zero =>
  by_cases h : n = 0
  · rw [h, digs_zero]; rfl
  · rw [digs_pos h]; simp
 | succ i ih =>
  by_cases h : n = 0
  · rw [h, digs_zero]; simp
  · rw [digs_pos h]
    show (digs (n / 256)).getD i 0 = _
    rw [ih, Nat.div_div_eq_div_mul, Nat.pow_succ, Nat.mul_comm 256]
theorem digs_len (n k : Nat) : (digs n).length ≤ k ↔ n < 256 ^ k := by
 induction k generalizing n with
 | zero =>
  by_cases h : n = 0
  · rw [h, digs_zero]; simp
  · rw [digs_pos h]; simp; omega
 | succ k ih =>
  by_cases h : n = 0
  · rw [h, digs_zero]; simp; exact Nat.pow_pos (by decide)
  · rw [digs_pos h, List.length_cons, Nat.succ_le_succ_iff, ih, Nat.pow_succ]
    exact Nat.div_lt_iff_lt_mul (by decide)
theorem digs_over {n i : Nat} (h : (digs n).length ≤ i) : n / 256 ^ i = 0 := Nat.div_eq_of_lt ((digs_len n i).1 h)
theorem val_app (l m : List Nat) : valD (l ++ m) = valD l + 256 ^ l.length * valD m := by
 induction l with
 | nil => simp [valD]
 | cons d l ih =>
  show d + 256 * valD (l ++ m) = d + 256 * valD l + 256 ^ (l.length + 1) * valD m
  rw [ih, Nat.pow_succ, Nat.mul_add]
  have : 256 ^ l.length * 256 * valD m = 256 * (256 ^ l.length * valD m) := by rw [Nat.mul_comm (256 ^ l.length) 256, Nat.mul_assoc]
  omega
theorem val_lt (l : List Nat) (h : ∀ d ∈ l, d < 256) : valD l < 256 ^ l.length := by
 induction l with
 | nil => simp [valD]
 | cons d l ih =>
  have h1 := h d List.mem_cons_self
  have h2 := ih (fun x hx => h x (List.mem_cons_of_mem _ hx))
  show d + 256 * valD l < 256 ^ (l.length + 1)
  rw [Nat.pow_succ]
  omega
theorem val_digs (l : List Nat) (h : ∀ d ∈ l, d < 256) (ht : 0 < l.length → ¬ l.getD (l.length - 1) 0 = 0) : digs (valD l) = l := by
 induction l with
 | nil => exact digs_zero
 | cons d l ih =>
  have h1 := h d List.mem_cons_self
  have hl : ∀ x ∈ l, x < 256 := fun x hx => h x (List.mem_cons_of_mem _ hx)
  have e : valD (d :: l) = d + 256 * valD l := rfl
  have hi : digs (valD l) = l := ih hl fun h0 => by
   have h2 := ht (by simp)
   rw [List.length_cons, Nat.add_sub_cancel] at h2
   intro hc
   apply h2
   have e2 : l.length = (l.length - 1) + 1 := by omega
   rw [e2]
   exact hc
  have hnz : ¬ valD (d :: l) = 0 := by
   intro h0
   rw [e] at h0
   have hd : d = 0 := by omega
   have hv : valD l = 0 := by omega
   rw [hv, digs_zero] at hi
   have h2 := ht (by simp)
   rw [← hi] at h2
   exact h2 hd
  rw [digs_pos hnz, e]
  have a : (d + 256 * valD l) % 256 = d := by omega
  have b : (d + 256 * valD l) / 256 = valD l := by omega
  rw [a, b, hi]
theorem val_snoc0 (l : List Nat) : valD (l ++ [0]) = valD l := by rw [val_app]; simp [valD]
theorem val_take (l : List Nat) (k : Nat) (hk : k < l.length) (h : l.getD k 0 = 0) : valD (l.take (k + 1)) = valD (l.take k) := by
 rw [List.take_add_one, List.getElem?_eq_getElem hk]
 have : l[k] = 0 := by rwa [List.getD_eq_getElem?_getD, List.getElem?_eq_getElem hk] at h
 rw [this]
 exact val_snoc0 _
theorem pow_step (n i : Nat) : n / 256 ^ i = 256 * (n / 256 ^ (i + 1)) + n / 256 ^ i % 256 := by
 rw [Nat.pow_succ, ← Nat.div_div_eq_div_mul]; omega
theorem mod_step (n i : Nat) : n % 256 ^ (i + 1) = n % 256 ^ i + 256 ^ i * (n / 256 ^ i % 256) := by
 rw [Nat.pow_succ, Nat.mod_mul]
theorem add_step {a b i c V : Nat} (h : V + 256 ^ i * c = a % 256 ^ i + b % 256 ^ i) : (V + 256 ^ i * ((c + a / 256 ^ i % 256 + b / 256 ^ i % 256) % 256)) + 256 ^ (i + 1) * ((c + a / 256 ^ i % 256 + b / 256 ^ i % 256) / 256) = a % 256 ^ (i + 1) + b % 256 ^ (i + 1) := by
 rw [mod_step, mod_step]
 obtain ⟨x, hx⟩ : ∃ x, x = a / 256 ^ i % 256 := ⟨_, rfl⟩
 obtain ⟨y, hy⟩ : ∃ y, y = b / 256 ^ i % 256 := ⟨_, rfl⟩
 obtain ⟨P, hP⟩ : ∃ P, P = 256 ^ i := ⟨_, rfl⟩
 rw [← hx, ← hy, Nat.pow_succ, ← hP]
 rw [← hP] at h
 have e : P * (c + x + y) = P * ((c + x + y) % 256) + P * 256 * ((c + x + y) / 256) := by
  rw [Nat.mul_assoc, ← Nat.mul_add]
  congr 1
  omega
 rw [Nat.mul_add, Nat.mul_add] at e
 omega
theorem num_step (n i : Nat) : n / 256 ^ (i + 1) * 256 + n / 256 ^ i % 256 = n / 256 ^ i := by
 have := pow_step n i; omega
end Go.Proofs.YtcekammjpghjnaaDoor

/- Products and orders of numbers in digits: the plain laws. -/
namespace Go.Proofs.YtcekammjpghjnaaDoor
set_option linter.unusedVariables false
set_option linter.unusedSimpArgs false

theorem val_set (l : List Nat) (j x : Nat) (h : j < l.length) : valD (l.set j (l.getD j 0 + x)) = valD l + 256 ^ j * x := by
 induction l generalizing j with
 | nil => cases h
 | cons d l ih =>
  cases j with
  | zero =>
   show (d + x) + 256 * valD l = d + 256 * valD l + 256 ^ 0 * x
   omega
  | succ j =>
   show d + 256 * valD (l.set j (l.getD j 0 + x)) = d + 256 * valD l + 256 ^ (j + 1) * x
   rw [ih j (by simpa using h), Nat.pow_succ, Nat.mul_add]
   have : 256 ^ j * 256 * x = 256 * (256 ^ j * x) := by rw [Nat.mul_comm (256 ^ j) 256, Nat.mul_assoc]
   omega
theorem set_lt {l : List Nat} {j x B : Nat} (h : ∀ d ∈ l, d ≤ B) (hx : x ≤ B) : ∀ d ∈ l.set j x, d ≤ B := fun d hd => by
 rcases List.mem_or_eq_of_mem_set hd with h1 | h1
 · exact h d h1
 · omega
theorem getD_le {l : List Nat} {B : Nat} (h : ∀ d ∈ l, d ≤ B) (j : Nat) : l.getD j 0 ≤ B := by
 rw [List.getD_eq_getElem?_getD]
 cases hj : l[j]? with
 | none => exact Nat.zero_le _
 | some d => exact h d (List.mem_of_getElem? hj)
theorem val_zeros (n : Nat) : valD (List.replicate n 0) = 0 := by
 induction n with
 | zero => rfl
 | succ n ih => rw [List.replicate_succ]; show 0 + 256 * valD _ = 0; rw [ih]
theorem val_take_succ (l : List Nat) (k : Nat) : valD (l.take (k + 1)) = valD (l.take k) + 256 ^ k * l.getD k 0 := by
 by_cases h : k < l.length
 · rw [List.take_add_one, List.getElem?_eq_getElem h, val_app, List.length_take, Nat.min_eq_left (by omega)]
   rw [List.getD_eq_getElem?_getD, List.getElem?_eq_getElem h]
   simp [valD]
 · rw [List.take_of_length_le (by omega), List.take_of_length_le (by omega), List.getD_eq_getElem?_getD, List.getElem?_eq_none (by omega)]
   simp
structure MulAt (a b out : List Nat) (i k : Nat) : Prop where
 len : out.length = a.length + b.length + 4
 val : valD out = valD (a.take i) * valD b + 256 ^ i * (a.getD i 0 * valD (b.take k))
 low : ∀ d ∈ out, d ≤ (i * b.length + k) * 65025
theorem MulAt.start (a b : List Nat) : MulAt a b (List.replicate (a.length + b.length + 4) 0) 0 0 :=
 ⟨by simp, by rw [val_zeros]; simp [valD], fun d hd => by rw [(List.mem_replicate.1 hd).2]; exact Nat.zero_le _⟩
theorem MulAt.step {a b out : List Nat} {i k : Nat} (h : MulAt a b out i k) (hi : i < a.length) (hk : k < b.length) (ha : ∀ d ∈ a, d < 256) (hb : ∀ d ∈ b, d < 256) :
   MulAt a b (out.set (i + k) (out.getD (i + k) 0 + a.getD i 0 * b.getD k 0)) i (k + 1) := by
 have h1 : a.getD i 0 ≤ 255 := getD_le (fun d hd => by have := ha d hd; omega) i
 have h2 : b.getD k 0 ≤ 255 := getD_le (fun d hd => by have := hb d hd; omega) k
 have h3 : a.getD i 0 * b.getD k 0 ≤ 255 * 255 := Nat.mul_le_mul h1 h2
 have h4 := getD_le h.low (i + k)
 refine ⟨by rw [List.length_set]; exact h.len, ?_, ?_⟩
 · rw [val_set _ _ _ (by rw [h.len]; omega), h.val, val_take_succ, Nat.mul_add, Nat.mul_add, Nat.pow_add]
   have : 256 ^ i * (a.getD i 0 * (256 ^ k * b.getD k 0)) = 256 ^ i * 256 ^ k * (a.getD i 0 * b.getD k 0) := by
    rw [Nat.mul_assoc, Nat.mul_left_comm (a.getD i 0)]
   omega
 · have e : (i * b.length + (k + 1)) * 65025 = (i * b.length + k) * 65025 + 65025 := by rw [← Nat.add_assoc, Nat.succ_mul]
   rw [e]
   exact set_lt (fun d hd => Nat.le_trans (h.low d hd) (by omega)) (by omega)
theorem MulAt.row {a b out : List Nat} {i : Nat} (h : MulAt a b out i b.length) : MulAt a b out (i + 1) 0 := by
 refine ⟨h.len, ?_, ?_⟩
 · rw [h.val, List.take_length, val_take_succ, Nat.add_mul, Nat.mul_assoc]
   simp [valD]
 · rw [Nat.succ_mul]
   exact fun d hd => Nat.le_trans (h.low d hd) (by omega)
structure CarryAt (P B : Nat) (out : List Nat) (i c : Nat) : Prop where
 val : valD out + 256 ^ i * c = P
 low : ∀ (j : Nat) d, j < i → out[j]? = some d → d < 256
 top : ∀ d ∈ out, d ≤ B
 car : c ≤ B
 big : 255 ≤ B
theorem CarryAt.step {P B : Nat} {out : List Nat} {i c : Nat} (h : CarryAt P B out i c) (hi : i < out.length) : CarryAt P B (out.set i ((c + out.getD i 0) % 256)) (i + 1) ((c + out.getD i 0) / 256) := by
 have ht := getD_le h.top i
 obtain ⟨x, hx⟩ : ∃ x, x = out.getD i 0 := ⟨_, rfl⟩
 have hg : out[i]? = some x := by rw [hx, List.getD_eq_getElem?_getD, List.getElem?_eq_getElem hi]; rfl
 have hc := h.car
 have hbg := h.big
 rw [← hx] at ht ⊢
 refine ⟨?_, fun j d hj hd => ?_, fun d hd => ?_, by have := h.big; omega, h.big⟩
 · have e0 := val_set (out.set i 0) i ((c + x) % 256) (by rw [List.length_set]; exact hi)
   have e1 := val_set (out.set i 0) i x (by rw [List.length_set]; exact hi)
   have ez : (out.set i 0).getD i 0 = 0 := by rw [List.getD_eq_getElem?_getD, List.getElem?_set_self hi]; rfl
   rw [ez, Nat.zero_add, List.set_set] at e0 e1
   have es : out.set i x = out := by
     apply List.ext_getElem?
     intro j
     by_cases hj : i = j
     · subst hj; rw [List.getElem?_set_self hi, hg]
     · rw [List.getElem?_set_ne hj]
   rw [es] at e1
   have hv := h.val
   rw [e0, Nat.pow_succ]
   have : 256 ^ i * (c + x) = 256 ^ i * ((c + x) % 256) + 256 ^ i * 256 * ((c + x) / 256) := by
     rw [Nat.mul_assoc, ← Nat.mul_add]
     congr 1
     omega
   rw [Nat.mul_add] at this
   omega
 · rcases Nat.lt_or_ge j i with h1 | h1
   · rw [List.getElem?_set_ne (by omega)] at hd
     exact h.low j d h1 hd
   · have e : j = i := by omega
     subst e
     rw [List.getElem?_set_self hi] at hd
     injection hd with hd
     omega
 · rcases List.mem_or_eq_of_mem_set hd with h1 | h1
   · exact h.top d h1
   · omega
theorem CarryAt.done {P B : Nat} {out : List Nat} {c : Nat} (h : CarryAt P B out out.length c) (hP : P < 256 ^ out.length) : valD out = P ∧ ∀ d ∈ out, d < 256 := by
 have hv := h.val
 have hc : c = 0 := by
  rcases Nat.eq_zero_or_pos c with h0 | h0
  · exact h0
  · have := Nat.mul_le_mul_left (256 ^ out.length) h0
    omega
 rw [hc] at hv
 refine ⟨by omega, fun d hd => ?_⟩
 obtain ⟨j, hj⟩ := List.getElem?_of_mem hd
 exact h.low j d (List.getElem?_eq_some_iff.1 hj).1 hj
theorem prod_lt (a b : List Nat) (ha : ∀ d ∈ a, d < 256) (hb : ∀ d ∈ b, d < 256) : valD a * valD b < 256 ^ (a.length + b.length + 4) := by
 have h1 := val_lt a ha
 have h2 := val_lt b hb
 have h3 : valD a * valD b ≤ 256 ^ a.length * 256 ^ b.length := Nat.mul_le_mul (by omega) (by omega)
 rw [← Nat.pow_add] at h3
 have h4 : 256 ^ (a.length + b.length) < 256 ^ (a.length + b.length + 4) := Nat.pow_lt_pow_right (by decide) (by omega)
 omega
def cmpN (m n : Nat) : Int := if m < n then -1 else if m = n then 0 else 1
theorem cmp_len {m n : Nat} (h : (digs m).length < (digs n).length) : m < n := by
 refine Nat.lt_of_not_le fun hc => ?_
 have h1 := (digs_len m (digs m).length).1 (Nat.le_refl _)
 have := (digs_len n (digs m).length).2 (by omega)
 omega
theorem cmp_digit {m n i : Nat} (he : m / 256 ^ (i + 1) = n / 256 ^ (i + 1)) (h : m / 256 ^ i % 256 < n / 256 ^ i % 256) : m < n := by
 have h1 := pow_step m i
 have h2 := pow_step n i
 refine Nat.lt_of_not_le fun hc => ?_
 have := Nat.div_le_div_right (c := 256 ^ i) hc
 omega
theorem cmp_same {m n i : Nat} (he : m / 256 ^ (i + 1) = n / 256 ^ (i + 1)) (h : m / 256 ^ i % 256 = n / 256 ^ i % 256) : m / 256 ^ i = n / 256 ^ i := by
 have h1 := pow_step m i
 have h2 := pow_step n i
 omega
end Go.Proofs.YtcekammjpghjnaaDoor

