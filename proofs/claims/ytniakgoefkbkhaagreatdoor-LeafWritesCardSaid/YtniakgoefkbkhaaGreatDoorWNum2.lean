/- Numbers as digits of one byte, the lowest first: the plain laws. -/
import Derived.Test.YtniakgoefkbkhaaGreatDoorWs
import Derived.Test.YtniakgoefkbkhaaGreatDoorWMem
import Derived.Test.YtniakgoefkbkhaaGreatDoorWRef1
import Derived.Test.YtniakgoefkbkhaaGreatDoorWMap4
namespace Go.Proofs.YtniakgoefkbkhaaGreatDoor
set_option linter.unusedVariables false
set_option linter.unusedSimpArgs false

def digs (n : Nat) : List Nat := if h : n = 0 then [] else n % 256 :: digs (n / 256)
termination_by n
decreasing_by omega
theorem digs_zero : digs 0 = [] := by rw [digs, dif_pos rfl]
theorem digs_pos {n : Nat} (h : ¬ n = 0) : digs n = n % 256 :: digs (n / 256) := by rw [digs, dif_neg h]
def valD : List Nat → Nat
 | [] => 0
 | d :: ds => d + 256 * valD ds
theorem digs_val (n : Nat) : valD (digs n) = n := by
 induction n using Nat.strongRecOn with
 | ind n ih =>
  by_cases h : n = 0
  · rw [h, digs_zero]; rfl
  · rw [digs_pos h]
    show n % 256 + 256 * valD (digs (n / 256)) = n
    rw [ih (n / 256) (by omega)]; omega
theorem digs_lt (n : Nat) : ∀ d ∈ digs n, d < 256 := by
 induction n using Nat.strongRecOn with
 | ind n ih =>
  by_cases h : n = 0
  · rw [h, digs_zero]; intro d hd; cases hd
  · rw [digs_pos h]
    intro d hd
    rcases List.mem_cons.1 hd with e | e
    · omega
    · exact ih (n / 256) (by omega) d e
theorem digs_at (n i : Nat) : (digs n).getD i 0 = n / 256 ^ i % 256 := by
 induction i generalizing n with
 | zero =>
  by_cases h : n = 0
  · rw [h, digs_zero]; rfl
  · rw [digs_pos h]; simp
 | succ i ih =>
  by_cases h : n = 0
  · rw [h, digs_zero]; simp
  · rw [digs_pos h]
    show (digs (n / 256)).getD i 0 = _
    rw [ih, Nat.div_div_eq_div_mul, Nat.pow_succ, Nat.mul_comm 256]
theorem digs_len (n k : Nat) : (digs n).length ≤ k ↔ n < 256 ^ k := by
 induction k generalizing n with
 | zero =>
  by_cases h : n = 0
  · rw [h, digs_zero]; simp
  · rw [digs_pos h]; simp; omega
 | succ k ih =>
  by_cases h : n = 0
  · rw [h, digs_zero]; simp; exact Nat.pow_pos (by decide)
  · rw [digs_pos h, List.length_cons, Nat.succ_le_succ_iff, ih, Nat.pow_succ]
    exact Nat.div_lt_iff_lt_mul (by decide)
theorem digs_over {n i : Nat} (h : (digs n).length ≤ i) : n / 256 ^ i = 0 := Nat.div_eq_of_lt ((digs_len n i).1 h)
theorem val_app (l m : List Nat) : valD (l ++ m) = valD l + 256 ^ l.length * valD m := by
 induction l with
 | nil => simp [valD]
 | cons d l ih =>
  show d + 256 * valD (l ++ m) = d + 256 * valD l + 256 ^ (l.length + 1) * valD m
  rw [ih, Nat.pow_succ, Nat.mul_add]
  have : 256 ^ l.length * 256 * valD m = 256 * (256 ^ l.length * valD m) := by rw [Nat.mul_comm (256 ^ l.length) 256, Nat.mul_assoc]
  omega
theorem val_lt (l : List Nat) (h : ∀ d ∈ l, d < 256) : valD l < 256 ^ l.length := by
 induction l with
 | nil => simp [valD]
 | cons d l ih =>
  have h1 := h d List.mem_cons_self
  have h2 := ih (fun x hx => h x (List.mem_cons_of_mem _ hx))
  show d + 256 * valD l < 256 ^ (l.length + 1)
  rw [Nat.pow_succ]
  omega
theorem val_digs (l : List Nat) (h : ∀ d ∈ l, d < 256) (ht : 0 < l.length → ¬ l.getD (l.length - 1) 0 = 0) : digs (valD l) = l := by
 induction l with
 | nil => exact digs_zero
 | cons d l ih =>
  have h1 := h d List.mem_cons_self
  have hl : ∀ x ∈ l, x < 256 := fun x hx => h x (List.mem_cons_of_mem _ hx)
  have e : valD (d :: l) = d + 256 * valD l := rfl
  have hi : digs (valD l) = l := ih hl fun h0 => by
   have h2 := ht (by simp)
   rw [List.length_cons, Nat.add_sub_cancel] at h2
   intro hc
   apply h2
   have e2 : l.length = (l.length - 1) + 1 := by omega
   rw [e2]
   exact hc
  have hnz : ¬ valD (d :: l) = 0 := by
   intro h0
   rw [e] at h0
   have hd : d = 0 := by omega
   have hv : valD l = 0 := by omega
   rw [hv, digs_zero] at hi
   have h2 := ht (by simp)
   rw [← hi] at h2
   exact h2 hd
  rw [digs_pos hnz, e]
  have a : (d + 256 * valD l) % 256 = d := by omega
  have b : (d + 256 * valD l) / 256 = valD l := by omega
  rw [a, b, hi]
theorem val_snoc0 (l : List Nat) : valD (l ++ [0]) = valD l := by rw [val_app]; simp [valD]
theorem val_take (l : List Nat) (k : Nat) (hk : k < l.length) (h : l.getD k 0 = 0) : valD (l.take (k + 1)) = valD (l.take k) := by
 rw [List.take_add_one, List.getElem?_eq_getElem hk]
 have : l[k] = 0 := by rwa [List.getD_eq_getElem?_getD, List.getElem?_eq_getElem hk] at h
 rw [this]
 exact val_snoc0 _
theorem pow_step (n i : Nat) : n / 256 ^ i = 256 * (n / 256 ^ (i + 1)) + n / 256 ^ i % 256 := by
 rw [Nat.pow_succ, ← Nat.div_div_eq_div_mul]; omega
end Go.Proofs.YtniakgoefkbkhaaGreatDoor

/- Products and orders of numbers in digits: the plain laws. -/
namespace Go.Proofs.YtniakgoefkbkhaaGreatDoor
set_option linter.unusedVariables false
set_option linter.unusedSimpArgs false

theorem val_set (l : List Nat) (j x : Nat) (h : j < l.length) : valD (l.set j (l.getD j 0 + x)) = valD l + 256 ^ j * x := by
 induction l generalizing j with
 | nil => cases h
 | cons d l ih =>
  cases j with
  | zero =>
   show (d + x) + 256 * valD l = d + 256 * valD l + 256 ^ 0 * x
   omega
  | succ j =>
   show d + 256 * valD (l.set j (l.getD j 0 + x)) = d + 256 * valD l + 256 ^ (j + 1) * x
   rw [ih j (by simpa using h), Nat.pow_succ, Nat.mul_add]
   have : 256 ^ j * 256 * x = 256 * (256 ^ j * x) := by rw [Nat.mul_comm (256 ^ j) 256, Nat.mul_assoc]
   omega
theorem set_lt {l : List Nat} {j x B : Nat} (h : ∀ d ∈ l, d ≤ B) (hx : x ≤ B) : ∀ d ∈ l.set j x, d ≤ B := fun d hd => by
 rcases List.mem_or_eq_of_mem_set hd with h1 | h1
 · exact h d h1
 · omega
theorem getD_le {l : List Nat} {B : Nat} (h : ∀ d ∈ l, d ≤ B) (j : Nat) : l.getD j 0 ≤ B := by
 rw [List.getD_eq_getElem?_getD]
 cases hj : l[j]? with
 | none => exact Nat.zero_le _
 | some d => exact h d (List.mem_of_getElem? hj)
theorem val_zeros (n : Nat) : valD (List.replicate n 0) = 0 := by
 induction n with
 | zero => rfl
 | succ n ih => rw [List.replicate_succ]; show 0 + 256 * valD _ = 0; rw [ih]
theorem val_take_succ (l : List Nat) (k : Nat) : valD (l.take (k + 1)) = valD (l.take k) + 256 ^ k * l.getD k 0 := by
 by_cases h : k < l.length
 · rw [List.take_add_one, List.getElem?_eq_getElem h, val_app, List.length_take, Nat.min_eq_left (by omega)]
   rw [List.getD_eq_getElem?_getD, List.getElem?_eq_getElem h]
   simp [valD]
 · rw [List.take_of_length_le (by omega), List.take_of_length_le (by omega), List.getD_eq_getElem?_getD, List.getElem?_eq_none (by omega)]
   simp
structure MulAt (a b out : List Nat) (i k : Nat) : Prop where
 len : out.length = a.length + b.length + 4
 val : valD out = valD (a.take i) * valD b + 256 ^ i * (a.getD i 0 * valD (b.take k))
 low : ∀ d ∈ out, d ≤ (i * b.length + k) * 65025
theorem MulAt.start (a b : List Nat) : MulAt a b (List.replicate (a.length + b.length + 4) 0) 0 0 :=
 ⟨by simp, by rw [val_zeros]; simp [valD], fun d hd => by rw [(List.mem_replicate.1 hd).2]; exact Nat.zero_le _⟩
theorem MulAt.step {a b out : List Nat} {i k : Nat} (h : MulAt a b out i k) (hi : i < a.length) (hk : k < b.length) (ha : ∀ d ∈ a, d < 256) (hb : ∀ d ∈ b, d < 256) :
   MulAt a b (out.set (i + k) (out.getD (i + k) 0 + a.getD i 0 * b.getD k 0)) i (k + 1) := by
 have h1 : a.getD i 0 ≤ 255 := getD_le (fun d hd => by have := ha d hd; omega) i
 have h2 : b.getD k 0 ≤ 255 := getD_le (fun d hd => by have := hb d hd; omega) k
 have h3 : a.getD i 0 * b.getD k 0 ≤ 255 * 255 := Nat.mul_le_mul h1 h2
 have h4 := getD_le h.low (i + k)
 refine ⟨by rw [List.length_set]; exact h.len, ?_, ?_⟩
 · rw [val_set _ _ _ (by rw [h.len]; omega), h.val, val_take_succ, Nat.mul_add, Nat.mul_add, Nat.pow_add]
   have : 256 ^ i * (a.getD i 0 * (256 ^ k * b.getD k 0)) = 256 ^ i * 256 ^ k * (a.getD i 0 * b.getD k 0) := by
    rw [Nat.mul_assoc, Nat.mul_left_comm (a.getD i 0)]
   omega
 · have e : (i * b.length + (k + 1)) * 65025 = (i * b.length + k) * 65025 + 65025 := by rw [← Nat.add_assoc, Nat.succ_mul]
   rw [e]
   exact set_lt (fun d hd => Nat.le_trans (h.low d hd) (by omega)) (by omega)
theorem MulAt.row {a b out : List Nat} {i : Nat} (h : MulAt a b out i b.length) : MulAt a b out (i + 1) 0 := by
 refine ⟨h.len, ?_, ?_⟩
 · rw [h.val, List.take_length, val_take_succ, Nat.add_mul, Nat.mul_assoc]
   simp [valD]
 · rw [Nat.succ_mul]
   exact fun d hd => Nat.le_trans (h.low d hd) (by omega)
structure CarryAt (P B : Nat) (out : List Nat) (i c : Nat) : Prop where
 val : valD out + 256 ^ i * c = P
 low : ∀ (j : Nat) d, j < i → out[j]? = some d → d < 256
 top : ∀ d ∈ out, d ≤ B
 car : c ≤ B
 big : 255 ≤ B
theorem CarryAt.step {P B : Nat} {out : List Nat} {i c : Nat} (h : CarryAt P B out i c) (hi : i < out.length) : CarryAt P B (out.set i ((c + out.getD i 0) % 256)) (i + 1) ((c + out.getD i 0) / 256) := by
 have ht := getD_le h.top i
 obtain ⟨x, hx⟩ : ∃ x, x = out.getD i 0 := ⟨_, rfl⟩
 have hg : out[i]? = some x := by rw [hx, List.getD_eq_getElem?_getD, List.getElem?_eq_getElem hi]; rfl
 have hc := h.car
 have hbg := h.big
 rw [← hx] at ht ⊢
 refine ⟨?_, fun j d hj hd => ?_, fun d hd => ?_, by have := h.big; omega, h.big⟩
 · have e0 := val_set (out.set i 0) i ((c + x) % 256) (by rw [List.length_set]; exact hi)
   have e1 := val_set (out.set i 0) i x (by rw [List.length_set]; exact hi)
   have ez : (out.set i 0).getD i 0 = 0 := by rw [List.getD_eq_getElem?_getD, List.getElem?_set_self hi]; rfl
   rw [ez, Nat.zero_add, List.set_set] at e0 e1
   have es : out.set i x = out := by
     apply List.ext_getElem?
     intro j
     by_cases hj : i = j
     · subst hj; rw [List.getElem?_set_self hi, hg]
     · rw [List.getElem?_set_ne hj]
   rw [es] at e1
   have hv := h.val
   rw [e0, Nat.pow_succ]
   have : 256 ^ i * (c + x) = 256 ^ i * ((c + x) % 256) + 256 ^ i * 256 * ((c + x) / 256) := by
     rw [Nat.mul_assoc, ← Nat.mul_add]
     congr 1
     omega
   rw [Nat.mul_add] at this
   omega
 · rcases Nat.lt_or_ge j i with h1 | h1
   · rw [List.getElem?_set_ne (by omega)] at hd
     exact h.low j d h1 hd
   · have e : j = i := by omega
     subst e
     rw [List.getElem?_set_self hi] at hd
     injection hd with hd
     omega
 · rcases List.mem_or_eq_of_mem_set hd with h1 | h1
   · exact h.top d h1
   · omega
theorem CarryAt.done {P B : Nat} {out : List Nat} {c : Nat} (h : CarryAt P B out out.length c) (hP : P < 256 ^ out.length) : valD out = P ∧ ∀ d ∈ out, d < 256 := by
 have hv := h.val
 have hc : c = 0 := by
  rcases Nat.eq_zero_or_pos c with h0 | h0
  · exact h0
  · have := Nat.mul_le_mul_left (256 ^ out.length) h0
    omega
 rw [hc] at hv
 refine ⟨by omega, fun d hd => ?_⟩
 obtain ⟨j, hj⟩ := List.getElem?_of_mem hd
 exact h.low j d (List.getElem?_eq_some_iff.1 hj).1 hj
theorem prod_lt (a b : List Nat) (ha : ∀ d ∈ a, d < 256) (hb : ∀ d ∈ b, d < 256) : valD a * valD b < 256 ^ (a.length + b.length + 4) := by
 have h1 := val_lt a ha
 have h2 := val_lt b hb
 have h3 : valD a * valD b ≤ 256 ^ a.length * 256 ^ b.length := Nat.mul_le_mul (by omega) (by omega)
 rw [← Nat.pow_add] at h3
 have h4 : 256 ^ (a.length + b.length) < 256 ^ (a.length + b.length + 4) := Nat.pow_lt_pow_right (by decide) (by omega)
 omega
def cmpN (m n : Nat) : Int := if m < n then -1 else if m = n then 0 else 1
theorem cmp_len {m n : Nat} (h : (digs m).length < (digs n).length) : m < n := by
 refine Nat.lt_of_not_le fun hc => ?_
 have h1 := (digs_len m (digs m).length).1 (Nat.le_refl _)
 have := (digs_len n (digs m).length).2 (by omega)
 omega
theorem cmp_digit {m n i : Nat} (he : m / 256 ^ (i + 1) = n / 256 ^ (i + 1)) (h : m / 256 ^ i % 256 < n / 256 ^ i % 256) : m < n := by
 have h1 := pow_step m i
 have h2 := pow_step n i
 refine Nat.lt_of_not_le fun hc => ?_
 have := Nat.div_le_div_right (c := 256 ^ i) hc
 omega
theorem cmp_same {m n i : Nat} (he : m / 256 ^ (i + 1) = n / 256 ^ (i + 1)) (h : m / 256 ^ i % 256 = n / 256 ^ i % 256) : m / 256 ^ i = n / 256 ^ i := by
 have h1 := pow_step m i
 have h2 := pow_step n i
 omega
end Go.Proofs.YtniakgoefkbkhaaGreatDoor
/- The walks of the reference's numbers: trim, Of, Num. -/
namespace Go.Proofs.YtniakgoefkbkhaaGreatDoor
set_option linter.unusedVariables false
set_option linter.unusedSimpArgs false
open Go.ChangeShapes Go.WideShapes Go.ChangeAt Go.RowKit Go.Maps

def icells (ds : List Nat) : List Value := ds.map fun (n : Nat) => Value.int .i64 (n : Int)
theorem icells_length (ds : List Nat) : (icells ds).length = ds.length := by simp [icells]
theorem icells_get (ds : List Nat) (i : Nat) (h : i < ds.length) : (icells ds)[i]? = some (.int .i64 (ds.getD i 0 : Nat)) := by
 simp [icells, h]
theorem icells_one (ds : List Nat) : ∀ v ∈ icells ds, v.oneCell' = true := fun v hv => by
 obtain ⟨n, _, rfl⟩ := List.mem_map.1 hv; rfl
structure DigAt (w : World) (a : Option Addr) (n c : Nat) (ds : List Nat) : Prop where
 len : ds.length = n
 cap : n ≤ c
 at_ : 0 < n → ∃ b o, a = some ⟨b, o, none⟩ ∧ b < w.heap.size ∧ ∀ i, i < n → w.cell? ⟨b, o + i, none⟩ = some (.int .i64 (ds.getD i 0 : Nat))
def IsD (w : World) (v : Value) (ds : List Nat) : Prop := ∃ a c, v = .slice a ds.length c ∧ DigAt w a ds.length c ds
theorem DigAt.kept {S : Nat → Prop} {w w' : World} {a : Option Addr} {n c : Nat} {ds : List Nat} (h : DigAt w a n c ds) (hk : Kept S w w') (hs : ∀ b o, a = some ⟨b, o, none⟩ → ¬ S b) : DigAt w' a n c ds :=
 ⟨h.len, h.cap, fun hn => by
  obtain ⟨b, o, e, hb, hr⟩ := h.at_ hn
  exact ⟨b, o, e, by have := hk.size; omega, fun i hi => by
   have h1 := hr i hi
   have := World.block_lt_of_cell? w _ h1
   unfold World.cell? at h1 ⊢
   rw [hk.block _ this (hs b o e)]; exact h1⟩⟩
theorem DigAt.below {w w' : World} {a : Option Addr} {n c : Nat} {ds : List Nat} (h : DigAt w a n c ds) (hb : Below w.heap.size w w') : DigAt w' a n c ds := h.kept (S := fun _ => False) (Kept.of_below hb) (fun _ _ _ h => h)
theorem IsD.below {w w' : World} {v : Value} {ds : List Nat} (h : IsD w v ds) (hb : Below w.heap.size w w') : IsD w' v ds := by
 obtain ⟨a, c, e, h⟩ := h
 exact ⟨a, c, e, h.below hb⟩
theorem DigAt.of_own {w : World} {base n : Nat} {v : Value} {ds : List Nat} (h : w.ownsRow base 3 1 v n (icells ds)) (hn : ds.length = n) : IsD w v ds := by
 rcases h.2 with ⟨rfl, h0⟩ | ⟨g, cap, cur, rfl, hB, hh, h1, h2, h3, h4⟩
 · have e : ds = [] := List.eq_nil_of_length_eq_zero (by omega)
   subst e
   exact ⟨none, 0, rfl, rfl, Nat.le_refl _, fun h => absurd h (by decide)⟩
 · refine ⟨some ⟨g, 0, none⟩, cap, by rw [hn], rfl, by omega, fun h0 => ⟨g, 0, rfl, (Array.getElem?_eq_some_iff.1 hh).1, fun i hi => ?_⟩⟩
   have hg : Has w g 3 cur := hh
   refine hg.cell_is ?_
   rw [Nat.zero_add, ← Array.getElem?_toList]
   have e2 : cur.toList[i]? = (cur.toList.take (n * 1))[i]? := by rw [List.getElem?_take_of_lt (by omega)]
   rw [e2, h4]
   exact icells_get ds i hi
def lenD : Value → Nat
 | .slice _ n _ => n
 | _ => 0
theorem size_int (w : World) : (sizeOf 3).run Tryz.prog w = .ok 1 w := by kernel_rfl
theorem info_int : (Tryz.prog.info? 3).map (fun i => (i.zero, i.size, i.bytes)) = some (some (.int .i64 0), 1, 8) := by kernel_rfl
theorem DigAt.cut {w : World} {a : Option Addr} {n c : Nat} {ds : List Nat} (h : DigAt w a n c ds) (p : Nat) (hp : p ≤ n) :
  ∃ a1, (∀ w', (Instr.slice 49 (.slice a n c) none (some (.int .i64 (p : Int))) none).run Tryz.prog w' = .ok (.slice a1 p c) w') ∧ DigAt w a1 p c (ds.take p) := by
 have hu : Tryz.prog.underlying 49 = some (.slice (Tryz.prog.elem 49)) := by kernel_rfl
 have he : Tryz.prog.elem 49 = 3 := by kernel_rfl
 have hc := h.cap
 have hr : ∀ w', (Instr.slice 49 (.slice a n c) none (some (.int .i64 (p : Int))) none).run Tryz.prog w' = .ok (.slice (if c = 0 then a else a.map (·.add 0)) p c) w' := fun w' => by
  rw [run_slice_h w' 49 a n c hu .i64 (p : Int) (by omega) (by omega), he, size_int]
  simp only [Result.andThen, sliced, Int.toNat_natCast, Nat.zero_mul, Nat.sub_zero]
 refine ⟨_, hr, by rw [List.length_take, h.len]; omega, by omega, fun h0 => ?_⟩
 obtain ⟨b, o, rfl, hb, hcl⟩ := h.at_ (by omega)
 refine ⟨b, o, by rw [if_neg (by omega), Option.map_some, Addr.add_mid, Nat.add_zero], hb, fun i hi => ?_⟩
 rw [hcl i (by omega), List.getD_eq_getElem?_getD, List.getD_eq_getElem?_getD, List.getElem?_take_of_lt hi]
theorem at_dig (b o n c k : Nat) (hk : k < n) (w : World) : (Instr.indexAt 49 (.slice (some ⟨b, o, none⟩) n c) (.int .i64 (k : Int))).run Tryz.prog w = .ok (.pointer (some ⟨b, o + k, none⟩)) w := by
 have hu : Tryz.prog.underlying 49 = some (.slice (Tryz.prog.elem 49)) := by kernel_rfl
 have he : Tryz.prog.elem 49 = 3 := by kernel_rfl
 rw [run_indexAt_slice w 49 ⟨b, o, none⟩ n c .i64 (k : Int) hu, if_pos ⟨by omega, by omega⟩, he, size_int]
 simp only [Result.andThen, Int.toNat_natCast, Nat.mul_one, Addr.add_mid]

set_option maxRecDepth 100000 in
theorem trim_is (w : World) (a : Option Addr) (n c : Nat) (ds : List Nat) (hd : DigAt w a n c ds) (hn : n ≤ 1000000) (hlt : ∀ d ∈ ds, d < 256) :
  Calls Tryz.prog 34 #[.slice a n c] w fun e w' => (∃ v', e = .returned v' ∧ IsD w' v' (digs (valD ds))) ∧ w' = w := by
 have HD := Lib.hid hd
 have HLT := Lib.hid hlt
 clear hd hlt
 go_enter Tryz.func34, Tryz.ntmps34
 go_wp2_with fail
 go_loopw [0] (fun v wr => ∃ a' k, v = .slice a' k c ∧ k ≤ n ∧ DigAt w a' k c (ds.take k) ∧ valD (ds.take k) = valD ds ∧ wr = w) (fun v _ => lenD v)
 case atStart => exact ⟨a, n, rfl, Nat.le_refl _, by rw [List.take_of_length_le (by rw [HD.out.len]; exact Nat.le_refl _)]; exact HD.out, by rw [List.take_of_length_le (by rw [HD.out.len]; exact Nat.le_refl _)], rfl⟩
 case round =>
  obtain ⟨a', k, rfl, hk, hda, hv, rfl⟩ := hrel
  have HDA := Lib.hid hda
  have HV := Lib.hid hv
  clear hda hv
  rcases Nat.eq_zero_or_pos k with h0 | h0
  · subst h0
    go_wp2
    go_ret
    have e : digs (valD ds) = [] := by rw [← HV.out]; exact digs_zero
    rw [e]
    exact ⟨⟨_, rfl, a', c, rfl, HDA.out⟩, rfl⟩
  · obtain ⟨m, rfl⟩ : ∃ m, k = m + 1 := ⟨k - 1, by omega⟩
    obtain ⟨b, o, ha, hb, hcl⟩ := HDA.out.at_ (by omega)
    subst ha
    have hc0 := hcl m (by omega)
    have hg : (ds.take (m + 1)).getD m 0 = ds.getD m 0 := by
      rw [List.getD_eq_getElem?_getD, List.getD_eq_getElem?_getD, List.getElem?_take_of_lt (by omega)]
    rw [hg] at hc0
    have hat := at_dig b o (m + 1) c m (by omega)
    obtain ⟨d, hdd⟩ : ∃ d, d = ds.getD m 0 := ⟨_, rfl⟩
    rw [← hdd] at hc0
    have hlen : (0 : Int) < ((m + 1 : Nat) : Int) := by omega
    have hw : wrap64 (((m + 1 : Nat) : Int) - 1) = (m : Int) := by unfold wrap64; omega
    obtain ⟨a1, hcut, hda1⟩ := HDA.out.cut m (by omega)
    have HDA1 := Lib.hid hda1
    have HDD := Lib.hid hdd
    clear hda1 hcl hg hdd
    by_cases hz : d = 0
    · have hz' : (d : Int) = 0 := by omega
      go_wp2
      go_roundw
      case rel =>
       refine ⟨a1, m, rfl, by omega, ?_, ?_, by first | rfl | trivial⟩
       · have := HDA1.out
         rwa [List.take_take, Nat.min_eq_left (by omega)] at this
       · rw [← HV.out, val_take ds m (by have := HD.out.len; omega) (by rw [← HDD.out]; exact hz)]
      case measure => simp [lenD]
    · have hz' : ¬ (d : Int) = 0 := by omega
      go_wp2
      go_ret
      have e : digs (valD ds) = ds.take (m + 1) := by
       rw [← HV.out]
       refine val_digs _ (fun x hx => HLT.out x (List.mem_of_mem_take hx)) (fun _ => ?_)
       have hl : (ds.take (m + 1)).length = m + 1 := by rw [List.length_take, HD.out.len]; omega
       rw [hl, Nat.add_sub_cancel, List.getD_eq_getElem?_getD, List.getElem?_take_of_lt (by omega), ← List.getD_eq_getElem?_getD, ← HDD.out]
       exact hz
      have hl : (digs (valD ds)).length = m + 1 := by rw [e, List.length_take, HD.out.len]; omega
      exact ⟨⟨_, rfl, _, c, by rw [hl]; rfl, by rw [hl, e]; exact HDA.out⟩, rfl⟩

set_option maxRecDepth 100000 in
set_option maxHeartbeats 1000000 in
theorem of_is (w : World) (x : Nat) (hx : x < 18446744073709551616) :
  Calls Tryz.prog 12 #[.int .u64 (x : Int)] w fun e w' => (∃ v', e = .returned v' ∧ IsD w' v' (digs x)) ∧ Below w.heap.size w w' := by
 obtain ⟨ii, his, his0, his1, his2⟩ := info_parts info_int
 have hmade : (w.alloc (.cells #[] 3)).ownsRow w.heap.size 3 1 (.slice (some ⟨w.heap.size, 0, none⟩) 0 0) 0 (icells []) := World.ownsRow_made w #[] 0 (Nat.le_refl _) (by decide) rfl
 have HMADE := Lib.hid hmade
 clear hmade
 go_enter Tryz.func12, Tryz.ntmps12
 go_wp2_with fail
 go_loopw [3, 0] (fun ov v wr => ∃ l y, v = .int .u64 ((y : Nat) : Int) ∧ y ≤ x ∧ digs x = l ++ digs y ∧ (∃ oa on oc, ov = .slice oa on oc) ∧ wr.ownsRow w.heap.size 3 1 ov l.length (icells l) ∧ Below w.heap.size w wr) (fun _ v _ => (intOf v).toNat)
 case atStart => exact ⟨[], x, rfl, Nat.le_refl _, rfl, ⟨_, _, _, rfl⟩, HMADE.out, (Below.refl _ _).alloc (Nat.le_refl _) _⟩
 case round =>
  obtain ⟨l, y, rfl, hy, hl, ⟨oa, on, oc, rfl⟩, hown, hbel⟩ := hrel
  have hl8 : (digs x).length ≤ 8 := (digs_len x 8).2 (by omega)
  have HOWN := Lib.hid hown
  have HBEL := Lib.hid hbel
  have HL := Lib.hid hl
  clear hown hbel HMADE
  by_cases h0 : y = 0
  · subst h0
    go_wp2
    go_ret
    refine ⟨⟨_, rfl, ?_⟩, HBEL.out⟩
    have e := HL.out
    rw [digs_zero, List.append_nil] at e
    rw [e]
    exact DigAt.of_own HOWN.out rfl
  · have hpos : (0 : Int) < (y : Int) := by omega
    have hm : (y : Int) % 256 = ((y % 256 : Nat) : Int) := by omega
    have hq : (y : Int) / 256 = ((y / 256 : Nat) : Int) := by omega
    have HLL := Lib.hid (show l.length + 1 ≤ 8 by
     have h1 := hl8
     rw [HL.out, List.length_append, digs_pos h0] at h1
     simp at h1; omega)
    obtain ⟨d, hd⟩ : ∃ d, d = y % 256 := ⟨_, rfl⟩
    obtain ⟨z, hz⟩ : ∃ z, z = y / 256 := ⟨_, rfl⟩
    have hd256 : d < 256 := by omega
    rw [← hd] at hm
    rw [← hz] at hq
    have HN := Lib.hid (show digs x = (l ++ [d]) ++ digs z by rw [HL.out, digs_pos h0, hd, hz]; simp)
    have HZ := Lib.hid (show z < y by omega)
    clear hd hz
    have HML := Lib.hid (show l.length + 1 ≤ maxLen by unfold maxLen; have := HLL.out; omega)
    have HBY := Lib.hid (show (l.length + 1) * 8 ≤ 140737488355328 by have := HLL.out; omega)
    have HBS := Lib.hid (show w.heap.size ≤ (wr.alloc (.cells #[.int .i64 (d : Int)] 3)).heap.size by have := HBEL.out.size; simp; omega)
    go_wp2_with (at_builtin; refine wpList_append_lies _ rfl (.tmp 7) (.tmp 11) 49 rfl w.heap.size 3 ii (.int .i64 0) 1 8 Tryz.underlying49 his his0 his1 his2 rfl (by decide) _ l.length _ rfl (HOWN.out.alloc _) ⟨wr.heap.size, 0, none⟩ 1 1 [.int .i64 (d : Int)] rfl rfl (World.news_of_block (cs := #[.int .i64 (d : Int)]) (heap_alloc_new wr _)) (by intro v hv; rw [List.mem_singleton] at hv; rw [hv]; rfl) (by decide) HML.out HBY.out HBS.out _ rfl ?_; intro g6 cap6 w6 hown6 hgr6 hat6 hlt6)
    go_roundw
    case rel =>
     refine ⟨l ++ [d], z, rfl, by have := HZ.out; omega, HN.out, ⟨_, _, _, rfl⟩, ?_, ?_⟩
     · rw [List.length_append]
       have e : icells (l ++ [d]) = icells l ++ [.int .i64 (d : Int)] := by simp [icells]
       rw [e]
       exact hown6
     · exact (HBEL.out.alloc HBEL.out.size _).grown hgr6 HBS.out (own_blk HOWN.out)
    case measure => have := HZ.out; simp [intOf]; omega

end Go.Proofs.YtniakgoefkbkhaaGreatDoor
