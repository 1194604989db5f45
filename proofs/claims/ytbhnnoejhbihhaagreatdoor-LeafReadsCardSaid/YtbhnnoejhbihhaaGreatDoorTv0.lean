/- The plain law of layer 2: numbers as bytes, records as bytes, and back. -/
import Derived.Test.YtbhnnoejhbihhaaGreatDoorSha7
import Derived.Test.YtbhnnoejhbihhaaGreatDoorGr
namespace Go.Proofs.YtbhnnoejhbihhaaGreatDoor
set_option linter.unusedVariables false
set_option linter.unusedSimpArgs false

/-- a number's last bytes, the highest first. -/
def bigN (x n : Nat) : List Nat := (List.range n).map fun i => x / 2 ^ (8 * (n - 1 - i)) % 256
theorem bigN_len (x n : Nat) : (bigN x n).length = n := by simp [bigN]
theorem bigN_lt (x n : Nat) : ∀ y ∈ bigN x n, y < 256 := by
  intro y hy
  obtain ⟨i, _, rfl⟩ := List.mem_map.1 hy
  exact Nat.mod_lt _ (by decide)
theorem bigN_at (x n j : Nat) (h : j < n) : (bigN x n)[j]? = some (x / 2 ^ (8 * (n - 1 - j)) % 256) := by
  simp [bigN, h]
theorem bigN_nth (x n j : Nat) (h : j < n) : (bigN x n).take (j + 1) = (bigN x n).take j ++ [x / 2 ^ (8 * (n - 1 - j)) % 256] := by
  rw [List.take_add_one, bigN_at x n j h]; rfl
theorem eight_big (x : Nat) : eight x = bigN x 8 := rfl
/-- a number's bytes: as few as it needs. -/
def szB (x : Nat) : List Nat := if x < 253 then [x] else if x < 65536 then 253 :: bigN x 2 else if x < 4294967296 then 254 :: bigN x 4 else 255 :: bigN x 8
theorem szB_len (x : Nat) : (szB x).length ≤ 9 ∧ 0 < (szB x).length := by
  unfold szB
  split
  · simp
  · split
    · simp [bigN_len]
    · split <;> simp [bigN_len]
theorem szB_lt (x : Nat) : ∀ y ∈ szB x, y < 256 := by
  intro y hy
  unfold szB at hy
  split at hy
  · rw [List.mem_singleton.1 hy]; omega
  · split at hy
    · rcases List.mem_cons.1 hy with rfl | h
      · decide
      · exact bigN_lt _ _ _ h
    · split at hy
      · rcases List.mem_cons.1 hy with rfl | h
        · decide
        · exact bigN_lt _ _ _ h
      · rcases List.mem_cons.1 hy with rfl | h
        · decide
        · exact bigN_lt _ _ _ h
/-- the number of bytes, the highest first. -/
def numB (l : List Nat) : Nat := l.foldl (fun a b => a * 256 + b) 0
theorem numB_snoc (l : List Nat) (b : Nat) : numB (l ++ [b]) = numB l * 256 + b := by simp [numB]
theorem snoc_ind {p : List Nat → Prop} (h0 : p []) (hs : ∀ l b, p l → p (l ++ [b])) (l : List Nat) : p l := by
  have h : ∀ l : List Nat, p l.reverse := by
    intro l
    induction l with
    | nil => exact h0
    | cons b l ih => rw [List.reverse_cons]; exact hs _ _ ih
  have := h l.reverse
  rwa [List.reverse_reverse] at this
theorem numB_lt (l : List Nat) (h : ∀ y ∈ l, y < 256) : numB l < 256 ^ l.length := by
  revert h
  induction l using snoc_ind with
  | h0 => intro _; simp [numB]
  | hs l b ih0 =>
    intro h
    have ih := ih0
    rw [numB_snoc, List.length_append]
    have h1 := ih (fun y hy => h y (List.mem_append_left _ hy))
    have h2 := h b (by simp)
    show _ < 256 ^ (l.length + 1)
    rw [Nat.pow_succ]
    have : numB l + 1 ≤ 256 ^ l.length := h1
    have := Nat.mul_le_mul_right 256 this
    omega
theorem numB_big (x : Nat) : ∀ (n : Nat) (j : Nat), j ≤ n → numB ((bigN x n).take j) = x / 2 ^ (8 * (n - j)) % 256 ^ j
  | n, 0, _ => by simp [numB, Nat.mod_one]
  | n, j + 1, h => by
    rw [bigN_nth x n j (by omega), numB_snoc, numB_big x n j (by omega)]
    have e1 : 8 * (n - j) = 8 * (n - 1 - j) + 8 := by omega
    have e2 : n - (j + 1) = n - 1 - j := by omega
    rw [e2, e1, Nat.pow_add, ← Nat.div_div_eq_div_mul]
    generalize x / 2 ^ (8 * (n - 1 - j)) = y
    rw [show (2 : Nat) ^ 8 = 256 by decide, Nat.pow_succ, Nat.mul_comm (256 ^ j) 256, Nat.mod_mul]
    omega
theorem numB_big' (x n : Nat) (h : x < 256 ^ n) : numB (bigN x n) = x := by
  have := numB_big x n n (Nat.le_refl n)
  rw [List.take_of_length_le (by rw [bigN_len]; exact Nat.le_refl _), Nat.sub_self, Nat.mul_zero, Nat.pow_zero, Nat.div_one, Nat.mod_eq_of_lt h] at this
  exact this
/-- bytes are those of their number. -/
theorem big_numB : ∀ (l : List Nat), (∀ y ∈ l, y < 256) → bigN (numB l) l.length = l := by
  intro l
  induction l using snoc_ind with
  | h0 => intro _; rfl
  | hs l b ih =>
    intro h
    have h1 := ih (fun y hy => h y (List.mem_append_left _ hy))
    have hb := h b (by simp)
    rw [numB_snoc, List.length_append]
    show bigN (numB l * 256 + b) (l.length + 1) = _
    apply List.ext_getElem?
    intro i
    by_cases hi : i < l.length
    · have q := bigN_at (numB l) l.length i hi
      rw [h1] at q
      rw [bigN_at _ _ _ (by omega), List.getElem?_append_left hi, q]
      have e : 8 * (l.length + 1 - 1 - i) = 8 + 8 * (l.length - 1 - i) := by omega
      rw [e, Nat.pow_add, ← Nat.div_div_eq_div_mul, show (2 : Nat) ^ 8 = 256 by decide]
      rw [show (numB l * 256 + b) / 256 = numB l by omega]
    · by_cases e : i = l.length
      · subst e
        rw [bigN_at _ _ _ (by omega), List.getElem?_append_right (Nat.le_refl _), Nat.sub_self]
        rw [show l.length + 1 - 1 - l.length = 0 by omega, Nat.mul_zero, Nat.pow_zero, Nat.div_one]
        simp only [List.getElem?_cons_zero, Option.some.injEq]
        omega
      · rw [List.getElem?_eq_none (by rw [bigN_len]; omega), List.getElem?_eq_none (by simp; omega)]
/-- a value of a type. -/
structure Rec where
  t : Nat
  v : List Nat
/-- a record's bytes. -/
def recB (r : Rec) : List Nat := szB r.t ++ (szB r.v.length ++ r.v)
/-- what is wrong with the k-th of some records. -/
def recE (rs : List Rec) (k : Nat) (r : Rec) : Nat :=
  if 0 < k ∧ r.t ≤ (rs[k - 1]?.map (·.t)).getD 0 then 22 else if 65536 < r.v.length then 3 else 0
/-- the bytes of the first records, or why they have none. -/
def tvAt (rs : List Rec) : Nat → Except Nat (List Nat)
  | 0 => .ok []
  | k + 1 => match tvAt rs k with
    | .error e => .error e
    | .ok b => match rs[k]? with
      | none => .ok b
      | some r => if recE rs k r = 0 then .ok (b ++ recB r) else .error (recE rs k r)
def tvEnc (rs : List Rec) : Except Nat (List Nat) := if 256 < rs.length then .error 4 else tvAt rs rs.length
theorem tvAt_up {rs : List Rec} {k e : Nat} (h : tvAt rs k = .error e) : tvAt rs (k + 1) = .error e := by
  unfold tvAt
  rw [h]
theorem tvAt_err {rs : List Rec} {k e : Nat} (h : tvAt rs k = .error e) : ∀ j, k ≤ j → tvAt rs j = .error e := by
  intro j hj
  obtain ⟨d, rfl⟩ : ∃ d, j = k + d := ⟨j - k, by omega⟩
  clear hj
  induction d with
  | zero => exact h
  | succ d ih => exact tvAt_up ih
theorem tvAt_succ {rs : List Rec} {k : Nat} {b : List Nat} {r : Rec} (h : tvAt rs k = .ok b) (hr : rs[k]? = some r) : tvAt rs (k + 1) = if recE rs k r = 0 then .ok (b ++ recB r) else .error (recE rs k r) := by
  unfold tvAt
  rw [h]
  simp only [hr]
theorem recB_lt (r : Rec) (h : ∀ y ∈ r.v, y < 256) : ∀ y ∈ recB r, y < 256 := by
  intro y hy
  unfold recB at hy
  rcases List.mem_append.1 hy with q | q
  · exact szB_lt _ _ q
  · rcases List.mem_append.1 q with q | q
    · exact szB_lt _ _ q
    · exact h y q
theorem tvAt_lt {rs : List Rec} (h : ∀ r ∈ rs, ∀ y ∈ r.v, y < 256) : ∀ (k : Nat) b, tvAt rs k = .ok b → ∀ y ∈ b, y < 256
  | 0, b, e => by cases e; intro y hy; cases hy
  | k + 1, b, e => by
    cases c : tvAt rs k with
    | error x => rw [tvAt_up c] at e; cases e
    | ok b0 =>
      have ih := tvAt_lt h k b0 c
      cases hr : rs[k]? with
      | none =>
        unfold tvAt at e
        rw [c] at e
        simp only [hr] at e
        cases e
        exact ih
      | some r =>
        rw [tvAt_succ c hr] at e
        split at e
        · cases e
          intro y hy
          rcases List.mem_append.1 hy with q | q
          · exact ih y q
          · exact recB_lt r (h r (List.mem_of_getElem? hr)) y q
        · cases e
theorem recB_len {rs : List Rec} {k : Nat} {r : Rec} (h0 : recE rs k r = 0) : r.v.length ≤ 65536 := by
  unfold recE at h0
  split at h0
  · cases h0
  · split at h0
    · cases h0
    · rename_i h; exact Nat.le_of_not_lt h
theorem tvAt_len {rs : List Rec} (m : Nat) (hm : 65554 ≤ m) : ∀ (k : Nat) b, tvAt rs k = .ok b → b.length ≤ k * m := by
  intro k
  induction k with
  | zero => intro b e; cases e; simp
  | succ k ih =>
    intro b e
    cases c : tvAt rs k with
    | error x => rw [tvAt_up c] at e; cases e
    | ok b0 =>
      have ih := ih b0 c
      rw [Nat.succ_mul]
      cases hr : rs[k]? with
      | none =>
        unfold tvAt at e
        rw [c] at e
        simp only [hr] at e
        cases e
        omega
      | some r =>
        rw [tvAt_succ c hr] at e
        split at e
        · rename_i h0
          cases e
          have hv := recB_len h0
          have h1 := (szB_len r.t).1
          have h2 := (szB_len r.v.length).1
          unfold recB
          rw [List.length_append, List.length_append, List.length_append]
          omega
        · cases e
end Go.Proofs.YtbhnnoejhbihhaaGreatDoor
