/- The plain law of layer 2: numbers as bytes, records as bytes, and back. -/
import Derived.Test.YtknfbccbdiidjaaGreatDoorWs
import Derived.Test.YtknfbccbdiidjaaGreatDoorRSha7
import Derived.Test.YtknfbccbdiidjaaGreatDoorRGr
namespace Go.Proofs.YtknfbccbdiidjaaGreatDoor
set_option linter.unusedVariables false
set_option linter.unusedSimpArgs false

def bigN (x n : Nat) : List Nat := (List.range n).map fun i => x / 2 ^ (8 * (n - 1 - i)) % 256
theorem bigN_len (x n : Nat) : (bigN x n).length = n := by simp [bigN]
theorem bigN_lt (x n : Nat) : ∀ y ∈ bigN x n, y < 256 := by
 intro y hy
 obtain ⟨i, _, rfl⟩ := List.mem_map.1 hy
 exact Nat.mod_lt _ (by decide)
theorem bigN_at (x n j : Nat) (h : j < n) : (bigN x n)[j]? = some (x / 2 ^ (8 * (n - 1 - j)) % 256) := by
 simp [bigN, h]
theorem bigN_nth (x n j : Nat) (h : j < n) : (bigN x n).take (j + 1) = (bigN x n).take j ++ [x / 2 ^ (8 * (n - 1 - j)) % 256] := by
 rw [List.take_add_one, bigN_at x n j h]; rfl
theorem eight_big (x : Nat) : eight x = bigN x 8 := rfl
def szB (x : Nat) : List Nat := if x < 253 then [x] else if x < 65536 then 253 :: bigN x 2 else if x < 4294967296 then 254 :: bigN x 4 else 255 :: bigN x 8
theorem szB_len (x : Nat) : (szB x).length ≤ 9 ∧ 0 < (szB x).length := by
 unfold szB
 split
 · simp
 · split
   · simp [bigN_len]
   · split <;> simp [bigN_len]
theorem szB_lt (x : Nat) : ∀ y ∈ szB x, y < 256 := by
 intro y hy
 unfold szB at hy
 split at hy
 · rw [List.mem_singleton.1 hy]; omega
 · split at hy
   · rcases List.mem_cons.1 hy with rfl | h
     · decide
     · exact bigN_lt _ _ _ h
   · split at hy
     · rcases List.mem_cons.1 hy with rfl | h
       · decide
       · exact bigN_lt _ _ _ h
     · rcases List.mem_cons.1 hy with rfl | h
       · decide
       · exact bigN_lt _ _ _ h
def numB (l : List Nat) : Nat := l.foldl (fun a b => a * 256 + b) 0
theorem numB_snoc (l : List Nat) (b : Nat) : numB (l ++ [b]) = numB l * 256 + b := by simp [numB]
theorem snoc_ind {p : List Nat → Prop} (h0 : p []) (hs : ∀ l b, p l → p (l ++ [b])) (l : List Nat) : p l := by
 have h : ∀ l : List Nat, p l.reverse := by
  intro l
  induction l with
  | nil => exact h0
  | cons b l ih => rw [List.reverse_cons]; exact hs _ _ ih
 have := h l.reverse
 rwa [List.reverse_reverse] at this
theorem numB_lt (l : List Nat) (h : ∀ y ∈ l, y < 256) : numB l < 256 ^ l.length := by
 revert h
 induction l using snoc_ind with
 | h0 => intro _; simp [numB]
 | hs l b ih0 =>
  intro h
  have ih := ih0
  rw [numB_snoc, List.length_append]
  have h1 := ih (fun y hy => h y (List.mem_append_left _ hy))
  have h2 := h b (by simp)
  show _ < 256 ^ (l.length + 1)
  rw [Nat.pow_succ]
  have : numB l + 1 ≤ 256 ^ l.length := h1
  have := Nat.mul_le_mul_right 256 this
  omega
theorem big_numB : ∀ (l : List Nat), (∀ y ∈ l, y < 256) → bigN (numB l) l.length = l := by
 intro l
 induction l using snoc_ind with
 | h0 => intro _; rfl
 | hs l b ih =>
  intro h
  have h1 := ih (fun y hy => h y (List.mem_append_left _ hy))
  have hb := h b (by simp)
  rw [numB_snoc, List.length_append]
  show bigN (numB l * 256 + b) (l.length + 1) = _
  apply List.ext_getElem?
  intro i
  by_cases hi : i < l.length
  · have q := bigN_at (numB l) l.length i hi
    rw [h1] at q
    rw [bigN_at _ _ _ (by omega), List.getElem?_append_left hi, q]
    have e : 8 * (l.length + 1 - 1 - i) = 8 + 8 * (l.length - 1 - i) := by omega
    rw [e, Nat.pow_add, ← Nat.div_div_eq_div_mul, show (2 : Nat) ^ 8 = 256 by decide]
    rw [show (numB l * 256 + b) / 256 = numB l by omega]
  · by_cases e : i = l.length
    · subst e
      rw [bigN_at _ _ _ (by omega), List.getElem?_append_right (Nat.le_refl _), Nat.sub_self]
      rw [show l.length + 1 - 1 - l.length = 0 by omega, Nat.mul_zero, Nat.pow_zero, Nat.div_one]
      simp only [List.getElem?_cons_zero, Option.some.injEq]
      omega
    · rw [List.getElem?_eq_none (by rw [bigN_len]; omega), List.getElem?_eq_none (by simp; omega)]
structure Rec where
 t : Nat
 v : List Nat
def recB (r : Rec) : List Nat := szB r.t ++ (szB r.v.length ++ r.v)
def recE (rs : List Rec) (k : Nat) (r : Rec) : Nat :=
 if 0 < k ∧ r.t ≤ (rs[k - 1]?.map (·.t)).getD 0 then 22 else if 65536 < r.v.length then 3 else 0
def tvAt (rs : List Rec) : Nat → Except Nat (List Nat)
 | 0 => .ok []
 | k + 1 => match tvAt rs k with
  | .error e => .error e
  | .ok b => match rs[k]? with
   | none => .ok b
   | some r => if recE rs k r = 0 then .ok (b ++ recB r) else .error (recE rs k r)
def tvEnc (rs : List Rec) : Except Nat (List Nat) := if 256 < rs.length then .error 4 else tvAt rs rs.length
theorem tvAt_up {rs : List Rec} {k e : Nat} (h : tvAt rs k = .error e) : tvAt rs (k + 1) = .error e := by
 unfold tvAt
 rw [h]
theorem tvAt_err {rs : List Rec} {k e : Nat} (h : tvAt rs k = .error e) : ∀ j, k ≤ j → tvAt rs j = .error e := by
 intro j hj
 obtain ⟨d, rfl⟩ : ∃ d, j = k + d := ⟨j - k, by omega⟩
 clear hj
 induction d with
 | zero => exact h
 | succ d ih => exact tvAt_up ih
theorem tvAt_succ {rs : List Rec} {k : Nat} {b : List Nat} {r : Rec} (h : tvAt rs k = .ok b) (hr : rs[k]? = some r) : tvAt rs (k + 1) = if recE rs k r = 0 then .ok (b ++ recB r) else .error (recE rs k r) := by
 unfold tvAt
 rw [h]
 simp only [hr]
theorem recB_lt (r : Rec) (h : ∀ y ∈ r.v, y < 256) : ∀ y ∈ recB r, y < 256 := by
 intro y hy
 unfold recB at hy
 rcases List.mem_append.1 hy with q | q
 · exact szB_lt _ _ q
 · rcases List.mem_append.1 q with q | q
   · exact szB_lt _ _ q
   · exact h y q
theorem recB_len {rs : List Rec} {k : Nat} {r : Rec} (h0 : recE rs k r = 0) : r.v.length ≤ 65536 := by
 unfold recE at h0
 split at h0
 · cases h0
 · split at h0
   · cases h0
   · rename_i h; exact Nat.le_of_not_lt h
theorem tvAt_len {rs : List Rec} (m : Nat) (hm : 65554 ≤ m) : ∀ (k : Nat) b, tvAt rs k = .ok b → b.length ≤ k * m := by
 intro k
 induction k with
 | zero => intro b e; cases e; simp
 | succ k ih =>
  intro b e
  cases c : tvAt rs k with
  | error x => rw [tvAt_up c] at e; cases e
  | ok b0 =>
   have ih := ih b0 c
   rw [Nat.succ_mul]
   cases hr : rs[k]? with
   | none =>
    unfold tvAt at e
    rw [c] at e
    simp only [hr] at e
    cases e
    omega
   | some r =>
    rw [tvAt_succ c hr] at e
    split at e
    · rename_i h0
      cases e
      have hv := recB_len h0
      have h1 := (szB_len r.t).1
      have h2 := (szB_len r.v.length).1
      unfold recB
      rw [List.length_append, List.length_append, List.length_append]
      omega
    · cases e
end Go.Proofs.YtknfbccbdiidjaaGreatDoor
/- The walks of tlv's big and Size. -/
namespace Go.Proofs.YtknfbccbdiidjaaGreatDoor
set_option linter.unusedVariables false
set_option linter.unusedSimpArgs false
open Go.ChangeShapes Go.WideShapes Go.ChangeAt Go.RowKit Go.Maps

structure BigW (base : Nat) (w : World) (bs : List Nat) (v : Value) (wr : World) : Prop where
 own : ∃ a c, v = .slice a bs.length c ∧ wr.ownsRow base 5 1 (.slice a bs.length c) bs.length (bcells bs)
 bel : Below base w wr
set_option maxRecDepth 100000 in
set_option maxHeartbeats 2000000 in
theorem big_is (w : World) (base : Nat) (hbase : base ≤ w.heap.size) (v : Value) (bs : List Nat) (hv : BigW base w bs v w) (x n : Nat) (hx : x < 18446744073709551616) (hn : n ≤ 8) (hl : bs.length ≤ 50000000) :
  Calls Tryz.prog 121 #[v, .int .u64 (x : Int), .int .i64 (n : Int)] w fun e w' => ∃ v', e = .returned v' ∧ BigW base w (bs ++ bigN x n) v' w' := by
 have HV := Lib.hid hv
 obtain ⟨⟨a0, c0, rfl, -⟩, -⟩ := hv
 go_enter Tryz.func121, Tryz.ntmps121
 go_wp2_with fail
 go_loopw [0, 7] (fun bv iv wx => ∃ j : Nat, iv = .int .i64 ((n : Int) - 1 - (j : Int)) ∧ j ≤ n ∧ BigW base w (bs ++ (bigN x n).take j) bv wx) (fun _ iv _ => (intOf iv + 1).toNat)
 case atStart => exact ⟨0, by go_num, Nat.zero_le _, by rw [List.take_zero, List.append_nil]; exact HV.out⟩
 case round =>
  obtain ⟨j, rfl, hj, ⟨⟨oa7, oc7, hv7, hown7⟩, hbel7⟩⟩ := hrel
  subst hv7
  obtain ⟨cs, hcs⟩ : ∃ l, l = bs ++ (bigN x n).take j := ⟨_, rfl⟩
  rw [← hcs] at hown7 ⊢
  have hcl : cs.length ≤ 50000008 := by rw [hcs, List.length_append, List.length_take, bigN_len]; omega
  by_cases hj8 : j < n
  · obtain ⟨m, hm⟩ : ∃ m : Nat, (n : Int) - 1 - (j : Int) = (m : Int) ∧ m = n - 1 - j ∧ m < 8 := ⟨n - 1 - j, by omega, rfl, by omega⟩
    have hm0 : (m : Int) ≥ 0 := by omega
    rw [hm.1]
    obtain ⟨q, hq⟩ : ∃ q, q = x / 2 ^ (8 * m) % 256 := ⟨_, rfl⟩
    have hq8 : q < 256 := by rw [hq]; exact Nat.mod_lt _ (by decide)
    have hal : Below wr.heap.size wr (wr.alloc (.cells #[.int .u8 (q : Int)] 5)) := (Below.refl _ _).alloc (Nat.le_refl _) _
    have HO8 := Lib.hid (own_kept hown7 (Kept.of_below (S := fun _ => False) hal) (fun _ _ e => e))
    have hown8 : Bytes (wr.alloc (.cells #[.int .u8 (q : Int)] 5)) (wr.alloc (.cells #[.int .u8 (q : Int)] 5)).heap.size (.slice (some ⟨wr.heap.size, 0, none⟩) 1 1) [q] := ⟨_, _, rfl, Nat.le_refl _, (fun z hz => by rw [List.mem_singleton.1 hz]; exact hq8), fun _ => ⟨wr.heap.size, 0, rfl, by simp, fun i hi => by
     obtain rfl : i = 0 := Nat.lt_one_iff.1 hi
     exact (Has.new wr _ _).cell_is rfl⟩⟩
    have HSRC8 := Lib.hid hown8
    have hsz := hbel7.size
    have HBS8 := Lib.hid (show ∀ z, base ≤ (wr.alloc (.cells z 5)).heap.size from fun z => by simp; omega)
    have HLN8 := Lib.hid (show cs.length + [q].length ≤ 100000000 by simp; omega)
    have HB8 := Lib.hid (hbel7.alloc (by omega) (.cells #[.int .u8 (q : Int)] 5))
    have HE8 := Lib.hid (show bs ++ (bigN x n).take (j + 1) = cs ++ [q] by
     rw [bigN_nth x n j hj8, hcs, ← List.append_assoc, hq, hm.2.1])
    have HJ := Lib.hid hj8
    have HMJ := Lib.hid hm
    have hnn : (8 * (m : Int)).toNat = 8 * m := by omega
    have hn0 : (0 : Int) ≤ 8 * (m : Int) := by omega
    have hn1 : 8 * (m : Int) < 64 := by omega
    have hu8 : IntKind.u8.wrap ((x : Int) / 2 ^ (8 * m)) = (q : Int) := by
     rw [IntKind.wrap_u8, hq]
     have : ((x : Int) / 2 ^ (8 * m)) = ((x / 2 ^ (8 * m) : Nat) : Int) := by rw [Int.natCast_ediv, Int.natCast_pow]; rfl
     rw [this]; omega
    clear hal hown8 hcs hm hj hown7 hbel7 hq hsz
    go_wp2_with (at_builtin; refine wpList_append_bytes rfl (.tmp 14) (.tmp 20) rfl base _ cs.length (bcells cs) rfl HO8.out _ _ [q] rfl HSRC8.out HLN8.out (HBS8.out _) ?_; intro oa8 oc8 w8 hown9 hgr9)
    have hfin : BigW base w (bs ++ (bigN x n).take (j + 1)) (.slice oa8 (cs.length + [q].length) oc8) w8 := by
     rw [HE8.out]
     rw [← bcells_cat, ← List.length_append] at hown9
     exact ⟨⟨oa8, oc8, by rw [List.length_append], hown9⟩, HB8.out.grown hgr9 (HBS8.out _) (own_blk HO8.out)⟩
    have HFIN := Lib.hid hfin
    have HJ2 := Lib.hid (show (m : Int) - 1 = (n : Int) - 1 - ((j + 1 : Nat) : Int) by have h1 := HMJ.out.2.1; have h2 := HJ.out; omega)
    have HME := Lib.hid (show ((m : Int) - 1 + 1).toNat < ((m : Int) + 1).toNat by omega)
    clear hfin hown9 hgr9 hu8 hnn hn0 hn1
    go_wp2_with fail
    go_roundw
    case rel => exact ⟨j + 1, by rw [HJ2.out], by have := HJ.out; omega, HFIN.out⟩
    case measure => simp [intOf]
  · obtain rfl : j = n := by omega
    have hm0 : ¬ ((j : Int) - 1 - (j : Int)) ≥ 0 := by omega
    have hfin : BigW base w (bs ++ bigN x j) (.slice oa7 cs.length oc7) wr := by
     have e : cs = bs ++ bigN x j := by rw [hcs, List.take_of_length_le (by rw [bigN_len]; exact Nat.le_refl _)]
     rw [← e]
     exact ⟨⟨oa7, oc7, rfl, hown7⟩, hbel7⟩
    have HFIN := Lib.hid hfin
    clear hcs hown7 hbel7 hfin hj hj8 hcl
    go_wp2_with fail
    go_ret
    exact ⟨_, rfl, HFIN.out⟩
theorem one_row (w : World) (q : Nat) (hq : q < 256) : BigW w.heap.size (w.alloc (.cells #[.int .u8 (q : Int)] 5)) [q] (.slice (some ⟨w.heap.size, 0, none⟩) 1 1) (w.alloc (.cells #[.int .u8 (q : Int)] 5)) :=
 ⟨⟨_, _, rfl, ⟨rfl, .inr ⟨w.heap.size, 1, #[.int .u8 (q : Int)], rfl, Nat.le_refl _, Has.new w _ _, Nat.le_refl _, by unfold maxLen; decide, rfl, rfl⟩⟩⟩, Below.refl _ _⟩
set_option maxRecDepth 100000 in
set_option maxHeartbeats 2000000 in
theorem size_is (w : World) (x : Nat) (hx : x < 18446744073709551616) :
   Calls Tryz.prog 98 #[.int .u64 (x : Int)] w fun e w' => ∃ v', e = .returned v' ∧ BigW w.heap.size w (szB x) v' w' := by
 have HBG := Lib.hid (show ∀ (q n : Nat), q < 256 → n ≤ 8 → Calls Tryz.prog 121 #[.slice (some ⟨w.heap.size, 0, none⟩) 1 1, .int .u64 (x : Int), .int .i64 (n : Int)] (w.alloc (.cells #[.int .u8 (q : Int)] 5)) fun e w' => ∃ v', e = .returned v' ∧ BigW w.heap.size w (q :: bigN x n) v' w' from fun q n hq hn => by
   refine (big_is _ w.heap.size (by simp) _ [q] (one_row w q hq) x n hx hn (by simp)).mono ?_
   rintro e w' ⟨v', h1, h2⟩
   exact ⟨v', h1, ⟨h2.own, ((Below.refl w.heap.size w).alloc (Nat.le_refl _) _).trans h2.bel⟩⟩)
 by_cases h1 : x < 253
 · have h1' : (x : Int) < 253 := by omega
   have hw8 : IntKind.u8.wrap (x : Int) = (x : Int) := by rw [IntKind.wrap_u8]; omega
   have HF := Lib.hid (show BigW w.heap.size w (szB x) (.slice (some ⟨w.heap.size, 0, none⟩) 1 1) (w.alloc (.cells #[.int .u8 (x : Int)] 5)) by
    have := one_row w x (by omega)
    rw [show szB x = [x] by unfold szB; rw [if_pos h1]]
    exact ⟨this.own, (Below.refl w.heap.size w).alloc (Nat.le_refl _) _⟩)
   clear h1
   go_enter Tryz.func98, Tryz.ntmps98
   go_wp2_with fail
   go_ret
   exact ⟨_, rfl, HF.out⟩
 have h1' : ¬ (x : Int) < 253 := by omega
 by_cases h2 : x < 65536
 · have h2' : (x : Int) < 65536 := by omega
   have HE := Lib.hid (show szB x = 253 :: bigN x 2 by unfold szB; rw [if_neg h1, if_pos h2])
   clear h1 h2
   go_enter Tryz.func98, Tryz.ntmps98
   go_wp2_with fail
   refine (HBG.out 253 2 (by decide) (by decide)).mono ?_
   rintro _ w' ⟨v', rfl, hb⟩
   have HF := Lib.hid hb
   clear hb
   go_wp2_with fail
   go_ret
   exact ⟨_, rfl, by rw [HE.out]; exact HF.out⟩
 have h2' : ¬ (x : Int) < 65536 := by omega
 by_cases h3 : x < 4294967296
 · have h3' : (x : Int) < 4294967296 := by omega
   have HE := Lib.hid (show szB x = 254 :: bigN x 4 by unfold szB; rw [if_neg h1, if_neg h2, if_pos h3])
   clear h1 h2 h3
   go_enter Tryz.func98, Tryz.ntmps98
   go_wp2_with fail
   refine (HBG.out 254 4 (by decide) (by decide)).mono ?_
   rintro _ w' ⟨v', rfl, hb⟩
   have HF := Lib.hid hb
   clear hb
   go_wp2_with fail
   go_ret
   exact ⟨_, rfl, by rw [HE.out]; exact HF.out⟩
 have h3' : ¬ (x : Int) < 4294967296 := by omega
 have HE := Lib.hid (show szB x = 255 :: bigN x 8 by unfold szB; rw [if_neg h1, if_neg h2, if_neg h3])
 clear h1 h2 h3
 go_enter Tryz.func98, Tryz.ntmps98
 go_wp2_with fail
 refine (HBG.out 255 8 (by decide) (by decide)).mono ?_
 rintro _ w' ⟨v', rfl, hb⟩
 have HF := Lib.hid hb
 clear hb
 go_wp2_with fail
 go_ret
 exact ⟨_, rfl, by rw [HE.out]; exact HF.out⟩
end Go.Proofs.YtknfbccbdiidjaaGreatDoor
