/- Parts of Make: bits that are set, nodes that are gathered. -/
import Derived.Test.YtngmpcmeebcdmaaDoorPf4
namespace Go.Proofs.YtngmpcmeebcdmaaDoor
set_option linter.unusedVariables false
set_option linter.unusedSimpArgs false
open Go.ChangeShapes Go.WideShapes Go.ChangeAt Go.RowKit Go.Maps

theorem bareB_test (bb : List Nat) (h : Nat) : bareB bb h = (bb.getD (h / 8) 0).testBit (h % 8) := by
  unfold bareB
  rw [Nat.testBit_eq_decide_div_mod_eq]
theorem bare_set {bb : List Nat} (hb : IsHash bb) (k : Nat) (hk : k < 256) :
    IsHash (bb.set (k / 8) (bb.getD (k / 8) 0 ||| 2 ^ (k % 8))) ∧ ∀ h, h < 256 → bareB (bb.set (k / 8) (bb.getD (k / 8) 0 ||| 2 ^ (k % 8))) h = (bareB bb h || decide (h = k)) := by
  have hy : bb.getD (k / 8) 0 ||| 2 ^ (k % 8) < 256 := by
    have h1 := hb.byte (k / 8) (by omega)
    have h2 : 2 ^ (k % 8) < 2 ^ 8 := Nat.pow_lt_pow_right (by decide) (Nat.mod_lt _ (by decide))
    exact Nat.or_lt_two_pow (n := 8) h1 h2
  refine ⟨⟨by rw [List.length_set, hb.1], fun x hx => ?_⟩, fun h hh => ?_⟩
  · rcases List.mem_or_eq_of_mem_set hx with e | e
    · exact hb.2 x e
    · rw [e]; exact hy
  · rw [bareB_test, bareB_test]
    by_cases e : h / 8 = k / 8
    · rw [e, List.getD_eq_getElem?_getD, List.getElem?_set_self (by rw [hb.1]; omega), Option.getD_some, Nat.testBit_or, Nat.testBit_two_pow]
      congr 1
      rw [decide_eq_decide]
      omega
    · rw [List.getD_eq_getElem?_getD, List.getElem?_set_ne (by omega), ← List.getD_eq_getElem?_getD, decide_eq_false (show ¬ h = k from fun q => e (by rw [q])), Bool.or_false]
theorem bareB_zero (h : Nat) (hh : h < 256) : bareB (List.replicate 32 0) h = false := by
  rw [bareB_test, List.getD_eq_getElem?_getD, List.getElem?_replicate, if_pos (by omega), Option.getD_some, Nat.zero_testBit]
theorem flatN_get : ∀ (xs : List Nd), (∀ x ∈ xs, IsHash x.h) → ∀ (i j : Nat) x, xs[i]? = some x → j < 33 → (xs.flatMap ndV)[i * 33 + j]? = (ndV x)[j]?
  | [], _, i, j, x, hi, _ => by cases hi
  | y :: ys, hh, 0, j, x, hi, hj => by
    cases hi
    rw [List.flatMap_cons, Nat.zero_mul, Nat.zero_add, List.getElem?_append_left (by rw [ndV_len (hh _ (List.mem_cons_self ..))]; exact hj)]
  | y :: ys, hh, i + 1, j, x, hi, hj => by
    have hl := ndV_len (hh y (List.mem_cons_self ..))
    rw [List.flatMap_cons, List.getElem?_append_right (by rw [hl]; omega), hl, show (i + 1) * 33 + j - 33 = i * 33 + j by omega]
    exact flatN_get ys (fun z hz => hh z (List.mem_cons_of_mem _ hz)) i j x hi hj
theorem flatN_len : ∀ (xs : List Nd), (∀ x ∈ xs, IsHash x.h) → (xs.flatMap ndV).length = xs.length * 33
  | [], _ => rfl
  | y :: ys, hh => by
    rw [List.flatMap_cons, List.length_append, ndV_len (hh y (List.mem_cons_self ..)), flatN_len ys (fun z hz => hh z (List.mem_cons_of_mem _ hz)), List.length_cons]; omega
/-- nodes of one's own. -/
theorem own_nodes {w : World} {base : Nat} {a : Option Addr} {n c : Nat} {xs : List Nd} (h : w.ownsRow base 58 33 (.slice a n c) n (xs.flatMap ndV)) (hl : xs.length = n) (hh : ∀ x ∈ xs, IsHash x.h) (hs : ∀ x ∈ xs, x.s < 18446744073709551616) :
    NodesAt w a n xs ∧ (0 < n → ∀ A, a = some A → base ≤ A.block) := by
  refine ⟨⟨hl, hh, hs, fun hn => ?_⟩, fun hn A hA => ?_⟩
  · obtain ⟨b, cap, cur, e, hB, hhas, h1, h2, h3, h4⟩ := own_open h hn
    injection e with e1 e2 e3
    refine ⟨b, 0, e1, hhas.lt, fun i x hx j u hu => ?_⟩
    have hj := (List.getElem?_eq_some_iff.1 hu).1
    rw [ndV_len (hh x (List.mem_of_getElem? hx))] at hj
    have hi := (List.getElem?_eq_some_iff.1 hx).1
    have hlt : i * 33 + j < n * 33 := by
      have : (i + 1) * 33 ≤ n * 33 := Nat.mul_le_mul_right 33 (by omega)
      omega
    rw [Nat.zero_add]
    exact hhas.cell_is (by rw [h4 _ hlt, flatN_get xs hh i j x hx hj]; exact hu)
  · obtain ⟨b, cap, cur, e, hB, hhas, h1, h2, h3, h4⟩ := own_open h hn
    injection e with e1 e2 e3
    rw [hA] at e1
    injection e1 with e1
    rw [e1]; exact hB
theorem zero_proof : ∃ Z : Array Value, (∀ w, (zeroValue 56).run Tryd.prog w = .ok (.agg Z) w) ∧ Z.size = 33 ∧ ¬ Z = #[] ∧ Z = (pcells (List.replicate 32 0) none 0 0).toArray := by
  have hs : (pcells (List.replicate 32 0) none 0 0).toArray.size = 33 := by kernel_rfl
  exact ⟨_, fun w => by kernel_rfl, hs, fun e => (by rw [e] at hs; cases hs), rfl⟩
/-- a bit set in a byte. -/
theorem or_bit (x j : Nat) (hx : x < 256) (hj : j < 8) : bits BinOp.or .u8 (x : Int) ((2 ^ j : Nat) : Int) = ((x ||| 2 ^ j : Nat) : Int) := by
  have h2 : 2 ^ j < 2 ^ 8 := Nat.pow_lt_pow_right (by decide) hj
  have hy : x ||| 2 ^ j < 256 := Nat.or_lt_two_pow (n := 8) hx h2
  unfold bits
  have e : (BitVec.ofInt IntKind.u8.bits (x : Int) ||| BitVec.ofInt IntKind.u8.bits ((2 ^ j : Nat) : Int)).toNat = x ||| 2 ^ j := by
    show (BitVec.ofInt 8 (x : Int) ||| BitVec.ofInt 8 ((2 ^ j : Nat) : Int)).toNat = x ||| 2 ^ j
    rw [BitVec.ofInt_natCast, BitVec.ofInt_natCast, BitVec.toNat_or, BitVec.toNat_ofNat, BitVec.toNat_ofNat, Nat.mod_eq_of_lt hx, Nat.mod_eq_of_lt h2]
  simp only [e]
  have hw : ∀ b : Int, 0 ≤ b → b < 256 → IntKind.u8.wrap b = b := fun b h0 h1 => by
    simp [IntKind.wrap, IntKind.bits, IntKind.signed]; omega
  exact hw _ (by omega) (by omega)
/-- a proof's cells, of which one byte was set; or its nodes. -/
theorem pcells_set {bb : List Nat} (hb : IsHash bb) (a : Option Addr) (n c i y : Nat) (hi : i < 32) : ((pcells bb a n c).toArray.setIfInBounds i (.int .u8 (y : Int))) = (pcells (bb.set i y) a n c).toArray := by
  rw [List.setIfInBounds_toArray]
  congr 1
  unfold pcells bcells
  rw [List.set_append_left _ _ (by rw [List.length_map, hb.1]; exact hi), List.map_set]
theorem pcells_put {bb : List Nat} (hb : IsHash bb) (a a' : Option Addr) (n c n' c' : Nat) : ((pcells bb a n c).toArray.setIfInBounds 32 (.slice a' n' c')) = (pcells bb a' n' c').toArray := by
  rw [List.setIfInBounds_toArray]
  congr 1
  unfold pcells
  rw [List.set_append_right _ _ (by rw [bcells_length, hb.1]; exact Nat.le_refl _), bcells_length, hb.1]
  rfl
end Go.Proofs.YtngmpcmeebcdmaaDoor
