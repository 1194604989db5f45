/- A proof in memory: which heights are bare, the other nodes. -/
import Derived.Test.YtngmpcmeebcdmaaDoorPf0
import Derived.Test.YtngmpcmeebcdmaaDoorEmp0
namespace Go.Proofs.YtngmpcmeebcdmaaDoor
set_option linter.unusedVariables false
set_option linter.unusedSimpArgs false
open Go.ChangeShapes Go.WideShapes Go.ChangeAt Go.RowKit Go.Maps

/-- two nodes, compared field by field. -/
theorem nd_any (x y : Nd) (hx : IsHash x.h) (hy : IsHash y.h) (w : World) : (Op.equalIn 10000 58 (.agg (ndV x).toArray) (.agg (ndV y).toArray)).run Tryd.prog w = .ok (ndSame x y) w := by
  obtain ⟨f0, f1, hf, ⟨n0, t0, o0⟩, ⟨n1, t1, o1⟩⟩ := nd_fields
  have hid : ∀ z : Nd, IsHash z.h → ((ndV z).drop 0).take 32 = bcells z.h := fun z hz => by
    rw [List.drop_zero, ndV, ncells, List.take_append_of_le_length (by rw [bcells_length, hz.1]; exact Nat.le_refl _)]
    exact List.take_of_length_le (by rw [bcells_length, hz.1]; exact Nat.le_refl _)
  have ham : ∀ z : Nd, IsHash z.h → (ndV z)[32]? = some (.int .u64 (z.s : Int)) := fun z hz => by
    rw [ndV, ncells, List.getElem?_append_right (by rw [bcells_length, hz.1]; exact Nat.le_refl _), bcells_length, hz.1]; rfl
  have q0 : ∀ z : Nd, IsHash z.h → (part f0.type (ndV z).toArray f0.offset).run Tryd.prog w = .ok (.agg (bcells z.h).toArray) w := fun z hz => by
    rw [t0, o0, part_agg Tryd.underlying28 (k := 32) (by kernel_rfl), extract_list, hid z hz]
  have q1 : ∀ z : Nd, IsHash z.h → (part f1.type (ndV z).toArray f1.offset).run Tryd.prog w = .ok (.int .u64 (z.s : Int)) w := fun z hz => by
    rw [t1, o1]
    exact part_int Tryd.underlying30 (by rw [List.getElem?_toArray]; exact ham z hz) w
  have e0 : (Op.equalIn 9999 f0.type (.agg (bcells x.h).toArray) (.agg (bcells y.h).toArray)).run Tryd.prog w = .ok (decide (x.h = y.h)) w := by
    rw [t0]
    exact hash_eq_at 9997 x.h y.h hx hy w
  have e1 : (Op.equalIn 9999 f1.type (.int .u64 (x.s : Int)) (.int .u64 (y.s : Int))).run Tryd.prog w = .ok (decide (x.s = y.s)) w := by
    rw [t1]
    have := run_equalIn_int (P := Tryd.prog) w 9998 30 .u64 .u64 (x.s : Int) (y.s : Int) Tryd.underlying30
    rw [this, show ((x.s : Int) == (y.s : Int)) = decide (x.s = y.s) from (by rw [Bool.eq_iff_iff, beq_iff_eq, decide_eq_true_eq]; omega)]
  rw [run_equalIn_struct w 9999 58 _ _ nd_struct (by kernel_rfl), hf, eqF_any n0 (q0 x hx) (q0 y hy) e0]
  unfold ndSame
  by_cases h1 : x.h = y.h
  · rw [if_pos (decide_eq_true h1), eqF_any n1 (q1 x hx) (q1 y hy) e1]
    by_cases h2 : x.s = y.s
    · rw [if_pos (decide_eq_true h2), eqF_nil, decide_eq_true ⟨h1, h2⟩]
    · rw [if_neg (by rw [decide_eq_false h2]; decide), decide_eq_false (fun e => h2 e.2)]
  · rw [if_neg (by rw [decide_eq_false h1]; decide), decide_eq_false (fun e => h1 e.1)]
/-- a proof's cells. -/
def pcells (bb : List Nat) (a : Option Addr) (n c : Nat) : List Value := bcells bb ++ [.slice a n c]
theorem pcells_len {bb : List Nat} (h : IsHash bb) (a : Option Addr) (n c : Nat) : (pcells bb a n c).length = 33 := by simp [pcells, bcells_length, h.1]
theorem pcells_one (bb : List Nat) (a : Option Addr) (n c : Nat) : (pcells bb a n c).toArray.all (·.oneCell') = true :=
  all_oneCell_toArray (fun v hv => by
    rcases List.mem_append.1 hv with h | h
    · exact bcells_oneC bb v h
    · rw [List.mem_singleton.1 h]; rfl)
theorem pcells_byte {bb : List Nat} (h : IsHash bb) (a : Option Addr) (n c i : Nat) (hi : i < 32) : (pcells bb a n c)[i]? = some (.int .u8 (bb.getD i 0 : Nat)) := by
  rw [pcells, List.getElem?_append_left (by rw [bcells_length, h.1]; exact hi)]
  exact bcells_get bb i (by rw [h.1]; exact hi)
theorem pcells_row {bb : List Nat} (h : IsHash bb) (a : Option Addr) (n c : Nat) : (pcells bb a n c)[32]? = some (.slice a n c) := by
  rw [pcells, List.getElem?_append_right (by rw [bcells_length, h.1]; exact Nat.le_refl _), bcells_length, h.1]; rfl
/-- nothing stands beside the way at a height. -/
def bareB (bb : List Nat) (h : Nat) : Bool := decide (bb.getD (h / 8) 0 / 2 ^ (h % 8) % 2 = 1)
theorem and_one8 (a : Nat) : bits BinOp.and .u8 (a : Int) 1 = ((a % 2 : Nat) : Int) := by
  unfold bits
  have e : (BitVec.ofInt IntKind.u8.bits (a : Int) &&& BitVec.ofInt IntKind.u8.bits 1).toNat = a % 2 := by
    show (BitVec.ofInt 8 (a : Int) &&& BitVec.ofInt 8 1).toNat = a % 2
    rw [BitVec.toNat_and, BitVec.toNat_ofInt, BitVec.toNat_ofInt]
    have : ((1 : Int) % ((2 ^ 8 : Nat) : Int)).toNat = 1 := by decide
    rw [this, Nat.and_one_is_mod]
    omega
  simp only [e]
  have hw : ∀ b : Int, 0 ≤ b → b < 256 → IntKind.u8.wrap b = b := fun b h0 h1 => by
    simp [IntKind.wrap, IntKind.bits, IntKind.signed]; omega
  exact hw _ (by omega) (by omega)
theorem bare_num (bb : List Nat) (h : Nat) : (bits BinOp.and .u8 (((bb.getD (h / 8) 0 : Nat) : Int) / 2 ^ (h % 8)) 1 == 1) = bareB bb h := by
  have e3 : (((bb.getD (h / 8) 0 : Nat) : Int) / 2 ^ (h % 8)) = ((bb.getD (h / 8) 0 / 2 ^ (h % 8) : Nat) : Int) := by
    rw [Int.natCast_ediv, Int.natCast_pow]; rfl
  rw [e3, and_one8]
  unfold bareB
  rw [Bool.eq_iff_iff, beq_iff_eq, decide_eq_true_eq]
  omega
set_option maxRecDepth 100000 in
set_option maxHeartbeats 2000000 in
theorem bare_is (w : World) (bb : List Nat) (hb : IsHash bb) (a : Option Addr) (n c : Nat) (h : Nat) (hh : h < 256) :
    Calls Tryd.prog 56 #[.agg (pcells bb a n c).toArray, .int .i64 (h : Int)] w fun e w' => e = .returned (.bool (bareB bb h)) ∧ w' = w.alloc (.cells (pcells bb a n c).toArray 56) := by
  obtain ⟨L, hL⟩ : ∃ L, L = pcells bb a n c := ⟨_, rfl⟩
  rw [← hL]
  have hc : (w.alloc (.cells L.toArray 56)).cell? ⟨w.heap.size, h / 8, none⟩ = some (.int .u8 (bb.getD (h / 8) 0 : Nat)) :=
    (Has.new w 56 L.toArray).cell_is (by rw [List.getElem?_toArray, hL]; exact pcells_byte hb a n c (h / 8) (by omega))
  obtain ⟨x, hx⟩ : ∃ x, x = bb.getD (h / 8) 0 := ⟨_, rfl⟩
  rw [← hx] at hc
  have hx1 : x < 256 := by rw [hx]; exact hb.byte _ (by omega)
  have HN := Lib.hid (bare_num bb h)
  have HX := Lib.hid hx
  have h1 : (h : Int) < 256 := by omega
  clear hx hL
  go_enter Tryd.func56, Tryd.ntmps56
  go_wp2
  go_ret
  exact ⟨ret_bool (by have := HN.out; rw [← HX.out] at this; simpa using this), rfl⟩
end Go.Proofs.YtngmpcmeebcdmaaDoor
