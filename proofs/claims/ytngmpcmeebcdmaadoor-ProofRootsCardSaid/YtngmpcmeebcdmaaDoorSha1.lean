/- The walk of bits.RotateLeft32, as sha uses it: to the right. -/
import Derived.Test.YtngmpcmeebcdmaaDoorSha0
import Derived.Test.YtngmpcmeebcdmaaDoorMem
import Derived.ChangeKeysEq
namespace Go.Proofs.YtngmpcmeebcdmaaDoor
set_option linter.unusedVariables false
set_option linter.unusedSimpArgs false
open Go.ChangeShapes Go.WideShapes Go.ChangeAt Go.RowKit

theorem turn_by : ∀ n : Fin 31, bits .and .u64 (IntKind.u64.wrap (-((n.val + 1 : Nat) : Int))) 31 = ((31 - n.val : Nat) : Int) := of_decide_eq_true (by kernel_rfl)

theorem rot_is (w : World) (x : Wd) (k : Int) (n : Nat) (hn : 0 < n) (hn2 : n < 32) (hk : k = -(n : Int)) :
    Calls Tryd.prog 109 #[.int .u32 (x.toNat : Int), .int .i64 k] w fun e w' => e = .returned (.int .u32 ((rotr n x).toNat : Int)) ∧ w' = w := by
  have ht := turn_by ⟨n - 1, by omega⟩
  simp only [Nat.sub_add_cancel hn] at ht
  rw [← hk] at ht
  have e1 : 31 - (n - 1) = 32 - n := by omega
  rw [e1] at ht
  have HK := Lib.hid hk
  clear hk
  go_enter Tryd.func109, Tryd.ntmps109
  go_wp2
  go_ret
  refine ⟨ret_int ?_, rfl⟩
  have e2 : 32 - (32 - n) = n := by omega
  unfold rotr
  rw [e2, shl_wd, shr_wd, or_wd]

/-- an array by value at an index. -/
theorem index_row {t e : TypeId} {n : Nat} {X : Array Value} {k : Nat} {v : Value} (ht : Tryd.prog.underlying t = some (.array n e)) (i0 : TypeInfo) (hi : Tryd.prog.info? e = some i0) (hc : Tryd.prog.cellsOf e = 1) (hp : Tryd.prog.plainKey e = true) (hk : k < n) (hx : X[k]? = some v) (w : World) :
    (Instr.index t (.agg X) (.int .i64 k)).run Tryd.prog w = .ok v w := by
  have h1 := run_sizeOf (w := w) hi
  rw [hc] at h1
  have h2 := run_part_plain (w := w) hp (xs := X) (off := k * 1) (by rw [Nat.mul_one]; exact hx)
  simp [Instr.index, run_underlying ht, asIntOf, hk, h1, Result.andThen]
  simpa using h2
end Go.Proofs.YtngmpcmeebcdmaaDoor
