/- The walks of msum.Node.put, sums.Add. -/
import Derived.Test.YtcekammjpghjnaaDoorWs
import Derived.Test.YtcekammjpghjnaaDoorUSha7
import Derived.Test.YtcekammjpghjnaaDoorUMem
import Derived.Laws.Externs
import Derived.Deep.CutBlock
namespace Go.Proofs.YtcekammjpghjnaaDoor
set_option linter.unusedVariables false
set_option linter.unusedSimpArgs false
open Go.ChangeShapes Go.WideShapes Go.ChangeAt Go.RowKit

theorem add64_is (w : World) (a b : Nat) : (callFunc 51 #[.int .u64 (a : Int), .int .u64 (b : Int), .int .u64 0]).run Tryd.prog w =
  .ok (.value (.tuple #[.int .u64 (((a + b) % 18446744073709551616 : Nat) : Int), .int .u64 (((a + b) / 18446744073709551616 : Nat) : Int)])) w := by
 rw [run_callFunc_extern Tryd.func51 (by kernel_rfl) (by kernel_rfl) (by kernel_rfl) (e := add64Entry) (by kernel_rfl), run_add64 a b 0 (by omega) (by omega) (by omega) (by omega)]
 simp only [Result.andThen]
 congr 5 <;> omega

theorem add_fits (w : World) (a b : Nat) (h : a + b < 18446744073709551616) :
  Calls Tryd.prog 31 #[.int .u64 (a : Int), .int .u64 (b : Int)] w fun e w' => e = .returned (.tuple #[.int .u64 ((a + b : Nat) : Int), .int .i64 0]) ∧ w' = w := by
 have hadd := add64_is w a b
 rw [Nat.mod_eq_of_lt h, Nat.div_eq_of_lt h] at hadd
 obtain ⟨s, hs⟩ : ∃ s, s = a + b := ⟨_, rfl⟩
 rw [← hs] at hadd
 have HS := Lib.hid hs
 have HADD := Lib.hid hadd
 clear hadd hs h
 go_enter Tryd.func31, Tryd.ntmps31
 go_wp2_with (simp only [HADD.out])
 go_ret2
 exact ⟨by rw [HS.out]; rfl, rfl⟩

theorem add_over (w : World) (a b : Nat) (h : 18446744073709551616 ≤ a + b) (h2 : a + b < 36893488147419103232) :
  Calls Tryd.prog 31 #[.int .u64 (a : Int), .int .u64 (b : Int)] w fun e w' => e = .returned (.tuple #[.int .u64 0, .int .i64 10]) ∧ w' = w := by
 have hadd := add64_is w a b
 rw [show (a + b) / 18446744073709551616 = 1 by omega] at hadd
 obtain ⟨s, hs⟩ : ∃ s, s = (a + b) % 18446744073709551616 := ⟨_, rfl⟩
 rw [← hs] at hadd
 have HADD := Lib.hid hadd
 clear hadd hs h h2
 go_enter Tryd.func31, Tryd.ntmps31
 go_wp2_with (simp only [HADD.out])
 go_ret2
 exact ⟨rfl, rfl⟩
end Go.Proofs.YtcekammjpghjnaaDoor

/- The walks of msum.Leaf.Node, msum.Branch. -/
namespace Go.Proofs.YtcekammjpghjnaaDoor
set_option linter.unusedVariables false
set_option linter.unusedSimpArgs false
open Go.ChangeShapes Go.WideShapes Go.ChangeAt Go.RowKit

end Go.Proofs.YtcekammjpghjnaaDoor

/- The walk of msum.Branch. -/
namespace Go.Proofs.YtcekammjpghjnaaDoor
set_option linter.unusedVariables false
set_option linter.unusedSimpArgs false
open Go.ChangeShapes Go.WideShapes Go.ChangeAt Go.RowKit

theorem results_cell_tmp {fn : Func} {p q : Tmp} {ty : TypeId} {fs : Array _} (h : fn.results = #[.cell p ty, .tmp q]) (tmps : Array Value) (w : World) (g : Nat) (t : TypeId) (cs : Array Value) (fr : Nat × Nat) (v : Value)
  (hp : tmps.getD p undef = .pointer (some ⟨g, 0, none⟩)) (hq : tmps.getD q undef = v) (hg : w.heap[g]? = some (.cells cs t fr))
  (hu : Tryd.prog.underlying ty = some (.struct fs)) (hi : (Tryd.prog.info? ty).map (·.size) = some cs.size) :
  (results fn tmps).run Tryd.prog w = .ok (.tuple #[.agg cs, v]) w := by
 have hp' : tmps[p]?.getD undef = .pointer (some ⟨g, 0, none⟩) := by simpa using hp
 have hq' : tmps[q]?.getD undef = v := by simpa using hq
 simp [results, h, hp', hq', asAddr, run_loadVar_row w g t ty cs fr _ hg hu rfl hi]
end Go.Proofs.YtcekammjpghjnaaDoor

