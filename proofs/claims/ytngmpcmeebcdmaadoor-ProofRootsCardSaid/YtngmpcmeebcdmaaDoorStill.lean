/- A whole array read in a region that draws its order. -/
import Derived.Test.YtngmpcmeebcdmaaDoorMem
import Derived.StillTailTactics
namespace Go.Proofs.YtngmpcmeebcdmaaDoor
set_option linter.unusedVariables false
set_option linter.unusedSimpArgs false
open Go.ChangeShapes Go.WideShapes Go.ChangeAt Go.RowKit

/-- a whole array read in a region that draws. -/
theorem still_load_row {P : Program} {w : World} {ops : Array Oper} {rest : List Oper} {o : Oper} {a : Act} {Q : Act → Prop} (hgd : o.guard = none) (ty : TypeId) (x : Operand) (ho : o.op = .load ty x)
    (g : Nat) (hx : a.eval x = .pointer (some ⟨g, 0, none⟩)) (t : TypeId) (cs : Array Value) (fr : Nat × Nat) (d : TypeDesc) (hg : w.heap[g]? = some (.cells cs t fr))
    (hu : P.underlying ty = some d) (hd : d.isRow = true) (hi : (P.info? ty).map (·.size) = some cs.size)
    (h : wpStill P ops w Q rest (a.put o.dst (.agg cs))) : wpStill P ops w Q (o :: rest) a := by
  refine wpStill_step fun K hK => ?_
  have hw : Region.wanted o (yielded ops a.tmps) = true := by simp [Region.wanted, hgd]
  rw [if_pos hw]
  have hl := run_loadVar_mid (P := P) w g 0 ty cs.toList d (fun j v hv => by rw [Nat.zero_add, cell_of_row w g j cs t fr hg]; simpa using hv) hu hd (by simpa using hi)
  unfold Oper.still execOp
  simp only [ho, hx, Instr.loadAt, Instr.sureAddr, Sem.run_bind, Sem.run_pure, Result.andThen_ok, hl, Array.toArray_toList]
  rw [Oper.stillUpon_value]
  exact hK _ h

/-- a row in the midst of a block, read in a region that draws. -/
theorem still_load_mid {P : Program} {w : World} {ops : Array Oper} {rest : List Oper} {o : Oper} {a : Act} {Q : Act → Prop} (ty : TypeId) (x : Operand) (ho : o.op = .load ty x)
    (hwant : Region.wanted o (yielded ops a.tmps) = true) (g off : Nat) (hx : a.eval x = .pointer (some ⟨g, off, none⟩)) (cs : List Value) (d : TypeDesc) (hg : w.rangeAt g off cs)
    (hu : P.underlying ty = some d) (hd : d.isRow = true) (hi : (P.info? ty).map (·.size) = some cs.length)
    (h : wpStill P ops w Q rest (a.put o.dst (.agg cs.toArray))) : wpStill P ops w Q (o :: rest) a := by
  refine wpStill_step fun K hK => ?_
  rw [if_pos hwant]
  have hl := run_loadVar_mid (P := P) w g off ty cs d hg hu hd hi
  unfold Oper.still execOp
  simp only [ho, hx, Instr.loadAt, Instr.sureAddr, Sem.run_bind, Sem.run_pure, Result.andThen_ok, hl]
  rw [Oper.stillUpon_value]
  exact hK _ h
end Go.Proofs.YtngmpcmeebcdmaaDoor
