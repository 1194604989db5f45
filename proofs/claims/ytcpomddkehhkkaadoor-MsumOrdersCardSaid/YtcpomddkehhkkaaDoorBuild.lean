/- Arms for the walk: a struct or an array is built by a run that is known; a slice of one struct is built. -/
import Derived.Test.YtcpomddkehhkkaaDoorMem
import Derived.Great.BuildSlice
import Derived.Great.FillDense
import Derived.Test.YtcpomddkehhkkaaDoorStill
namespace Go.Proofs.YtcpomddkehhkkaaDoor
set_option linter.unusedVariables false
set_option linter.unusedSimpArgs false
open Go.ChangeShapes Go.WideShapes Go.ChangeAt Go.RowKit

theorem wpList_build_run {P : Program} {ops : Array Oper} {Q : Exit → Act → World → Prop} {a : Act} {w : World} {rest : List Oper} {o : Oper} (hw : Region.wanted o (yielded ops a.tmps) = true) (t : TypeId) (parts : Array (Nat × Operand)) (ho : o.op = .build t parts)
    (vs : Array (Nat × Value)) (hv : (parts.map fun (i, x) => (i, a.eval x)) = vs) (v : Value) (hrun : (Instr.build t vs).run P w = .ok v w) (h : wpList P ops Q rest (a.put o.dst v) w) : wpList P ops Q (o :: rest) a w := by
  refine BigFrame.wpList_want hw fun K hK => ?_
  unfold Oper.wp
  simp only [execOp, ho, hv, Sem.run_bind, hrun, Result.andThen_ok, Sem.run_pure]
  exact hK _ _ h
/-- a slice of one struct is built. -/
theorem wpList_build1 {P : Program} {ops : Array Oper} {rest : List Oper} {o : Oper} {a : Act} {w : World} {Q : Exit → Act → World → Prop} (hgd : o.guard = none) (t e : TypeId) (x : Operand) (hop : o.op = .buildSlice t 1 #[(0, x)])
    (ie : TypeInfo) (z : Value) (hu : P.underlying t = some (.slice e)) (hie : P.info? e = some ie) (hz : ie.zero = some z) (L : List Value) (hL : ie.size = L.length) (hzs : z.cells.size = L.length) (h0 : 0 < L.length) (h24 : L.length ≤ 16777216)
    (hx : a.eval x = .agg L.toArray) (h : wpList P ops Q rest (a.put o.dst (.slice (some ⟨w.heap.size, 0, none⟩) 1 1)) (w.alloc (.cells L.toArray e))) : wpList P ops Q (o :: rest) a w := by
  refine wpList_plain hgd fun K hK => ?_
  refine wp_buildSlice t e 1 #[(0, x)] hop L.toArray ie z hu hie hz (by rw [hL]; omega) (by rw [hL]; omega) ?_ (hK _ _ h)
  have := Great.fill_whole (s := ie.size) (by omega) [.agg L.toArray] ((Array.range (1 * ie.size)).map (z.cells[· % z.cells.size]!)) (by simp [Value.cells, hL]) (by simp)
  simpa [hx, Value.cells] using this

end Go.Proofs.YtcpomddkehhkkaaDoor
