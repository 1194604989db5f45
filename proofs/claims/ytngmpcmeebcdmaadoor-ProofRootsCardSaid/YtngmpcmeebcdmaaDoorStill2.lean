/- Arms for the walk: a struct or an array is built by a run that is known; a slice of one struct is built. -/
import Derived.Test.YtngmpcmeebcdmaaDoorMem
import Derived.Great.BuildSlice
import Derived.Great.FillDense
import Derived.Test.YtngmpcmeebcdmaaDoorStill
import Derived.Lib.Hide
namespace Go.Proofs.YtngmpcmeebcdmaaDoor
set_option linter.unusedVariables false
set_option linter.unusedSimpArgs false
open Go.ChangeShapes Go.WideShapes Go.ChangeAt Go.RowKit

theorem wpList_build_run {P : Program} {ops : Array Oper} {Q : Exit → Act → World → Prop} {a : Act} {w : World} {rest : List Oper} {o : Oper} (hw : Region.wanted o (yielded ops a.tmps) = true) (t : TypeId) (parts : Array (Nat × Operand)) (ho : o.op = .build t parts)
    (vs : Array (Nat × Value)) (hv : (parts.map fun (i, x) => (i, a.eval x)) = vs) (v : Value) (hrun : (Instr.build t vs).run P w = .ok v w) (h : wpList P ops Q rest (a.put o.dst v) w) : wpList P ops Q (o :: rest) a w := by
  refine BigFrame.wpList_want hw fun K hK => ?_
  unfold Oper.wp
  simp only [execOp, ho, hv, Sem.run_bind, hrun, Result.andThen_ok, Sem.run_pure]
  exact hK _ _ h
/-- a slice of one struct is built. -/
theorem wpList_build1 {P : Program} {ops : Array Oper} {rest : List Oper} {o : Oper} {a : Act} {w : World} {Q : Exit → Act → World → Prop} (hgd : o.guard = none) (t e : TypeId) (x : Operand) (hop : o.op = .buildSlice t 1 #[(0, x)])
    (ie : TypeInfo) (z : Value) (hu : P.underlying t = some (.slice e)) (hie : P.info? e = some ie) (hz : ie.zero = some z) (L : List Value) (hL : ie.size = L.length) (hzs : z.cells.size = L.length) (h0 : 0 < L.length) (h24 : L.length ≤ 16777216)
    (hx : a.eval x = .agg L.toArray) (h : wpList P ops Q rest (a.put o.dst (.slice (some ⟨w.heap.size, 0, none⟩) 1 1)) (w.alloc (.cells L.toArray e))) : wpList P ops Q (o :: rest) a w := by
  refine wpList_plain hgd fun K hK => ?_
  refine wp_buildSlice t e 1 #[(0, x)] hop L.toArray ie z hu hie hz (by rw [hL]; omega) (by rw [hL]; omega) ?_ (hK _ _ h)
  have := Great.fill_whole (s := ie.size) (by omega) [.agg L.toArray] ((Array.range (1 * ie.size)).map (z.cells[· % z.cells.size]!)) (by simp [Value.cells, hL]) (by simp)
  simpa [hx, Value.cells] using this

end Go.Proofs.YtngmpcmeebcdmaaDoor

/- Single operations of a region that draws and only reads. -/
namespace Go.Proofs.YtngmpcmeebcdmaaDoor
set_option linter.unusedVariables false
set_option linter.unusedSimpArgs false
open Go.ChangeShapes Go.WideShapes Go.ChangeAt Go.RowKit

/-- a statement that is not laid open by reckoning. -/
structure Boxed (p : Prop) : Prop where
  out : p

section
variable {P : Program} {w : World} {ops : Array Oper} {rest : List Oper} {o : Oper} {a : Act} {Q : Act → Prop}
/-- an operation whose guard is not met. (The walk is kept hidden: Lean would else reckon all that is skipped, again and again.) -/
theorem stillH_skip (hw : Region.wanted o (yielded ops a.tmps) = false) (h : Boxed (wpStill P ops w Q rest (a.put o.dst undef))) : Boxed (wpStill P ops w Q (o :: rest) a) :=
  Boxed.mk (wpStill_step fun K hK => by rw [if_neg (by rw [hw]; exact Bool.false_ne_true)]; exact hK _ h.out)
/-- a value handed on. -/
theorem stillH_move (x : Operand) (ho : o.op = .move x) (hw : Region.wanted o (yielded ops a.tmps) = true) (v : Value) (hv : a.eval x = v) (h : Boxed (wpStill P ops w Q rest (a.put o.dst v))) : Boxed (wpStill P ops w Q (o :: rest) a) := by
  refine Boxed.mk (wpStill_step fun K hK => ?_)
  rw [if_pos hw]
  subst hv
  simp only [Oper.still, execOp, ho, Sem.run_pure]; rw [Oper.stillUpon_value]; exact hK _ h.out
theorem stillH_assign (x : Operand) (ho : o.op = .assign x) (hw : Region.wanted o (yielded ops a.tmps) = true) (v : Value) (hv : a.eval x = v) (h : Boxed (wpStill P ops w Q rest (a.put o.dst v))) : Boxed (wpStill P ops w Q (o :: rest) a) := by
  refine Boxed.mk (wpStill_step fun K hK => ?_)
  rw [if_pos hw]
  subst hv
  simp only [Oper.still, execOp, ho, Sem.run_pure]; rw [Oper.stillUpon_value]; exact hK _ h.out
/-- a choice. -/
theorem stillH_pick (c x y : Operand) (ho : o.op = .pick c x y) (hw : Region.wanted o (yielded ops a.tmps) = true) (b : Bool) (hc : a.eval c = .bool b) (v : Value) (hv : (if b then a.eval x else a.eval y) = v) (h : Boxed (wpStill P ops w Q rest (a.put o.dst v))) : Boxed (wpStill P ops w Q (o :: rest) a) := by
  refine Boxed.mk (wpStill_step fun K hK => ?_)
  rw [if_pos hw]
  subst hv
  unfold Oper.still
  cases b
  · simp only [execOp, ho, hc]
    simp [asBool, Oper.stillUpon_value]
    exact hK _ h.out
  · simp only [execOp, ho, hc]
    simp [asBool, Oper.stillUpon_value]
    exact hK _ h.out
theorem stillH_nil (h : Q a) : Boxed (wpStill P ops w Q [] a) := Boxed.mk (wpStill_nil h)
end
/-- a slice of one struct is built, in a region that draws. -/
theorem step_build1 {P : Program} {ops : Array Oper} {o : Oper} {a : Act} {w : World} {K : Act → World → Prop} {Q : Exit → Act → World → Prop} {E : Prop} (hgd : o.guard = none) (t e : TypeId) (x : Operand) (hop : o.op = .buildSlice t 1 #[(0, x)])
    (ie : TypeInfo) (z : Value) (hu : P.underlying t = some (.slice e)) (hie : P.info? e = some ie) (hz : ie.zero = some z) (L : List Value) (hL : ie.size = L.length) (hzs : z.cells.size = L.length) (h0 : 0 < L.length) (h24 : L.length ≤ 16777216)
    (hx : a.eval x = .agg L.toArray) (h : K (a.put o.dst (.slice (some ⟨w.heap.size, 0, none⟩) 1 1)) (w.alloc (.cells L.toArray e))) :
    if Region.wanted o (yielded ops a.tmps) = true then Oper.wp P o a w K Q else E := by
  have hw : Region.wanted o (yielded ops a.tmps) = true := by simp [Region.wanted, hgd]
  rw [if_pos hw]
  refine wp_buildSlice t e 1 #[(0, x)] hop L.toArray ie z hu hie hz (by rw [hL]; omega) (by rw [hL]; omega) ?_ h
  have := Great.fill_whole (s := ie.size) (by omega) [.agg L.toArray] ((Array.range (1 * ie.size)).map (z.cells[· % z.cells.size]!)) (by simp [Value.cells, hL]) (by simp)
  simpa [hx, Value.cells] using this
end Go.Proofs.YtngmpcmeebcdmaaDoor
