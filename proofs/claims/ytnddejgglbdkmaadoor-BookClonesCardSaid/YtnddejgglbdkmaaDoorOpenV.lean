/- Structs that come by value: an offer, a step. -/
import Derived.Test.YtnddejgglbdkmaaDoorBook24
import Derived.Lib.SmallJoins
namespace Go.Proofs.YtnddejgglbdkmaaDoor
set_option linter.unusedVariables false
set_option linter.unusedSimpArgs false
open Go.ChangeShapes Go.WideShapes Go.ChangeAt Go.RowKit Go.Maps Go.Joins

section
variable {H : Type} {enc : TypeId × Value → H} {w : World} {base base' : Nat} {spare : Nat → Bool} {held : Bool} {v : Value} {d : DataW H} {p : List MemPlace} {r : Reach}
set_option maxRecDepth 100000 in
theorem open_offV (hv : Value.okWide Tryd.prog w r base' 32 v) (h : DataW.Trod enc Tryd.prog w base spare held 32 v d p) : ∃ o : Off, v = .agg o.cells.toArray ∧ o.ok := by
  obtain ⟨cs, rfl, hs⟩ := okWide_struct Tryd.underlying32 hv
  obtain ⟨fuel, hf⟩ := h
  have hf' : DataW.trod enc Tryd.prog w base spare held fuel 32 cs.toList = some (d, p) := by simpa [Value.cells] using hf
  have hc : Tryd.prog.cellsOf 32 = 68 := by kernel_rfl
  have hl : cs.toList.length = 68 := by rw [Array.length_toList, hs, hc]
  obtain ⟨o, ho, hok⟩ := open_off hf' rfl hl
  exact ⟨o, by rw [← ho], hok⟩
set_option maxRecDepth 100000 in
theorem open_stpV (hv : Value.okWide Tryd.prog w r base' 34 v) (h : DataW.Trod enc Tryd.prog w base spare held 34 v d p) : ∃ s : Stp, v = .agg s.cells.toArray ∧ s.ok := by
  obtain ⟨cs, rfl, hs⟩ := okWide_struct Tryd.underlying34 hv
  obtain ⟨fuel, hf⟩ := h
  have hf' : DataW.trod enc Tryd.prog w base spare held fuel 34 cs.toList = some (d, p) := by simpa [Value.cells] using hf
  have hc : Tryd.prog.cellsOf 34 = 137 := by kernel_rfl
  have hl : cs.toList.length = 137 := by rw [Array.length_toList, hs, hc]
  obtain ⟨s, ho, hok⟩ := open_stp hf' rfl hl
  exact ⟨s, by rw [← ho], hok⟩
end
end Go.Proofs.YtnddejgglbdkmaaDoor
