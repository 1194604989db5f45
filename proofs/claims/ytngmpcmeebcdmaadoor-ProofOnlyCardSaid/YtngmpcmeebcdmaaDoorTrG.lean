/- Get and Drop of a tree, for callers. -/
import Derived.Test.YtngmpcmeebcdmaaDoorTree15
import Derived.Test.YtngmpcmeebcdmaaDoorRnEq
import Derived.Deep.WholeRow
import Derived.Deep.CutBlock
import Derived.DeepKeys
import Derived.ChangeKeysEq
import Derived.Laws.StructEq
namespace Go.Proofs.YtngmpcmeebcdmaaDoor
set_option linter.unusedVariables false
set_option linter.unusedSimpArgs false
open Go.ChangeShapes Go.WideShapes Go.ChangeAt Go.RowKit Go.Maps

section
variable {K s0 : List Wd} {S : Nat → Prop} {w : World} {g : Nat} {T : List Lf}
theorem tr_get (h : Tr K s0 S w g T) (k : List Nat) (hk : IsHash k) :
    Calls Tryd.prog 22 #[.pointer (some ⟨g, 0, none⟩), arr k] w fun e w' => ∃ v', e = .returned (.tuple #[leafV v' (wasS T k), .bool (findT T k).isSome]) ∧ RowB (fun j => w.heap.size ≤ j) w' v' (valT T k) ∧ Below w.heap.size w w' := by
  obtain ⟨m, es, h⟩ := h
  exact get_is w h k hk
theorem tr_drop (h : Tr K s0 S w g T) (hl8 : s0.length = 8) (k : List Nat) (hk : IsHash k) :
    Calls Tryd.prog 21 #[.pointer (some ⟨g, 0, none⟩), arr k] w fun e w' => e = .returned (.bool (findT T k).isSome) ∧ Tr K s0 S w' g (dropT T k) ∧ Kept S w w' := by
  obtain ⟨m, es, h⟩ := h
  exact (drop_is w h hl8 k hk).mono fun e w' ⟨h1, ⟨es', h2⟩, h3⟩ => ⟨h1, ⟨m, es', h2⟩, h3.mono fun k _ e => e.elim (fun e => e ▸ h.zg) (fun e => e ▸ h.zm)⟩
end
end Go.Proofs.YtngmpcmeebcdmaaDoor
