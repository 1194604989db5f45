/- The walk of leaf's Encode. -/
import Derived.Test.YtniakgoefkbkhaaDoorWs
import Derived.Test.YtniakgoefkbkhaaDoorVLb2
import Derived.Test.YtniakgoefkbkhaaDoorVTv2
namespace Go.Proofs.YtniakgoefkbkhaaDoor
set_option linter.unusedVariables false
set_option linter.unusedSimpArgs false
open Go.ChangeShapes Go.WideShapes Go.ChangeAt Go.RowKit Go.Maps

theorem mid_bytes {w : World} {B o : Nat} {t : TypeId} {cs : Array Value} {l : List Nat} (h : Has w B t cs) (n : Nat) (hn : l.length = n) (hlt : ∀ x ∈ l, x < 256) (hc : ∀ i, i < n → cs[o + i]? = some (.int .u8 (l.getD i 0 : Nat))) : Bytes w w.heap.size (.slice (some ⟨B, o, none⟩) n n) l :=
 ⟨_, _, by rw [hn], by rw [hn]; exact Nat.le_refl _, hlt, fun _ => ⟨B, o, rfl, Nat.ne_of_lt h.lt, fun i hi => h.cell_is (hc i (by omega))⟩⟩
end Go.Proofs.YtniakgoefkbkhaaDoor

