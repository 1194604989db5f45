/- The plain law of a leaf's bytes: back and forth. -/
import Derived.Test.YtniakgoefkbkhaaDoorWs
import Derived.Test.YtniakgoefkbkhaaDoorVTv2
import Derived.Test.YtniakgoefkbkhaaDoorVLf1
namespace Go.Proofs.YtniakgoefkbkhaaDoor
set_option linter.unusedVariables false
set_option linter.unusedSimpArgs false

def plB (l : LeafT) : Nat := (l.pl % 256).toNat
theorem plB_lt (l : LeafT) : plB l < 256 := by unfold plB; omega
end Go.Proofs.YtniakgoefkbkhaaDoor

