/- The head of the laws of leaves: the document's example. -/
import Derived.Test.YtniakgoefkbkhaaDoorWs
import Derived.Test.YtniakgoefkbkhaaDoorVLp0
namespace Go.Proofs.YtniakgoefkbkhaaDoor
set_option linter.unusedVariables false
set_option linter.unusedSimpArgs false
open Go.ChangeShapes Go.WideShapes Go.ChangeAt Go.RowKit Go.Maps

def zLf (n : Nat) : LeafT := ⟨List.replicate 32 0, n, List.replicate 32 0, 0, zNd⟩
theorem zLf_ok (n : Nat) (h : n < 18446744073709551616) : (zLf n).ok := ⟨zNd_hash, h, zNd_hash, (by show (-9223372036854775808 : Int) ≤ 0; decide), (by show (0 : Int) ≤ 9223372036854775807; decide), zNd_hash, (by show 0 < 18446744073709551616; decide)⟩
theorem zLf_build (n : Nat) (w : World) : (Instr.build 81 #[(1, .int .u64 (n : Int))]).run Tryd.prog w = .ok (.agg (zLf n).cells.toArray) w := by kernel_rfl
theorem leaf_at0 (b n c : Nat) (hn : 0 < n) (w : World) : (Instr.indexAt 69 (.slice (some ⟨b, 0, none⟩) n c) (.int .i64 0)).run Tryd.prog w = .ok (.pointer (some ⟨b, 0, none⟩)) w := by simpa using at_leaf0 b n c 0 hn w
def hls : List LeafT := [zLf 3, zLf 4]
end Go.Proofs.YtniakgoefkbkhaaDoor

