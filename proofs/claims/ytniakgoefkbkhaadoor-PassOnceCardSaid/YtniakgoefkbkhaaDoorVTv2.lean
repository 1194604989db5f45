/- The plain law of layer 2: numbers as bytes, records as bytes, and back. -/
import Derived.Test.YtniakgoefkbkhaaDoorWs
import Derived.Test.YtniakgoefkbkhaaDoorVSha7
import Derived.Test.YtniakgoefkbkhaaDoorVGr
namespace Go.Proofs.YtniakgoefkbkhaaDoor
set_option linter.unusedVariables false
set_option linter.unusedSimpArgs false

structure Rec where
 t : Nat
 v : List Nat
end Go.Proofs.YtniakgoefkbkhaaDoor
/- The walk of tlv's Encode. -/
namespace Go.Proofs.YtniakgoefkbkhaaDoor
set_option linter.unusedVariables false
set_option linter.unusedSimpArgs false
open Go.ChangeShapes Go.WideShapes Go.ChangeAt Go.RowKit Go.Maps

structure RecM where
 t : Nat
 a : Option Addr
 v : List Nat
 c : Nat
def RecM.cells (r : RecM) : List Value := [.int .u64 (r.t : Int), .slice r.a r.v.length r.c]
def RecM.r (r : RecM) : Rec := ⟨r.t, r.v⟩
structure RecM.ok (w : World) (r : RecM) : Prop where
 t : r.t < 18446744073709551616
 l : r.v.length ≤ 9223372036854775807
 b : Bytes w w.heap.size (.slice r.a r.v.length r.c) r.v
theorem RecM.ok.below {w w' : World} {r : RecM} (h : r.ok w) (hb : Below w.heap.size w w') : r.ok w' := ⟨h.t, h.l, h.b.alive hb hb.size⟩
structure RecsAt (w : World) (A : Option Addr) (n : Nat) (xs : List RecM) : Prop where
 row : RowsAt RecM.cells 2 w A n xs
 ok : ∀ x ∈ xs, x.ok w
theorem RecsAt.below {w w' : World} {A : Option Addr} {n : Nat} {xs : List RecM} (h : RecsAt w A n xs) (hb : Below w.heap.size w w') : RecsAt w' A n xs := ⟨h.row.below hb, fun x hx => (h.ok x hx).below hb⟩
end Go.Proofs.YtniakgoefkbkhaaDoor
