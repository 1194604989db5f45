/- A key's turn at a height. -/
import Derived.Test.YtngmpcmeebcdmaaDoorBase
namespace Go.Proofs.YtngmpcmeebcdmaaDoor

/-- a key's turn at a height. -/
def bitAt (ks : List Nat) (h : Nat) : Nat := ks.getD (31 - h / 8) 0 / 2 ^ (h % 8) % 2

theorem bitAt_lt (ks : List Nat) (h : Nat) : bitAt ks h < 2 := Nat.mod_lt _ (by omega)
end Go.Proofs.YtngmpcmeebcdmaaDoor
