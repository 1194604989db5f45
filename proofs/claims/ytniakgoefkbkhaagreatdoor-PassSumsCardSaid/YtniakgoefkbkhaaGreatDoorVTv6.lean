/- The plain law of layer 2: numbers as bytes, records as bytes, and back. -/
import Derived.Test.YtniakgoefkbkhaaGreatDoorWs
import Derived.Test.YtniakgoefkbkhaaGreatDoorVSha7
import Derived.Test.YtniakgoefkbkhaaGreatDoorVGr
namespace Go.Proofs.YtniakgoefkbkhaaGreatDoor
set_option linter.unusedVariables false
set_option linter.unusedSimpArgs false

def numB (l : List Nat) : Nat := l.foldl (fun a b => a * 256 + b) 0
structure Rec where
 t : Nat
 v : List Nat
end Go.Proofs.YtniakgoefkbkhaaGreatDoor
/- The walk of tlv's Encode. -/
namespace Go.Proofs.YtniakgoefkbkhaaGreatDoor
set_option linter.unusedVariables false
set_option linter.unusedSimpArgs false
open Go.ChangeShapes Go.WideShapes Go.ChangeAt Go.RowKit Go.Maps

structure RecM where
 t : Nat
 a : Option Addr
 v : List Nat
 c : Nat
def RecM.cells (r : RecM) : List Value := [.int .u64 (r.t : Int), .slice r.a r.v.length r.c]
def RecM.r (r : RecM) : Rec := ⟨r.t, r.v⟩
structure RecM.ok (w : World) (r : RecM) : Prop where
 t : r.t < 18446744073709551616
 l : r.v.length ≤ 9223372036854775807
 b : Bytes w w.heap.size (.slice r.a r.v.length r.c) r.v
theorem RecM.ok.below {w w' : World} {r : RecM} (h : r.ok w) (hb : Below w.heap.size w w') : r.ok w' := ⟨h.t, h.l, h.b.alive hb hb.size⟩
structure RecsAt (w : World) (A : Option Addr) (n : Nat) (xs : List RecM) : Prop where
 row : RowsAt RecM.cells 2 w A n xs
 ok : ∀ x ∈ xs, x.ok w
theorem RecsAt.below {w w' : World} {A : Option Addr} {n : Nat} {xs : List RecM} (h : RecsAt w A n xs) (hb : Below w.heap.size w w') : RecsAt w' A n xs := ⟨h.row.below hb, fun x hx => (h.ok x hx).below hb⟩
end Go.Proofs.YtniakgoefkbkhaaGreatDoor
/- The walk of tlv's Read. -/
namespace Go.Proofs.YtniakgoefkbkhaaGreatDoor
set_option linter.unusedVariables false
set_option linter.unusedSimpArgs false
open Go.ChangeShapes Go.WideShapes Go.ChangeAt Go.RowKit Go.Maps

def rdW (c : Nat) : Nat := if c = 253 then 2 else if c = 254 then 4 else if c = 255 then 8 else 0
def rdL (n : Nat) : Nat := if n = 2 then 253 else if n = 4 then 65536 else 4294967296
def rdB (b : List Nat) : Except Nat (Nat × Nat) :=
 match b with
 | [] => .error 20
 | c :: r => if rdW c = 0 then .ok (c, 1) else if r.length < rdW c then .error 20 else if numB (r.take (rdW c)) < rdL (rdW c) then .error 21 else .ok (numB (r.take (rdW c)), rdW c + 1)
end Go.Proofs.YtniakgoefkbkhaaGreatDoor
/- The plain law of decoding: records, back and forth. -/
namespace Go.Proofs.YtniakgoefkbkhaaGreatDoor
set_option linter.unusedVariables false
set_option linter.unusedSimpArgs false

def lastT (acc : List Rec) : Nat := (acc[acc.length - 1]?.map (·.t)).getD 0
def decS (acc : List Rec) (b : List Nat) : Except Nat (List Rec × List Nat) :=
 match rdB b with
 | .error e => .error e
 | .ok p => if 0 < acc.length ∧ p.1 ≤ lastT acc then .error 22 else
  match rdB (b.drop p.2) with
  | .error e => .error e
  | .ok q => if 65536 < q.1 then .error 3 else if ((b.drop p.2).drop q.2).length < q.1 then .error 20 else if acc.length = 256 then .error 4
   else .ok (acc ++ [⟨p.1, ((b.drop p.2).drop q.2).take q.1⟩], ((b.drop p.2).drop q.2).drop q.1)
def decF : Nat → List Rec → List Nat → Except Nat (List Rec)
 | 0, _, _ => .error 0
 | f + 1, acc, b => if b = [] then .ok acc else match decS acc b with
  | .error e => .error e
  | .ok p => decF f p.1 p.2
def tdec (b : List Nat) : Except Nat (List Rec) := decF (b.length + 1) [] b
end Go.Proofs.YtniakgoefkbkhaaGreatDoor
/- The walk of tlv's Decode. -/
namespace Go.Proofs.YtniakgoefkbkhaaGreatDoor
set_option linter.unusedVariables false
set_option linter.unusedSimpArgs false
open Go.ChangeShapes Go.WideShapes Go.ChangeAt Go.RowKit Go.Maps

theorem decF_stop {f : Nat} {acc : List Rec} {b : List Nat} (h : b = []) : decF (f + 1) acc b = .ok acc := by
 unfold decF
 rw [if_pos h]
end Go.Proofs.YtniakgoefkbkhaaGreatDoor
