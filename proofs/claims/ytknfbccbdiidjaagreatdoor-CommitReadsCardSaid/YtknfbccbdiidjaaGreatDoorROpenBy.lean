/- Bytes as an argument. -/
import Derived.Test.YtknfbccbdiidjaaGreatDoorWs
import Derived.Test.YtknfbccbdiidjaaGreatDoorROpenR
import Derived.Test.YtknfbccbdiidjaaGreatDoorRSha7
namespace Go.Proofs.YtknfbccbdiidjaaGreatDoor
set_option linter.unusedVariables false
set_option linter.unusedSimpArgs false
open Go.ChangeShapes Go.WideShapes Go.ChangeAt Go.RowKit Go.Maps

theorem open_bytesC {H : Type} {enc : TypeId × Value → H} {P : Program} {w : World} {base base' : Nat} {spare : Nat → Bool} {held : Bool} {t e : TypeId} {v : Value} {d : DataW H} {p : List MemPlace} {r : Reach}
  (ht : P.underlying t = some (.slice e)) (he : P.underlying e = some (.int .u8)) (h1 : P.cellsOf e = 1) (hv : Value.okWide P w r base' t v) (h : DataW.Trod enc P w base spare held t v d p) :
  ∃ (A : Option Addr) (bs : List Nat) (c : Nat), v = .slice A bs.length c ∧ bs.length ≤ 9223372036854775807 ∧ Bytes w w.heap.size (.slice A bs.length c) bs := by
 obtain ⟨A, n, c, rfl⟩ := okWide_slice ht hv
 obtain ⟨m, hm⟩ := h
 obtain ⟨bs, e1, e2, e3⟩ := open_bytes (z := (d, p)) ht he h1 hm
 subst e1
 exact ⟨A, bs, c, rfl, e2, e3⟩
end Go.Proofs.YtknfbccbdiidjaaGreatDoor

