/-
  DERIVED. GIVEN WITH THE SEED: THE CARDS: each row of YtniakgoefkbkhaaGreatDoorRows.lean that lists a variable, with what it lists TIED to the program's text (the seventh form; the later family's looks); each row that meets fmt, with fmt's text TOLD by the authors' own Lean function (tested against real Go, not proved from fmt's source: count such statements apart). THE CARD IS WHAT COUNTS. Prove the row's statement (the work); the ties are given (YtniakgoefkbkhaaGreatDoorTie.lean); close each card by the builder's one call (the guide's Derived/Test/ToyasCard.lean, 'card_holds'). Laid BY PROGRAM, IN A SANDBOX (cutbox-door.mjs). By AI agents, Wed Nov 11 2026. No macro, syntax, notation, axiom, sorry.
-/
import Derived.Test.YtniakgoefkbkhaaGreatDoorRows
import GoSem.ClaimSeven
namespace Go.Proofs.YtniakgoefkbkhaaGreatDoor
namespace Rows

/-- THE TIED CARD OF 'moneyerlaw11.PassSums'. -/
def passSumsCard : Claim7 := { stood := { row := passSumsRow, standIns := [], harness := (true, "33c3ea5d7057c9b8e4febb624be3b222d5c74719019254c2dc546df845a7ad49"), looks := false }, kinds := [], alts := [], laidByText := true, laidKinds := [.data, .data], laidTests := true, laidLooks := .later }
def PassSumsCardSaid : Prop := Claim7.holds Tryz.pinned (.plain (OpenSpec.ofChange passSumsSpec)) passSumsCard

/-- THE TIED CARD OF 'moneyerlaw07.LeafWrites'. -/
def leafWritesCard : Claim7 := { stood := { row := leafWritesRow, standIns := [], harness := (true, "33c3ea5d7057c9b8e4febb624be3b222d5c74719019254c2dc546df845a7ad49"), looks := false }, kinds := [], alts := [], laidByText := true, laidKinds := [.data, .data, .data], laidTests := true, laidLooks := .later }
def LeafWritesCardSaid : Prop := Claim7.holds Tryz.pinned (.plain (OpenSpec.ofChange leafWritesSpec)) leafWritesCard

/-- THE SECOND FORM's CARD OF 'moneyerlaw11.PassSums'. -/
def passSumsUptoCard : Claim7 := { stood := { row := passSumsUptoRow, standIns := [], harness := (true, "33c3ea5d7057c9b8e4febb624be3b222d5c74719019254c2dc546df845a7ad49"), looks := false }, kinds := [], alts := [], laidByText := true, laidKinds := [.data, .data], laidTests := true, laidLooks := .later }
def PassSumsUptoCardSaid : Prop := Claim7.holds Tryz.pinned (.plain (OpenSpec.upto passSumsSpec)) passSumsUptoCard

/-- THE SECOND FORM's CARD OF 'moneyerlaw07.LeafWrites'. -/
def leafWritesUptoCard : Claim7 := { stood := { row := leafWritesUptoRow, standIns := [], harness := (true, "33c3ea5d7057c9b8e4febb624be3b222d5c74719019254c2dc546df845a7ad49"), looks := false }, kinds := [], alts := [], laidByText := true, laidKinds := [.data, .data, .data], laidTests := true, laidLooks := .later }
def LeafWritesUptoCardSaid : Prop := Claim7.holds Tryz.pinned (.plain (OpenSpec.upto leafWritesSpec)) leafWritesUptoCard
end Rows
end Go.Proofs.YtniakgoefkbkhaaGreatDoor
