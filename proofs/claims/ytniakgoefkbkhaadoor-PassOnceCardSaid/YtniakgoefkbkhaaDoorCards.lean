/-
  DERIVED. GIVEN WITH THE SEED: THE CARDS: each row of YtniakgoefkbkhaaDoorRows.lean that lists a variable, with what it lists TIED to the program's text (the seventh form; the later family's looks); each row that meets fmt, with fmt's text TOLD by the authors' own Lean function (tested against real Go, not proved from fmt's source: count such statements apart). THE CARD IS WHAT COUNTS. Prove the row's statement (the work); the ties are given (YtniakgoefkbkhaaDoorTie.lean); close each card by the builder's one call (the guide's Derived/Test/ToyasCard.lean, 'card_holds'). Laid BY PROGRAM, IN A SANDBOX (cutbox-door.mjs). By AI agents, Wed Nov 11 2026. No macro, syntax, notation, axiom, sorry.
-/
import Derived.Test.YtniakgoefkbkhaaDoorRows
import GoSem.ClaimSeven
namespace Go.Proofs.YtniakgoefkbkhaaDoor
namespace Rows

/-- THE TIED CARD OF 'moneyerlaw17.BookRuns'. -/
def bookRunsCard : Claim7 := { stood := { row := bookRunsRow, standIns := [], harness := (true, "83b5c56d89b6c7273afff637100177c35c9a6401aca871321edc7b16c0541b3b"), looks := false }, kinds := [], alts := [], laidByText := true, laidKinds := [.data, .data], laidTests := true, laidLooks := .later }
def BookRunsCardSaid : Prop := Claim7.holds Tryd.pinned (.plain (OpenSpec.ofChange bookRunsSpec)) bookRunsCard

/-- THE TIED CARD OF 'moneyerlaw11.PassOnce'. -/
def passOnceCard : Claim7 := { stood := { row := passOnceRow, standIns := [], harness := (true, "83b5c56d89b6c7273afff637100177c35c9a6401aca871321edc7b16c0541b3b"), looks := false }, kinds := [], alts := [], laidByText := true, laidKinds := [.data, .data], laidTests := true, laidLooks := .later }
def PassOnceCardSaid : Prop := Claim7.holds Tryd.pinned (.plain (OpenSpec.ofChange passOnceSpec)) passOnceCard

/-- THE SECOND FORM's CARD OF 'moneyerlaw17.BookRuns'. -/
def bookRunsUptoCard : Claim7 := { stood := { row := bookRunsUptoRow, standIns := [], harness := (true, "83b5c56d89b6c7273afff637100177c35c9a6401aca871321edc7b16c0541b3b"), looks := false }, kinds := [], alts := [], laidByText := true, laidKinds := [.data, .data], laidTests := true, laidLooks := .later }
def BookRunsUptoCardSaid : Prop := Claim7.holds Tryd.pinned (.plain (OpenSpec.upto bookRunsSpec)) bookRunsUptoCard

/-- THE SECOND FORM's CARD OF 'moneyerlaw11.PassOnce'. -/
def passOnceUptoCard : Claim7 := { stood := { row := passOnceUptoRow, standIns := [], harness := (true, "83b5c56d89b6c7273afff637100177c35c9a6401aca871321edc7b16c0541b3b"), looks := false }, kinds := [], alts := [], laidByText := true, laidKinds := [.data, .data], laidTests := true, laidLooks := .later }
def PassOnceUptoCardSaid : Prop := Claim7.holds Tryd.pinned (.plain (OpenSpec.upto passOnceSpec)) passOnceUptoCard
end Rows
end Go.Proofs.YtniakgoefkbkhaaDoor
