/-
  DERIVED. GIVEN WITH THE SEED: THE CARDS: each row of YtcekammjpghjnaaDoorRows.lean that lists a variable, with what it lists TIED to the program's text (the seventh form; the later family's looks); each row that meets fmt, with fmt's text TOLD by the authors' own Lean function (tested against real Go, not proved from fmt's source: count such statements apart). THE CARD IS WHAT COUNTS. Prove the row's statement (the work); the ties are given (YtcekammjpghjnaaDoorTie.lean); close each card by the builder's one call (the guide's Derived/Test/ToyasCard.lean, 'card_holds'). Laid BY PROGRAM, IN A SANDBOX (cutbox-door.mjs). By AI agents, Wed Nov 11 2026. No macro, syntax, notation, axiom, sorry.
-/
import Derived.Test.YtcekammjpghjnaaDoorRows
import GoSem.ClaimSeven
namespace Go.Proofs.YtcekammjpghjnaaDoor
namespace Rows

/-- THE TIED CARD OF 'moneyerlaw17.BookRuns'. -/
def bookRunsCard : Claim7 := { stood := { row := bookRunsRow, standIns := [], harness := (true, "d58e18d34f081e6552ff8a8f85553da7212d5014bc2b3dfc7badc41abf7d26e5"), looks := false }, kinds := [], alts := [], laidByText := true, laidKinds := [.data, .data], laidTests := true, laidLooks := .later }
def BookRunsCardSaid : Prop := Claim7.holds Tryd.pinned (.plain (OpenSpec.ofChange bookRunsSpec)) bookRunsCard

/-- THE SECOND FORM's CARD OF 'moneyerlaw17.BookRuns'. -/
def bookRunsUptoCard : Claim7 := { stood := { row := bookRunsUptoRow, standIns := [], harness := (true, "d58e18d34f081e6552ff8a8f85553da7212d5014bc2b3dfc7badc41abf7d26e5"), looks := false }, kinds := [], alts := [], laidByText := true, laidKinds := [.data, .data], laidTests := true, laidLooks := .later }
def BookRunsUptoCardSaid : Prop := Claim7.holds Tryd.pinned (.plain (OpenSpec.upto bookRunsSpec)) bookRunsUptoCard
end Rows
end Go.Proofs.YtcekammjpghjnaaDoor
