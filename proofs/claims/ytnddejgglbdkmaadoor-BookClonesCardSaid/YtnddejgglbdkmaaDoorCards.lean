/-
  DERIVED. GIVEN WITH THE SEED: THE CARDS: each row of YtnddejgglbdkmaaDoorRows.lean that lists a variable, with what it lists TIED to the program's text (the seventh form; the later family's looks); each row that meets fmt, with fmt's text TOLD by the authors' own Lean function (tested against real Go, not proved from fmt's source: count such statements apart). THE CARD IS WHAT COUNTS. Prove the row's statement (the work); the ties are given (YtnddejgglbdkmaaDoorTie.lean); close each card by the builder's one call (the guide's Derived/Test/ToyasCard.lean, 'card_holds'). Laid BY PROGRAM, IN A SANDBOX (cutbox-door.mjs). By AI agents, Wed Nov 11 2026. No macro, syntax, notation, axiom, sorry.
-/
import Derived.Test.YtnddejgglbdkmaaDoorRows
import GoSem.ClaimSeven
namespace Go.Proofs.YtnddejgglbdkmaaDoor
namespace Rows

/-- THE TIED CARD OF 'moneyerlaw17.BookSums'. -/
def bookSumsCard : Claim7 := { stood := { row := bookSumsRow, standIns := [], harness := (true, "babba6204bebecdfd7abab8c91506edfb9cab40ce7b40170361586117bd77f31"), looks := false }, kinds := [], alts := [], laidByText := true, laidKinds := [.data, .data], laidTests := true, laidLooks := .later }
def BookSumsCardSaid : Prop := Claim7.holds Tryd.pinned (.plain (OpenSpec.ofChange bookSumsSpec)) bookSumsCard

/-- THE TIED CARD OF 'moneyerlaw17.BookNames'. -/
def bookNamesCard : Claim7 := { stood := { row := bookNamesRow, standIns := [], harness := (true, "babba6204bebecdfd7abab8c91506edfb9cab40ce7b40170361586117bd77f31"), looks := false }, kinds := [], alts := [], laidByText := true, laidKinds := [.data, .data], laidTests := true, laidLooks := .later }
def BookNamesCardSaid : Prop := Claim7.holds Tryd.pinned (.plain (OpenSpec.ofChange bookNamesSpec)) bookNamesCard

/-- THE TIED CARD OF 'moneyerlaw17.BookClones'. -/
def bookClonesCard : Claim7 := { stood := { row := bookClonesRow, standIns := [], harness := (true, "babba6204bebecdfd7abab8c91506edfb9cab40ce7b40170361586117bd77f31"), looks := false }, kinds := [], alts := [], laidByText := true, laidKinds := [.data, .data], laidTests := true, laidLooks := .later }
def BookClonesCardSaid : Prop := Claim7.holds Tryd.pinned (.plain (OpenSpec.ofChange bookClonesSpec)) bookClonesCard

/-- THE TIED CARD OF 'moneyerlaw17.BookBack'. -/
def bookBackCard : Claim7 := { stood := { row := bookBackRow, standIns := [], harness := (true, "babba6204bebecdfd7abab8c91506edfb9cab40ce7b40170361586117bd77f31"), looks := false }, kinds := [], alts := [], laidByText := true, laidKinds := [.data, .data], laidTests := true, laidLooks := .later }
def BookBackCardSaid : Prop := Claim7.holds Tryd.pinned (.plain (OpenSpec.ofChange bookBackSpec)) bookBackCard

/-- THE TIED CARD OF 'moneyerlaw17.BookRuns'. -/
def bookRunsCard : Claim7 := { stood := { row := bookRunsRow, standIns := [], harness := (true, "babba6204bebecdfd7abab8c91506edfb9cab40ce7b40170361586117bd77f31"), looks := false }, kinds := [], alts := [], laidByText := true, laidKinds := [.data, .data], laidTests := true, laidLooks := .later }
def BookRunsCardSaid : Prop := Claim7.holds Tryd.pinned (.plain (OpenSpec.ofChange bookRunsSpec)) bookRunsCard

/-- THE SECOND FORM's CARD OF 'moneyerlaw17.BookSums'. -/
def bookSumsUptoCard : Claim7 := { stood := { row := bookSumsUptoRow, standIns := [], harness := (true, "babba6204bebecdfd7abab8c91506edfb9cab40ce7b40170361586117bd77f31"), looks := false }, kinds := [], alts := [], laidByText := true, laidKinds := [.data, .data], laidTests := true, laidLooks := .later }
def BookSumsUptoCardSaid : Prop := Claim7.holds Tryd.pinned (.plain (OpenSpec.upto bookSumsSpec)) bookSumsUptoCard

/-- THE SECOND FORM's CARD OF 'moneyerlaw17.BookNames'. -/
def bookNamesUptoCard : Claim7 := { stood := { row := bookNamesUptoRow, standIns := [], harness := (true, "babba6204bebecdfd7abab8c91506edfb9cab40ce7b40170361586117bd77f31"), looks := false }, kinds := [], alts := [], laidByText := true, laidKinds := [.data, .data], laidTests := true, laidLooks := .later }
def BookNamesUptoCardSaid : Prop := Claim7.holds Tryd.pinned (.plain (OpenSpec.upto bookNamesSpec)) bookNamesUptoCard

/-- THE SECOND FORM's CARD OF 'moneyerlaw17.BookClones'. -/
def bookClonesUptoCard : Claim7 := { stood := { row := bookClonesUptoRow, standIns := [], harness := (true, "babba6204bebecdfd7abab8c91506edfb9cab40ce7b40170361586117bd77f31"), looks := false }, kinds := [], alts := [], laidByText := true, laidKinds := [.data, .data], laidTests := true, laidLooks := .later }
def BookClonesUptoCardSaid : Prop := Claim7.holds Tryd.pinned (.plain (OpenSpec.upto bookClonesSpec)) bookClonesUptoCard

/-- THE SECOND FORM's CARD OF 'moneyerlaw17.BookBack'. -/
def bookBackUptoCard : Claim7 := { stood := { row := bookBackUptoRow, standIns := [], harness := (true, "babba6204bebecdfd7abab8c91506edfb9cab40ce7b40170361586117bd77f31"), looks := false }, kinds := [], alts := [], laidByText := true, laidKinds := [.data, .data], laidTests := true, laidLooks := .later }
def BookBackUptoCardSaid : Prop := Claim7.holds Tryd.pinned (.plain (OpenSpec.upto bookBackSpec)) bookBackUptoCard

/-- THE SECOND FORM's CARD OF 'moneyerlaw17.BookRuns'. -/
def bookRunsUptoCard : Claim7 := { stood := { row := bookRunsUptoRow, standIns := [], harness := (true, "babba6204bebecdfd7abab8c91506edfb9cab40ce7b40170361586117bd77f31"), looks := false }, kinds := [], alts := [], laidByText := true, laidKinds := [.data, .data], laidTests := true, laidLooks := .later }
def BookRunsUptoCardSaid : Prop := Claim7.holds Tryd.pinned (.plain (OpenSpec.upto bookRunsSpec)) bookRunsUptoCard
end Rows
end Go.Proofs.YtnddejgglbdkmaaDoor
