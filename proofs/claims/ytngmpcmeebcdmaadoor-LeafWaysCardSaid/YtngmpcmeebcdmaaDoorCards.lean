/-
  DERIVED. GIVEN WITH THE SEED: THE CARDS: each row of YtngmpcmeebcdmaaDoorRows.lean that lists a variable, with what it lists TIED to the program's text (the seventh form; the later family's looks); each row that meets fmt, with fmt's text TOLD by the authors' own Lean function (tested against real Go, not proved from fmt's source: count such statements apart). THE CARD IS WHAT COUNTS. Prove the row's statement (the work); the ties are given (YtngmpcmeebcdmaaDoorTie.lean); close each card by the builder's one call (the guide's Derived/Test/ToyasCard.lean, 'card_holds'). Laid BY PROGRAM, IN A SANDBOX (cutbox-door.mjs). By AI agents, Wed Nov 11 2026. No macro, syntax, notation, axiom, sorry.
-/
import Derived.Test.YtngmpcmeebcdmaaDoorRows
import GoSem.ClaimSeven
namespace Go.Proofs.YtngmpcmeebcdmaaDoor
namespace Rows

/-- THE TIED CARD OF 'moneyerlaw04.MsumRuns'. -/
def msumRunsCard : Claim7 := { stood := { row := msumRunsRow, standIns := [], harness := (true, "0a0795dc1ad5c23d55027e58caf8642ba7b2e3b7609ed789ad461dd5b199fe25"), looks := false }, kinds := [], alts := [], laidByText := true, laidKinds := [.data, .data], laidTests := true, laidLooks := .later }
def MsumRunsCardSaid : Prop := Claim7.holds Tryd.pinned (.plain (OpenSpec.ofChange msumRunsSpec)) msumRunsCard

/-- THE TIED CARD OF 'moneyerlaw05.ProofRoots'. -/
def proofRootsCard : Claim7 := { stood := { row := proofRootsRow, standIns := [], harness := (true, "0a0795dc1ad5c23d55027e58caf8642ba7b2e3b7609ed789ad461dd5b199fe25"), looks := false }, kinds := [], alts := [], laidByText := true, laidKinds := [.data, .data], laidTests := true, laidLooks := .later }
def ProofRootsCardSaid : Prop := Claim7.holds Tryd.pinned (.plain (OpenSpec.ofChange proofRootsSpec)) proofRootsCard

/-- THE TIED CARD OF 'moneyerlaw05.ProofSums'. -/
def proofSumsCard : Claim7 := { stood := { row := proofSumsRow, standIns := [], harness := (true, "0a0795dc1ad5c23d55027e58caf8642ba7b2e3b7609ed789ad461dd5b199fe25"), looks := false }, kinds := [], alts := [], laidByText := true, laidKinds := [.data, .data], laidTests := true, laidLooks := .later }
def ProofSumsCardSaid : Prop := Claim7.holds Tryd.pinned (.plain (OpenSpec.ofChange proofSumsSpec)) proofSumsCard

/-- THE TIED CARD OF 'moneyerlaw05.ProofMakes'. -/
def proofMakesCard : Claim7 := { stood := { row := proofMakesRow, standIns := [], harness := (true, "0a0795dc1ad5c23d55027e58caf8642ba7b2e3b7609ed789ad461dd5b199fe25"), looks := false }, kinds := [], alts := [], laidByText := true, laidKinds := [.data, .data], laidTests := true, laidLooks := .later }
def ProofMakesCardSaid : Prop := Claim7.holds Tryd.pinned (.plain (OpenSpec.ofChange proofMakesSpec)) proofMakesCard

/-- THE TIED CARD OF 'moneyerlaw05.ProofOnly'. -/
def proofOnlyCard : Claim7 := { stood := { row := proofOnlyRow, standIns := [], harness := (true, "0a0795dc1ad5c23d55027e58caf8642ba7b2e3b7609ed789ad461dd5b199fe25"), looks := false }, kinds := [], alts := [], laidByText := true, laidKinds := [.data, .data], laidTests := true, laidLooks := .later }
def ProofOnlyCardSaid : Prop := Claim7.holds Tryd.pinned (.plain (OpenSpec.ofChange proofOnlySpec)) proofOnlyCard

/-- THE TIED CARD OF 'moneyerlaw05.ProofWrites'. -/
def proofWritesCard : Claim7 := { stood := { row := proofWritesRow, standIns := [], harness := (true, "0a0795dc1ad5c23d55027e58caf8642ba7b2e3b7609ed789ad461dd5b199fe25"), looks := false }, kinds := [], alts := [], laidByText := true, laidKinds := [.data, .data], laidTests := true, laidLooks := .later }
def ProofWritesCardSaid : Prop := Claim7.holds Tryd.pinned (.plain (OpenSpec.ofChange proofWritesSpec)) proofWritesCard

/-- THE TIED CARD OF 'moneyerlaw05.ProofReads'. -/
def proofReadsCard : Claim7 := { stood := { row := proofReadsRow, standIns := [], harness := (true, "0a0795dc1ad5c23d55027e58caf8642ba7b2e3b7609ed789ad461dd5b199fe25"), looks := false }, kinds := [], alts := [], laidByText := true, laidKinds := [.data, .data], laidTests := true, laidLooks := .later }
def ProofReadsCardSaid : Prop := Claim7.holds Tryd.pinned (.plain (OpenSpec.ofChange proofReadsSpec)) proofReadsCard

/-- THE TIED CARD OF 'moneyerlaw07.LeafWays'. -/
def leafWaysCard : Claim7 := { stood := { row := leafWaysRow, standIns := [], harness := (true, "0a0795dc1ad5c23d55027e58caf8642ba7b2e3b7609ed789ad461dd5b199fe25"), looks := false }, kinds := [], alts := [], laidByText := true, laidKinds := [.data, .data], laidTests := true, laidLooks := .later }
def LeafWaysCardSaid : Prop := Claim7.holds Tryd.pinned (.plain (OpenSpec.ofChange leafWaysSpec)) leafWaysCard

/-- THE TIED CARD OF 'moneyerlaw07.LeafAlone'. -/
def leafAloneCard : Claim7 := { stood := { row := leafAloneRow, standIns := [], harness := (true, "0a0795dc1ad5c23d55027e58caf8642ba7b2e3b7609ed789ad461dd5b199fe25"), looks := false }, kinds := [], alts := [], laidByText := true, laidKinds := [.data, .data], laidTests := true, laidLooks := .later }
def LeafAloneCardSaid : Prop := Claim7.holds Tryd.pinned (.plain (OpenSpec.ofChange leafAloneSpec)) leafAloneCard

/-- THE TIED CARD OF 'moneyerlaw07.LeafPlaces'. -/
def leafPlacesCard : Claim7 := { stood := { row := leafPlacesRow, standIns := [], harness := (true, "0a0795dc1ad5c23d55027e58caf8642ba7b2e3b7609ed789ad461dd5b199fe25"), looks := false }, kinds := [], alts := [], laidByText := true, laidKinds := [.data, .data], laidTests := true, laidLooks := .later }
def LeafPlacesCardSaid : Prop := Claim7.holds Tryd.pinned (.plain (OpenSpec.ofChange leafPlacesSpec)) leafPlacesCard

/-- THE SECOND FORM's CARD OF 'moneyerlaw04.MsumRuns'. -/
def msumRunsUptoCard : Claim7 := { stood := { row := msumRunsUptoRow, standIns := [], harness := (true, "0a0795dc1ad5c23d55027e58caf8642ba7b2e3b7609ed789ad461dd5b199fe25"), looks := false }, kinds := [], alts := [], laidByText := true, laidKinds := [.data, .data], laidTests := true, laidLooks := .later }
def MsumRunsUptoCardSaid : Prop := Claim7.holds Tryd.pinned (.plain (OpenSpec.upto msumRunsSpec)) msumRunsUptoCard

/-- THE SECOND FORM's CARD OF 'moneyerlaw05.ProofRoots'. -/
def proofRootsUptoCard : Claim7 := { stood := { row := proofRootsUptoRow, standIns := [], harness := (true, "0a0795dc1ad5c23d55027e58caf8642ba7b2e3b7609ed789ad461dd5b199fe25"), looks := false }, kinds := [], alts := [], laidByText := true, laidKinds := [.data, .data], laidTests := true, laidLooks := .later }
def ProofRootsUptoCardSaid : Prop := Claim7.holds Tryd.pinned (.plain (OpenSpec.upto proofRootsSpec)) proofRootsUptoCard

/-- THE SECOND FORM's CARD OF 'moneyerlaw05.ProofSums'. -/
def proofSumsUptoCard : Claim7 := { stood := { row := proofSumsUptoRow, standIns := [], harness := (true, "0a0795dc1ad5c23d55027e58caf8642ba7b2e3b7609ed789ad461dd5b199fe25"), looks := false }, kinds := [], alts := [], laidByText := true, laidKinds := [.data, .data], laidTests := true, laidLooks := .later }
def ProofSumsUptoCardSaid : Prop := Claim7.holds Tryd.pinned (.plain (OpenSpec.upto proofSumsSpec)) proofSumsUptoCard

/-- THE SECOND FORM's CARD OF 'moneyerlaw05.ProofMakes'. -/
def proofMakesUptoCard : Claim7 := { stood := { row := proofMakesUptoRow, standIns := [], harness := (true, "0a0795dc1ad5c23d55027e58caf8642ba7b2e3b7609ed789ad461dd5b199fe25"), looks := false }, kinds := [], alts := [], laidByText := true, laidKinds := [.data, .data], laidTests := true, laidLooks := .later }
def ProofMakesUptoCardSaid : Prop := Claim7.holds Tryd.pinned (.plain (OpenSpec.upto proofMakesSpec)) proofMakesUptoCard

/-- THE SECOND FORM's CARD OF 'moneyerlaw05.ProofOnly'. -/
def proofOnlyUptoCard : Claim7 := { stood := { row := proofOnlyUptoRow, standIns := [], harness := (true, "0a0795dc1ad5c23d55027e58caf8642ba7b2e3b7609ed789ad461dd5b199fe25"), looks := false }, kinds := [], alts := [], laidByText := true, laidKinds := [.data, .data], laidTests := true, laidLooks := .later }
def ProofOnlyUptoCardSaid : Prop := Claim7.holds Tryd.pinned (.plain (OpenSpec.upto proofOnlySpec)) proofOnlyUptoCard

/-- THE SECOND FORM's CARD OF 'moneyerlaw05.ProofWrites'. -/
def proofWritesUptoCard : Claim7 := { stood := { row := proofWritesUptoRow, standIns := [], harness := (true, "0a0795dc1ad5c23d55027e58caf8642ba7b2e3b7609ed789ad461dd5b199fe25"), looks := false }, kinds := [], alts := [], laidByText := true, laidKinds := [.data, .data], laidTests := true, laidLooks := .later }
def ProofWritesUptoCardSaid : Prop := Claim7.holds Tryd.pinned (.plain (OpenSpec.upto proofWritesSpec)) proofWritesUptoCard

/-- THE SECOND FORM's CARD OF 'moneyerlaw05.ProofReads'. -/
def proofReadsUptoCard : Claim7 := { stood := { row := proofReadsUptoRow, standIns := [], harness := (true, "0a0795dc1ad5c23d55027e58caf8642ba7b2e3b7609ed789ad461dd5b199fe25"), looks := false }, kinds := [], alts := [], laidByText := true, laidKinds := [.data, .data], laidTests := true, laidLooks := .later }
def ProofReadsUptoCardSaid : Prop := Claim7.holds Tryd.pinned (.plain (OpenSpec.upto proofReadsSpec)) proofReadsUptoCard

/-- THE SECOND FORM's CARD OF 'moneyerlaw07.LeafWays'. -/
def leafWaysUptoCard : Claim7 := { stood := { row := leafWaysUptoRow, standIns := [], harness := (true, "0a0795dc1ad5c23d55027e58caf8642ba7b2e3b7609ed789ad461dd5b199fe25"), looks := false }, kinds := [], alts := [], laidByText := true, laidKinds := [.data, .data], laidTests := true, laidLooks := .later }
def LeafWaysUptoCardSaid : Prop := Claim7.holds Tryd.pinned (.plain (OpenSpec.upto leafWaysSpec)) leafWaysUptoCard

/-- THE SECOND FORM's CARD OF 'moneyerlaw07.LeafAlone'. -/
def leafAloneUptoCard : Claim7 := { stood := { row := leafAloneUptoRow, standIns := [], harness := (true, "0a0795dc1ad5c23d55027e58caf8642ba7b2e3b7609ed789ad461dd5b199fe25"), looks := false }, kinds := [], alts := [], laidByText := true, laidKinds := [.data, .data], laidTests := true, laidLooks := .later }
def LeafAloneUptoCardSaid : Prop := Claim7.holds Tryd.pinned (.plain (OpenSpec.upto leafAloneSpec)) leafAloneUptoCard

/-- THE SECOND FORM's CARD OF 'moneyerlaw07.LeafPlaces'. -/
def leafPlacesUptoCard : Claim7 := { stood := { row := leafPlacesUptoRow, standIns := [], harness := (true, "0a0795dc1ad5c23d55027e58caf8642ba7b2e3b7609ed789ad461dd5b199fe25"), looks := false }, kinds := [], alts := [], laidByText := true, laidKinds := [.data, .data], laidTests := true, laidLooks := .later }
def LeafPlacesUptoCardSaid : Prop := Claim7.holds Tryd.pinned (.plain (OpenSpec.upto leafPlacesSpec)) leafPlacesUptoCard
end Rows
end Go.Proofs.YtngmpcmeebcdmaaDoor
