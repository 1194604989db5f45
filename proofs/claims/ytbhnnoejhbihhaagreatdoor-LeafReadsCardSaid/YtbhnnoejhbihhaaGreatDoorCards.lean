/-
  DERIVED. GIVEN WITH THE SEED: THE CARDS: each row of YtbhnnoejhbihhaaGreatDoorRows.lean that lists a variable, with what it lists TIED to the program's text (the seventh form; the later family's looks); each row that meets fmt, with fmt's text TOLD by the authors' own Lean function (tested against real Go, not proved from fmt's source: count such statements apart). THE CARD IS WHAT COUNTS. Prove the row's statement (the work); the ties are given (YtbhnnoejhbihhaaGreatDoorTie.lean); close each card by the builder's one call (the guide's Derived/Test/ToyasCard.lean, 'card_holds'). Laid BY PROGRAM, IN A SANDBOX (cutbox-door.mjs). By AI agents, Wed Nov 11 2026. No macro, syntax, notation, axiom, sorry.
-/
import Derived.Test.YtbhnnoejhbihhaaGreatDoorRows
import GoSem.ClaimSeven
namespace Go.Proofs.YtbhnnoejhbihhaaGreatDoor
namespace Rows

/-- THE TIED CARD OF 'moneyerlaw07.LeafReads'. -/
def leafReadsCard : Claim7 := { stood := { row := leafReadsRow, standIns := [], harness := (true, "158522fc8d7383550562e1c47712411dc112196078794a549a107b22be099f81"), looks := false }, kinds := [], alts := [], laidByText := true, laidKinds := [.data, .data, .data], laidTests := true, laidLooks := .later }
def LeafReadsCardSaid : Prop := Claim7.holds Tryz.pinned (.plain (OpenSpec.ofChange leafReadsSpec)) leafReadsCard

/-- THE TIED CARD OF 'moneyerlaw07.LeafWrites'. -/
def leafWritesCard : Claim7 := { stood := { row := leafWritesRow, standIns := [], harness := (true, "158522fc8d7383550562e1c47712411dc112196078794a549a107b22be099f81"), looks := false }, kinds := [], alts := [], laidByText := true, laidKinds := [.data, .data, .data], laidTests := true, laidLooks := .later }
def LeafWritesCardSaid : Prop := Claim7.holds Tryz.pinned (.plain (OpenSpec.ofChange leafWritesSpec)) leafWritesCard

/-- THE TIED CARD OF 'moneyerlaw11.PassSums'. -/
def passSumsCard : Claim7 := { stood := { row := passSumsRow, standIns := [], harness := (true, "158522fc8d7383550562e1c47712411dc112196078794a549a107b22be099f81"), looks := false }, kinds := [], alts := [], laidByText := true, laidKinds := [.data, .data], laidTests := true, laidLooks := .later }
def PassSumsCardSaid : Prop := Claim7.holds Tryz.pinned (.plain (OpenSpec.ofChange passSumsSpec)) passSumsCard

/-- THE TIED CARD OF 'moneyerlaw08.CommitOrders'. -/
def commitOrdersCard : Claim7 := { stood := { row := commitOrdersRow, standIns := [], harness := (true, "158522fc8d7383550562e1c47712411dc112196078794a549a107b22be099f81"), looks := false }, kinds := [], alts := [], laidByText := true, laidKinds := [.data, .data], laidTests := true, laidLooks := .later }
def CommitOrdersCardSaid : Prop := Claim7.holds Tryz.pinned (.plain (OpenSpec.ofChange commitOrdersSpec)) commitOrdersCard

/-- THE TIED CARD OF 'moneyerlaw08.CommitLeads'. -/
def commitLeadsCard : Claim7 := { stood := { row := commitLeadsRow, standIns := [], harness := (true, "158522fc8d7383550562e1c47712411dc112196078794a549a107b22be099f81"), looks := false }, kinds := [], alts := [], laidByText := true, laidKinds := [.data, .data], laidTests := true, laidLooks := .later }
def CommitLeadsCardSaid : Prop := Claim7.holds Tryz.pinned (.plain (OpenSpec.ofChange commitLeadsSpec)) commitLeadsCard

/-- THE TIED CARD OF 'moneyerlaw08.CommitAdds'. -/
def commitAddsCard : Claim7 := { stood := { row := commitAddsRow, standIns := [], harness := (true, "158522fc8d7383550562e1c47712411dc112196078794a549a107b22be099f81"), looks := false }, kinds := [], alts := [], laidByText := true, laidKinds := [.data, .data], laidTests := true, laidLooks := .later }
def CommitAddsCardSaid : Prop := Claim7.holds Tryz.pinned (.plain (OpenSpec.ofChange commitAddsSpec)) commitAddsCard

/-- THE TIED CARD OF 'moneyerlaw08.CommitTotals'. -/
def commitTotalsCard : Claim7 := { stood := { row := commitTotalsRow, standIns := [], harness := (true, "158522fc8d7383550562e1c47712411dc112196078794a549a107b22be099f81"), looks := false }, kinds := [], alts := [], laidByText := true, laidKinds := [.data, .data], laidTests := true, laidLooks := .later }
def CommitTotalsCardSaid : Prop := Claim7.holds Tryz.pinned (.plain (OpenSpec.ofChange commitTotalsSpec)) commitTotalsCard

/-- THE TIED CARD OF 'moneyerlaw08.CommitReads'. -/
def commitReadsCard : Claim7 := { stood := { row := commitReadsRow, standIns := [], harness := (true, "158522fc8d7383550562e1c47712411dc112196078794a549a107b22be099f81"), looks := false }, kinds := [], alts := [], laidByText := true, laidKinds := [.data, .data], laidTests := true, laidLooks := .later }
def CommitReadsCardSaid : Prop := Claim7.holds Tryz.pinned (.plain (OpenSpec.ofChange commitReadsSpec)) commitReadsCard

/-- THE TIED CARD OF 'moneyerlaw08.CommitProves'. -/
def commitProvesCard : Claim7 := { stood := { row := commitProvesRow, standIns := [], harness := (true, "158522fc8d7383550562e1c47712411dc112196078794a549a107b22be099f81"), looks := false }, kinds := [], alts := [], laidByText := true, laidKinds := [.data, .data], laidTests := true, laidLooks := .later }
def CommitProvesCardSaid : Prop := Claim7.holds Tryz.pinned (.plain (OpenSpec.ofChange commitProvesSpec)) commitProvesCard

/-- THE SECOND FORM's CARD OF 'moneyerlaw07.LeafReads'. -/
def leafReadsUptoCard : Claim7 := { stood := { row := leafReadsUptoRow, standIns := [], harness := (true, "158522fc8d7383550562e1c47712411dc112196078794a549a107b22be099f81"), looks := false }, kinds := [], alts := [], laidByText := true, laidKinds := [.data, .data, .data], laidTests := true, laidLooks := .later }
def LeafReadsUptoCardSaid : Prop := Claim7.holds Tryz.pinned (.plain (OpenSpec.upto leafReadsSpec)) leafReadsUptoCard

/-- THE SECOND FORM's CARD OF 'moneyerlaw07.LeafWrites'. -/
def leafWritesUptoCard : Claim7 := { stood := { row := leafWritesUptoRow, standIns := [], harness := (true, "158522fc8d7383550562e1c47712411dc112196078794a549a107b22be099f81"), looks := false }, kinds := [], alts := [], laidByText := true, laidKinds := [.data, .data, .data], laidTests := true, laidLooks := .later }
def LeafWritesUptoCardSaid : Prop := Claim7.holds Tryz.pinned (.plain (OpenSpec.upto leafWritesSpec)) leafWritesUptoCard

/-- THE SECOND FORM's CARD OF 'moneyerlaw11.PassSums'. -/
def passSumsUptoCard : Claim7 := { stood := { row := passSumsUptoRow, standIns := [], harness := (true, "158522fc8d7383550562e1c47712411dc112196078794a549a107b22be099f81"), looks := false }, kinds := [], alts := [], laidByText := true, laidKinds := [.data, .data], laidTests := true, laidLooks := .later }
def PassSumsUptoCardSaid : Prop := Claim7.holds Tryz.pinned (.plain (OpenSpec.upto passSumsSpec)) passSumsUptoCard

/-- THE SECOND FORM's CARD OF 'moneyerlaw08.CommitOrders'. -/
def commitOrdersUptoCard : Claim7 := { stood := { row := commitOrdersUptoRow, standIns := [], harness := (true, "158522fc8d7383550562e1c47712411dc112196078794a549a107b22be099f81"), looks := false }, kinds := [], alts := [], laidByText := true, laidKinds := [.data, .data], laidTests := true, laidLooks := .later }
def CommitOrdersUptoCardSaid : Prop := Claim7.holds Tryz.pinned (.plain (OpenSpec.upto commitOrdersSpec)) commitOrdersUptoCard

/-- THE SECOND FORM's CARD OF 'moneyerlaw08.CommitLeads'. -/
def commitLeadsUptoCard : Claim7 := { stood := { row := commitLeadsUptoRow, standIns := [], harness := (true, "158522fc8d7383550562e1c47712411dc112196078794a549a107b22be099f81"), looks := false }, kinds := [], alts := [], laidByText := true, laidKinds := [.data, .data], laidTests := true, laidLooks := .later }
def CommitLeadsUptoCardSaid : Prop := Claim7.holds Tryz.pinned (.plain (OpenSpec.upto commitLeadsSpec)) commitLeadsUptoCard

/-- THE SECOND FORM's CARD OF 'moneyerlaw08.CommitAdds'. -/
def commitAddsUptoCard : Claim7 := { stood := { row := commitAddsUptoRow, standIns := [], harness := (true, "158522fc8d7383550562e1c47712411dc112196078794a549a107b22be099f81"), looks := false }, kinds := [], alts := [], laidByText := true, laidKinds := [.data, .data], laidTests := true, laidLooks := .later }
def CommitAddsUptoCardSaid : Prop := Claim7.holds Tryz.pinned (.plain (OpenSpec.upto commitAddsSpec)) commitAddsUptoCard

/-- THE SECOND FORM's CARD OF 'moneyerlaw08.CommitTotals'. -/
def commitTotalsUptoCard : Claim7 := { stood := { row := commitTotalsUptoRow, standIns := [], harness := (true, "158522fc8d7383550562e1c47712411dc112196078794a549a107b22be099f81"), looks := false }, kinds := [], alts := [], laidByText := true, laidKinds := [.data, .data], laidTests := true, laidLooks := .later }
def CommitTotalsUptoCardSaid : Prop := Claim7.holds Tryz.pinned (.plain (OpenSpec.upto commitTotalsSpec)) commitTotalsUptoCard

/-- THE SECOND FORM's CARD OF 'moneyerlaw08.CommitReads'. -/
def commitReadsUptoCard : Claim7 := { stood := { row := commitReadsUptoRow, standIns := [], harness := (true, "158522fc8d7383550562e1c47712411dc112196078794a549a107b22be099f81"), looks := false }, kinds := [], alts := [], laidByText := true, laidKinds := [.data, .data], laidTests := true, laidLooks := .later }
def CommitReadsUptoCardSaid : Prop := Claim7.holds Tryz.pinned (.plain (OpenSpec.upto commitReadsSpec)) commitReadsUptoCard

/-- THE SECOND FORM's CARD OF 'moneyerlaw08.CommitProves'. -/
def commitProvesUptoCard : Claim7 := { stood := { row := commitProvesUptoRow, standIns := [], harness := (true, "158522fc8d7383550562e1c47712411dc112196078794a549a107b22be099f81"), looks := false }, kinds := [], alts := [], laidByText := true, laidKinds := [.data, .data], laidTests := true, laidLooks := .later }
def CommitProvesUptoCardSaid : Prop := Claim7.holds Tryz.pinned (.plain (OpenSpec.upto commitProvesSpec)) commitProvesUptoCard
end Rows
end Go.Proofs.YtbhnnoejhbihhaaGreatDoor
