/-
  DERIVED. GIVEN WITH THE SEED: THE CARDS: each row of YtknfbccbdiidjaaGreatDoorRows.lean that lists a variable, with what it lists TIED to the program's text (the seventh form; the later family's looks); each row that meets fmt, with fmt's text TOLD by the authors' own Lean function (tested against real Go, not proved from fmt's source: count such statements apart). THE CARD IS WHAT COUNTS. Prove the row's statement (the work); the ties are given (YtknfbccbdiidjaaGreatDoorTie.lean); close each card by the builder's one call (the guide's Derived/Test/ToyasCard.lean, 'card_holds'). Laid BY PROGRAM, IN A SANDBOX (cutbox-door.mjs). By AI agents, Wed Nov 11 2026. No macro, syntax, notation, axiom, sorry.
-/
import Derived.Test.YtknfbccbdiidjaaGreatDoorRows
import GoSem.ClaimSeven
namespace Go.Proofs.YtknfbccbdiidjaaGreatDoor
namespace Rows

/-- THE TIED CARD OF 'moneyerlaw08.CommitOrders'. -/
def commitOrdersCard : Claim7 := { stood := { row := commitOrdersRow, standIns := [], harness := (true, "57e0b431d3030df39ad733de80d924a00368707feaaa05f38ec066c34f2892ea"), looks := false }, kinds := [], alts := [], laidByText := true, laidKinds := [.data, .data], laidTests := true, laidLooks := .later }
def CommitOrdersCardSaid : Prop := Claim7.holds Tryz.pinned (.plain (OpenSpec.ofChange commitOrdersSpec)) commitOrdersCard

/-- THE TIED CARD OF 'moneyerlaw08.CommitLeads'. -/
def commitLeadsCard : Claim7 := { stood := { row := commitLeadsRow, standIns := [], harness := (true, "57e0b431d3030df39ad733de80d924a00368707feaaa05f38ec066c34f2892ea"), looks := false }, kinds := [], alts := [], laidByText := true, laidKinds := [.data, .data], laidTests := true, laidLooks := .later }
def CommitLeadsCardSaid : Prop := Claim7.holds Tryz.pinned (.plain (OpenSpec.ofChange commitLeadsSpec)) commitLeadsCard

/-- THE TIED CARD OF 'moneyerlaw08.CommitAdds'. -/
def commitAddsCard : Claim7 := { stood := { row := commitAddsRow, standIns := [], harness := (true, "57e0b431d3030df39ad733de80d924a00368707feaaa05f38ec066c34f2892ea"), looks := false }, kinds := [], alts := [], laidByText := true, laidKinds := [.data, .data], laidTests := true, laidLooks := .later }
def CommitAddsCardSaid : Prop := Claim7.holds Tryz.pinned (.plain (OpenSpec.ofChange commitAddsSpec)) commitAddsCard

/-- THE TIED CARD OF 'moneyerlaw08.CommitTotals'. -/
def commitTotalsCard : Claim7 := { stood := { row := commitTotalsRow, standIns := [], harness := (true, "57e0b431d3030df39ad733de80d924a00368707feaaa05f38ec066c34f2892ea"), looks := false }, kinds := [], alts := [], laidByText := true, laidKinds := [.data, .data], laidTests := true, laidLooks := .later }
def CommitTotalsCardSaid : Prop := Claim7.holds Tryz.pinned (.plain (OpenSpec.ofChange commitTotalsSpec)) commitTotalsCard

/-- THE TIED CARD OF 'moneyerlaw08.CommitReads'. -/
def commitReadsCard : Claim7 := { stood := { row := commitReadsRow, standIns := [], harness := (true, "57e0b431d3030df39ad733de80d924a00368707feaaa05f38ec066c34f2892ea"), looks := false }, kinds := [], alts := [], laidByText := true, laidKinds := [.data, .data], laidTests := true, laidLooks := .later }
def CommitReadsCardSaid : Prop := Claim7.holds Tryz.pinned (.plain (OpenSpec.ofChange commitReadsSpec)) commitReadsCard

/-- THE TIED CARD OF 'moneyerlaw08.CommitProves'. -/
def commitProvesCard : Claim7 := { stood := { row := commitProvesRow, standIns := [], harness := (true, "57e0b431d3030df39ad733de80d924a00368707feaaa05f38ec066c34f2892ea"), looks := false }, kinds := [], alts := [], laidByText := true, laidKinds := [.data, .data], laidTests := true, laidLooks := .later }
def CommitProvesCardSaid : Prop := Claim7.holds Tryz.pinned (.plain (OpenSpec.ofChange commitProvesSpec)) commitProvesCard

/-- THE SECOND FORM's CARD OF 'moneyerlaw08.CommitOrders'. -/
def commitOrdersUptoCard : Claim7 := { stood := { row := commitOrdersUptoRow, standIns := [], harness := (true, "57e0b431d3030df39ad733de80d924a00368707feaaa05f38ec066c34f2892ea"), looks := false }, kinds := [], alts := [], laidByText := true, laidKinds := [.data, .data], laidTests := true, laidLooks := .later }
def CommitOrdersUptoCardSaid : Prop := Claim7.holds Tryz.pinned (.plain (OpenSpec.upto commitOrdersSpec)) commitOrdersUptoCard

/-- THE SECOND FORM's CARD OF 'moneyerlaw08.CommitLeads'. -/
def commitLeadsUptoCard : Claim7 := { stood := { row := commitLeadsUptoRow, standIns := [], harness := (true, "57e0b431d3030df39ad733de80d924a00368707feaaa05f38ec066c34f2892ea"), looks := false }, kinds := [], alts := [], laidByText := true, laidKinds := [.data, .data], laidTests := true, laidLooks := .later }
def CommitLeadsUptoCardSaid : Prop := Claim7.holds Tryz.pinned (.plain (OpenSpec.upto commitLeadsSpec)) commitLeadsUptoCard

/-- THE SECOND FORM's CARD OF 'moneyerlaw08.CommitAdds'. -/
def commitAddsUptoCard : Claim7 := { stood := { row := commitAddsUptoRow, standIns := [], harness := (true, "57e0b431d3030df39ad733de80d924a00368707feaaa05f38ec066c34f2892ea"), looks := false }, kinds := [], alts := [], laidByText := true, laidKinds := [.data, .data], laidTests := true, laidLooks := .later }
def CommitAddsUptoCardSaid : Prop := Claim7.holds Tryz.pinned (.plain (OpenSpec.upto commitAddsSpec)) commitAddsUptoCard

/-- THE SECOND FORM's CARD OF 'moneyerlaw08.CommitTotals'. -/
def commitTotalsUptoCard : Claim7 := { stood := { row := commitTotalsUptoRow, standIns := [], harness := (true, "57e0b431d3030df39ad733de80d924a00368707feaaa05f38ec066c34f2892ea"), looks := false }, kinds := [], alts := [], laidByText := true, laidKinds := [.data, .data], laidTests := true, laidLooks := .later }
def CommitTotalsUptoCardSaid : Prop := Claim7.holds Tryz.pinned (.plain (OpenSpec.upto commitTotalsSpec)) commitTotalsUptoCard

/-- THE SECOND FORM's CARD OF 'moneyerlaw08.CommitReads'. -/
def commitReadsUptoCard : Claim7 := { stood := { row := commitReadsUptoRow, standIns := [], harness := (true, "57e0b431d3030df39ad733de80d924a00368707feaaa05f38ec066c34f2892ea"), looks := false }, kinds := [], alts := [], laidByText := true, laidKinds := [.data, .data], laidTests := true, laidLooks := .later }
def CommitReadsUptoCardSaid : Prop := Claim7.holds Tryz.pinned (.plain (OpenSpec.upto commitReadsSpec)) commitReadsUptoCard

/-- THE SECOND FORM's CARD OF 'moneyerlaw08.CommitProves'. -/
def commitProvesUptoCard : Claim7 := { stood := { row := commitProvesUptoRow, standIns := [], harness := (true, "57e0b431d3030df39ad733de80d924a00368707feaaa05f38ec066c34f2892ea"), looks := false }, kinds := [], alts := [], laidByText := true, laidKinds := [.data, .data], laidTests := true, laidLooks := .later }
def CommitProvesUptoCardSaid : Prop := Claim7.holds Tryz.pinned (.plain (OpenSpec.upto commitProvesSpec)) commitProvesUptoCard
end Rows
end Go.Proofs.YtknfbccbdiidjaaGreatDoor
