/-
  DERIVED. GIVEN WITH THE SEED: THE CARDS: each row of YtcpomddkehhkkaaDoorRows.lean that lists a variable, with what it lists TIED to the program's text (the seventh form; the later family's looks); each row that meets fmt, with fmt's text TOLD by the authors' own Lean function (tested against real Go, not proved from fmt's source: count such statements apart). THE CARD IS WHAT COUNTS. Prove the row's statement (the work); the ties are given (YtcpomddkehhkkaaDoorTie.lean); close each card by the builder's one call (the guide's Derived/Test/ToyasCard.lean, 'card_holds'). Laid BY PROGRAM, IN A SANDBOX (cutbox-door.mjs). By AI agents, Wed Nov 11 2026. No macro, syntax, notation, axiom, sorry.
-/
import Derived.Test.YtcpomddkehhkkaaDoorRows
import GoSem.ClaimSeven
namespace Go.Proofs.YtcpomddkehhkkaaDoor
namespace Rows

/-- THE TIED CARD OF 'moneyerlaw04.MsumLeaves'. -/
def msumLeavesCard : Claim7 := { stood := { row := msumLeavesRow, standIns := [], harness := (true, "aedfdd450c589177b1e15e17b58677df37cc84248f17e5d0f5baf1f74254a004"), looks := false }, kinds := [], alts := [], laidByText := true, laidKinds := [.data, .data], laidTests := true, laidLooks := .later }
def MsumLeavesCardSaid : Prop := Claim7.holds Tryd.pinned (.plain (OpenSpec.ofChange msumLeavesSpec)) msumLeavesCard

/-- THE TIED CARD OF 'moneyerlaw04.MsumEmpties'. -/
def msumEmptiesCard : Claim7 := { stood := { row := msumEmptiesRow, standIns := [], harness := (true, "aedfdd450c589177b1e15e17b58677df37cc84248f17e5d0f5baf1f74254a004"), looks := false }, kinds := [], alts := [], laidByText := true, laidKinds := [.data, .data], laidTests := true, laidLooks := .later }
def MsumEmptiesCardSaid : Prop := Claim7.holds Tryd.pinned (.plain (OpenSpec.ofChange msumEmptiesSpec)) msumEmptiesCard

/-- THE TIED CARD OF 'moneyerlaw04.MsumRoots'. -/
def msumRootsCard : Claim7 := { stood := { row := msumRootsRow, standIns := [], harness := (true, "aedfdd450c589177b1e15e17b58677df37cc84248f17e5d0f5baf1f74254a004"), looks := false }, kinds := [], alts := [], laidByText := true, laidKinds := [.data, .data], laidTests := true, laidLooks := .later }
def MsumRootsCardSaid : Prop := Claim7.holds Tryd.pinned (.plain (OpenSpec.ofChange msumRootsSpec)) msumRootsCard

/-- THE TIED CARD OF 'moneyerlaw04.MsumRuns'. -/
def msumRunsCard : Claim7 := { stood := { row := msumRunsRow, standIns := [], harness := (true, "aedfdd450c589177b1e15e17b58677df37cc84248f17e5d0f5baf1f74254a004"), looks := false }, kinds := [], alts := [], laidByText := true, laidKinds := [.data, .data], laidTests := true, laidLooks := .later }
def MsumRunsCardSaid : Prop := Claim7.holds Tryd.pinned (.plain (OpenSpec.ofChange msumRunsSpec)) msumRunsCard

/-- THE TIED CARD OF 'moneyerlaw04.MsumOrders'. -/
def msumOrdersCard : Claim7 := { stood := { row := msumOrdersRow, standIns := [], harness := (true, "aedfdd450c589177b1e15e17b58677df37cc84248f17e5d0f5baf1f74254a004"), looks := false }, kinds := [], alts := [], laidByText := true, laidKinds := [.data, .data], laidTests := true, laidLooks := .later }
def MsumOrdersCardSaid : Prop := Claim7.holds Tryd.pinned (.plain (OpenSpec.ofChange msumOrdersSpec)) msumOrdersCard

/-- THE TIED CARD OF 'moneyerlaw04.MsumSwaps'. -/
def msumSwapsCard : Claim7 := { stood := { row := msumSwapsRow, standIns := [], harness := (true, "aedfdd450c589177b1e15e17b58677df37cc84248f17e5d0f5baf1f74254a004"), looks := false }, kinds := [], alts := [], laidByText := true, laidKinds := [.data, .data], laidTests := true, laidLooks := .later }
def MsumSwapsCardSaid : Prop := Claim7.holds Tryd.pinned (.plain (OpenSpec.ofChange msumSwapsSpec)) msumSwapsCard

/-- THE TIED CARD OF 'moneyerlaw04.MsumClimbs'. -/
def msumClimbsCard : Claim7 := { stood := { row := msumClimbsRow, standIns := [], harness := (true, "aedfdd450c589177b1e15e17b58677df37cc84248f17e5d0f5baf1f74254a004"), looks := false }, kinds := [], alts := [], laidByText := true, laidKinds := [.data, .data], laidTests := true, laidLooks := .later }
def MsumClimbsCardSaid : Prop := Claim7.holds Tryd.pinned (.plain (OpenSpec.ofChange msumClimbsSpec)) msumClimbsCard

/-- THE TIED CARD OF 'moneyerlaw04.MsumFull'. -/
def msumFullCard : Claim7 := { stood := { row := msumFullRow, standIns := [], harness := (true, "aedfdd450c589177b1e15e17b58677df37cc84248f17e5d0f5baf1f74254a004"), looks := false }, kinds := [], alts := [], laidByText := true, laidKinds := [.data, .data], laidTests := true, laidLooks := .later }
def MsumFullCardSaid : Prop := Claim7.holds Tryd.pinned (.plain (OpenSpec.ofChange msumFullSpec)) msumFullCard

/-- THE SECOND FORM's CARD OF 'moneyerlaw04.MsumLeaves'. -/
def msumLeavesUptoCard : Claim7 := { stood := { row := msumLeavesUptoRow, standIns := [], harness := (true, "aedfdd450c589177b1e15e17b58677df37cc84248f17e5d0f5baf1f74254a004"), looks := false }, kinds := [], alts := [], laidByText := true, laidKinds := [.data, .data], laidTests := true, laidLooks := .later }
def MsumLeavesUptoCardSaid : Prop := Claim7.holds Tryd.pinned (.plain (OpenSpec.upto msumLeavesSpec)) msumLeavesUptoCard

/-- THE SECOND FORM's CARD OF 'moneyerlaw04.MsumEmpties'. -/
def msumEmptiesUptoCard : Claim7 := { stood := { row := msumEmptiesUptoRow, standIns := [], harness := (true, "aedfdd450c589177b1e15e17b58677df37cc84248f17e5d0f5baf1f74254a004"), looks := false }, kinds := [], alts := [], laidByText := true, laidKinds := [.data, .data], laidTests := true, laidLooks := .later }
def MsumEmptiesUptoCardSaid : Prop := Claim7.holds Tryd.pinned (.plain (OpenSpec.upto msumEmptiesSpec)) msumEmptiesUptoCard

/-- THE SECOND FORM's CARD OF 'moneyerlaw04.MsumRoots'. -/
def msumRootsUptoCard : Claim7 := { stood := { row := msumRootsUptoRow, standIns := [], harness := (true, "aedfdd450c589177b1e15e17b58677df37cc84248f17e5d0f5baf1f74254a004"), looks := false }, kinds := [], alts := [], laidByText := true, laidKinds := [.data, .data], laidTests := true, laidLooks := .later }
def MsumRootsUptoCardSaid : Prop := Claim7.holds Tryd.pinned (.plain (OpenSpec.upto msumRootsSpec)) msumRootsUptoCard

/-- THE SECOND FORM's CARD OF 'moneyerlaw04.MsumRuns'. -/
def msumRunsUptoCard : Claim7 := { stood := { row := msumRunsUptoRow, standIns := [], harness := (true, "aedfdd450c589177b1e15e17b58677df37cc84248f17e5d0f5baf1f74254a004"), looks := false }, kinds := [], alts := [], laidByText := true, laidKinds := [.data, .data], laidTests := true, laidLooks := .later }
def MsumRunsUptoCardSaid : Prop := Claim7.holds Tryd.pinned (.plain (OpenSpec.upto msumRunsSpec)) msumRunsUptoCard

/-- THE SECOND FORM's CARD OF 'moneyerlaw04.MsumOrders'. -/
def msumOrdersUptoCard : Claim7 := { stood := { row := msumOrdersUptoRow, standIns := [], harness := (true, "aedfdd450c589177b1e15e17b58677df37cc84248f17e5d0f5baf1f74254a004"), looks := false }, kinds := [], alts := [], laidByText := true, laidKinds := [.data, .data], laidTests := true, laidLooks := .later }
def MsumOrdersUptoCardSaid : Prop := Claim7.holds Tryd.pinned (.plain (OpenSpec.upto msumOrdersSpec)) msumOrdersUptoCard

/-- THE SECOND FORM's CARD OF 'moneyerlaw04.MsumSwaps'. -/
def msumSwapsUptoCard : Claim7 := { stood := { row := msumSwapsUptoRow, standIns := [], harness := (true, "aedfdd450c589177b1e15e17b58677df37cc84248f17e5d0f5baf1f74254a004"), looks := false }, kinds := [], alts := [], laidByText := true, laidKinds := [.data, .data], laidTests := true, laidLooks := .later }
def MsumSwapsUptoCardSaid : Prop := Claim7.holds Tryd.pinned (.plain (OpenSpec.upto msumSwapsSpec)) msumSwapsUptoCard

/-- THE SECOND FORM's CARD OF 'moneyerlaw04.MsumClimbs'. -/
def msumClimbsUptoCard : Claim7 := { stood := { row := msumClimbsUptoRow, standIns := [], harness := (true, "aedfdd450c589177b1e15e17b58677df37cc84248f17e5d0f5baf1f74254a004"), looks := false }, kinds := [], alts := [], laidByText := true, laidKinds := [.data, .data], laidTests := true, laidLooks := .later }
def MsumClimbsUptoCardSaid : Prop := Claim7.holds Tryd.pinned (.plain (OpenSpec.upto msumClimbsSpec)) msumClimbsUptoCard

/-- THE SECOND FORM's CARD OF 'moneyerlaw04.MsumFull'. -/
def msumFullUptoCard : Claim7 := { stood := { row := msumFullUptoRow, standIns := [], harness := (true, "aedfdd450c589177b1e15e17b58677df37cc84248f17e5d0f5baf1f74254a004"), looks := false }, kinds := [], alts := [], laidByText := true, laidKinds := [.data, .data], laidTests := true, laidLooks := .later }
def MsumFullUptoCardSaid : Prop := Claim7.holds Tryd.pinned (.plain (OpenSpec.upto msumFullSpec)) msumFullUptoCard
end Rows
end Go.Proofs.YtcpomddkehhkkaaDoor
