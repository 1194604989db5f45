/-
  DERIVED. GIVEN WITH THE SEED: THE PROGRAM's TIES (one call each: nine closed facts by the kernel) AND EACH ROW's TIE, after the 31st guide's Derived/Test/Toyas{Tie, Card}.lean. No idea stands in it: it is a product of the set-up. Laid BY PROGRAM, IN A SANDBOX (cutbox-door.mjs). By AI agents, Wed Nov 11 2026. No macro, syntax, notation, axiom, sorry.
-/
import Derived.Test.YtniakgoefkbkhaaGreatDoorRows
import Derived.LaidByTextLater
import Derived.SevenTiedAt
import Derived.LaidSub
import Derived.LaidOnce
namespace Go.Proofs.YtniakgoefkbkhaaGreatDoor
open Go
set_option maxRecDepth 100000
theorem seatTie1 : Tryz.prog.laidByTextLater [("moneyer/sha.start", Rows.laid_moneyer_sha_start), ("moneyer/sha.rounds", Rows.laid_moneyer_sha_rounds), ("moneyer/leaf.sizes", Rows.laid_moneyer_leaf_sizes)] [.data, .data, .data] true :=
  Program.laidByTextLater_by_one 24 8 65 (by kernel_rfl) (by kernel_rfl) (by kernel_rfl) (by kernel_rfl) (by kernel_rfl) (by kernel_rfl) (fun _ _ => by kernel_rfl)
theorem noOwnUnsafe : Tryz.pinned.checked.prog.headLifts.contains "ownunsafe" = false := by kernel_rfl
theorem tie : Tryz.prog.laidByTextLater [("moneyer/sha.start", Rows.laid_moneyer_sha_start), ("moneyer/sha.rounds", Rows.laid_moneyer_sha_rounds)] [.data, .data] true :=
  Program.laidByTextLater.sub seatTie1 ["moneyer/sha.start", "moneyer/sha.rounds"] (by kernel_rfl) (by kernel_rfl)
theorem passSums_row_tie : Rows.passSumsRow.laidByTextAt .later Tryz.pinned [.data, .data] true :=
  OpenClaim.laidByTextAt_later rfl rfl tie noOwnUnsafe
theorem tie2 : Tryz.prog.laidByTextLater [("moneyer/sha.start", Rows.laid_moneyer_sha_start), ("moneyer/sha.rounds", Rows.laid_moneyer_sha_rounds), ("moneyer/leaf.sizes", Rows.laid_moneyer_leaf_sizes)] [.data, .data, .data] true :=
  Program.laidByTextLater.sub seatTie1 ["moneyer/sha.start", "moneyer/sha.rounds", "moneyer/leaf.sizes"] (by kernel_rfl) (by kernel_rfl)
theorem leafWrites_row_tie : Rows.leafWritesRow.laidByTextAt .later Tryz.pinned [.data, .data, .data] true :=
  OpenClaim.laidByTextAt_later rfl rfl tie2 noOwnUnsafe
theorem passSumsUpto_row_tie : Rows.passSumsUptoRow.laidByTextAt .later Tryz.pinned [.data, .data] true :=
  OpenClaim.laidByTextAt_later rfl rfl tie noOwnUnsafe
theorem leafWritesUpto_row_tie : Rows.leafWritesUptoRow.laidByTextAt .later Tryz.pinned [.data, .data, .data] true :=
  OpenClaim.laidByTextAt_later rfl rfl tie2 noOwnUnsafe
end Go.Proofs.YtniakgoefkbkhaaGreatDoor
