/- The document's example: head returns true. -/
import Derived.Test.YtcpomddkehhkkaaDisk9
namespace Go.Proofs.Ytcpomddkehhkkaa
open Go.ChangeShapes Go.WideShapes Go.ChangeAt Go.RowKit Go.Shelf
set_option linter.unusedVariables false

/-- the sectors behind the example's crash -/
def headSecs : List (List Nat) := [sector 1, (sector 2).take 3 ++ (sector 0).drop 3]
theorem headSecs_is : settleTo 1 3 ([(0, sector 1)] ++ [(1, sector 2)]) 2 (List.replicate 2 (sector 0)) = headSecs := by decide
theorem head63 : (bcells (headSecs.getD 0 []))[63]? = some (.int .u8 1) := by rfl
theorem head2 : (bcells (headSecs.getD 1 []))[2]? = some (.int .u8 2) := by rfl
theorem head3 : (bcells (headSecs.getD 1 []))[3]? = some (.int .u8 0) := by rfl

def HeadIs (w : World) (e : Ending) (w' : World) : Prop := e = .returned (.bool true) ∧ Below w.heap.size w w'

set_option maxHeartbeats 1000000 in
theorem head_is (w : World) : Calls Try.prog 8 #[] w (HeadIs w) := by
  go_enter Try.func8, Try.ntmps8
  go_wp2_with fail
  refine (new_is _ 2 (by decide) (by decide)).mono ?_
  rintro e w1 ⟨rfl, hd1, hb1⟩
  have HD1 := Lib.hid hd1
  have HB1 := Lib.hid hb1
  clear hd1 hb1
  go_wp2_with fail
  refine (full_is _ 1 (by decide)).mono ?_
  rintro e w2 ⟨g2, c2, rfl, ho2, hb2⟩
  have HD2 := Lib.hid (HD1.out.below hb2)
  have HB2 := Lib.hid (HB1.out.trans (hb2.mono HB1.out.size))
  have HO2 := Lib.hid ho2
  clear ho2 hb2
  go_wp2_with fail
  refine (write_int w2 w.heap.size w.heap.size _ [] 0 0 g2 c2 _ _ HD2.out (by decide) (by decide) (by decide) (by decide) (by decide) HB2.out.size HO2.out (sector_length _)).mono ?_
  rintro e w3 ⟨rfl, hd3, hb3⟩
  have HD3 := Lib.hid hd3
  have HB3 := Lib.hid (HB2.out.trans hb3)
  clear hd3 hb3
  go_wp2_with fail
  refine (full_is _ 2 (by decide)).mono ?_
  rintro e w4 ⟨g4, c4, rfl, ho4, hb4⟩
  have HD4 := Lib.hid (HD3.out.below hb4)
  have HB4 := Lib.hid (HB3.out.trans (hb4.mono HB3.out.size))
  have HO4 := Lib.hid ho4
  clear ho4 hb4
  go_wp2_with fail
  refine (write_int w4 w.heap.size w.heap.size _ _ 0 1 g4 c4 _ _ HD4.out (by decide) (by decide) (by decide) (by decide) (by decide) HB4.out.size HO4.out (sector_length _)).mono ?_
  rintro e w5 ⟨rfl, hd5, hb5⟩
  have HD5 := Lib.hid hd5
  have HB5 := Lib.hid (HB4.out.trans hb5)
  clear hd5 hb5
  go_wp2_with fail
  refine (crash_is w5 w.heap.size w.heap.size _ _ 0 false 1 3 1 3 (.inr ⟨by decide, rfl⟩) rfl HD5.out (by decide) (by decide) (by decide) HB5.out.size (by decide) (by decide)).mono ?_
  rintro e w6 ⟨rfl, hd6, hb6⟩
  have HD6 : Hid (DiskIs w6 w.heap.size w.heap.size headSecs [] 0 false) := Lib.hid (headSecs_is ▸ hd6)
  have HB6 := Lib.hid (HB5.out.trans hb6)
  clear hd6 hb6
  go_wp2_with fail
  refine (read_int w6 w.heap.size w.heap.size _ 0 0 HD6.out (by decide) (by decide)).mono ?_
  rintro e w7 ⟨g7, c7, rfl, ⟨ho7, _⟩, hb7⟩
  have HD7 := Lib.hid (HD6.out.below hb7)
  have HB7 := Lib.hid (HB6.out.trans (hb7.mono HB6.out.size))
  have HO7 := Lib.hid ho7
  clear ho7 hb7
  go_wp2_with fail
  refine (read_int w7 w.heap.size w.heap.size _ 0 1 HD7.out (by decide) (by decide)).mono ?_
  rintro e w8 ⟨g8, c8, rfl, ⟨ho8, _⟩, hb8⟩
  have HD8 := Lib.hid (HD7.out.below hb8)
  have HB8 := Lib.hid (HB7.out.trans (hb8.mono HB7.out.size))
  have HO7b := Lib.hid (own_kept HO7.out (Kept.of_below (S := fun _ => False) hb8) (fun _ _ h => h))
  have k63 : w8.cell? ⟨g7, 63, none⟩ = some (.int .u8 1) := (HO7b.out.cellAt 63 (by decide)).trans head63
  have k2 : w8.cell? ⟨g8, 2, none⟩ = some (.int .u8 2) := (ho8.cellAt 2 (by decide)).trans head2
  have k3 : w8.cell? ⟨g8, 3, none⟩ = some (.int .u8 0) := (ho8.cellAt 3 (by decide)).trans head3
  clear ho8 hb8
  go_wp2_with fail
  refine (len_is w8 w.heap.size w.heap.size _ _ _ _ HD8.out).mono ?_
  rintro e w9 ⟨rfl, rfl⟩
  go_wp2
  go_goals
  go_ret
  exact ⟨rfl, HB8.out⟩
end Go.Proofs.Ytcpomddkehhkkaa
