/- The walk of the reference's Copy. -/
import Derived.Test.YtngmpcmeebcdmaaDoorRef1
import Derived.Laws.BytesArg
namespace Go.Proofs.YtngmpcmeebcdmaaDoor
set_option linter.unusedVariables false
set_option linter.unusedSimpArgs false
open Go.ChangeShapes Go.WideShapes Go.ChangeAt Go.RowKit Go.Maps

set_option maxRecDepth 100000 in
theorem copy_is (w : World) (v : Value) (bs : List Nat) (hb : Bytes w w.heap.size v bs) (hl : bs.length ≤ 1000000) :
    Calls Tryd.prog 17 #[v] w fun e w' => (∃ a c, e = .returned (.slice a bs.length c) ∧ w'.ownsRow w.heap.size 5 1 (.slice a bs.length c) bs.length (bcells bs)) ∧ Below w.heap.size w w' := by
  have hown0 : (w.alloc (.cells #[] 5)).ownsRow w.heap.size 5 1 (.slice (some ⟨w.heap.size, 0, none⟩) 0 0) 0 [] := World.ownsRow_made w #[] 0 (Nat.le_refl _) (by decide) rfl
  have hal : Below w.heap.size w (w.alloc (.cells #[] 5)) := (Below.refl _ _).alloc (Nat.le_refl _) _
  have HOWN0 := Lib.hid hown0
  have HAL := Lib.hid hal
  have HSRC := Lib.hid (hb.alive hal hal.size)
  have HLN := Lib.hid (show 0 + bs.length ≤ 100000000 by omega)
  have HBS := Lib.hid hal.size
  clear hown0 hal hb hl
  go_enter Tryd.func17, Tryd.ntmps17
  go_wp2_with (at_builtin; refine wpList_append_bytes rfl (.tmp 3) (.tmp 4) rfl w.heap.size _ 0 _ rfl HOWN0.out _ _ bs rfl HSRC.out HLN.out HBS.out ?_; intro oa1 oc1 w1 hown1 hgr1)
  rw [Nat.zero_add] at hown1
  try rw [Nat.zero_add]
  have HFIN := Lib.hid (And.intro hown1 (HAL.out.grown hgr1 HBS.out (own_blk HOWN0.out)))
  clear hown1 hgr1
  go_ret
  exact ⟨⟨_, _, rfl, HFIN.out.1⟩, HFIN.out.2⟩
end Go.Proofs.YtngmpcmeebcdmaaDoor
