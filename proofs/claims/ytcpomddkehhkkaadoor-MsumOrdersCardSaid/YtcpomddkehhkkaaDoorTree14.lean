/- The laws' head: one leaf in a tree. -/
import Derived.Test.YtcpomddkehhkkaaDoorTree13
import Derived.Lib.SlBytesConst
namespace Go.Proofs.YtcpomddkehhkkaaDoor
set_option linter.unusedVariables false
set_option linter.unusedSimpArgs false
open Go.ChangeShapes Go.WideShapes Go.ChangeAt Go.RowKit Go.Maps

def K5 : List Nat := 5 :: List.replicate 31 0
theorem k5_is : IsHash K5 := ⟨by decide, by decide⟩
theorem k5_lit (w : World) : (Instr.build 27 #[(0, .int .u8 5)]).run Tryd.prog w = .ok (.agg (bcells K5).toArray) w := by kernel_rfl
def l5 : Lf := ⟨K5, [97], 7⟩
theorem l5_put : putE [] l5 = 0 := by decide
theorem l5_new : putN [] l5 = [l5] := by unfold putN; rw [if_pos l5_put]; rfl

set_option maxRecDepth 100000 in
set_option maxHeartbeats 4000000 in
theorem headT_is (K s0 : List Wd) (w : World) (hT : Tabs K s0 w) : Calls Tryd.prog 22 #[] w fun e w' => e = .returned (.bool true) ∧ Below w.heap.size w w' := by
  have hlow := hT.low
  have HL5 := Lib.hid k5_lit
  have HT := Lib.hid hT
  obtain ⟨LK, hLK⟩ : ∃ L, L = (bcells K5).toArray := ⟨_, rfl⟩
  rw [← hLK] at HL5
  have ELK := Lib.hid hLK
  have HLOW := Lib.hid hlow
  clear hT hlow hLK
  go_enter Tryd.func22, Tryd.ntmps22
  go_wp2_with fail
  refine (newT_is K s0 (fun k => w.heap.size ≤ k) w (fun _ h => h)).mono ?_
  rintro _ w1 ⟨g, rfl, htr, hb1, hg⟩
  have htr2 : Tr K s0 (fun k => w.heap.size ≤ k) (w1.alloc (.cells #[.int .u8 97] 5 (1, 2))) g [] := htr.quiet ((Below.refl _ _).alloc (Nat.le_refl _) _)
  have hb2 : Below w.heap.size w (w1.alloc (.cells #[.int .u8 97] 5 (1, 2))) := hb1.alloc hb1.size _
  have hcv : (convert 22 22 (.slice (some ⟨w1.heap.size, 0, none⟩) 1 1)).run Tryd.prog (w1.alloc (.cells #[.int .u8 97] 5)) = .ok (.slice (some ⟨w1.heap.size, 0, none⟩) 1 1) (w1.alloc (.cells #[.int .u8 97] 5 (1, 2))) := Lib.run_convert_bytes_const w1 22 5 #[.int .u8 97] 1 1 Tryd.underlying22 Tryd.underlying5
  have hbox : (w1.alloc (.cells #[.int .u8 97] 5 (1, 2))).cell? ⟨w1.heap.size, 0, none⟩ = some (.int .u8 97) := by
    unfold World.cell?
    rw [heap_alloc_new]; rfl
  have hby : Bytes (w1.alloc (.cells #[.int .u8 97] 5 (1, 2))) (w1.alloc (.cells #[.int .u8 97] 5 (1, 2))).heap.size (.slice (some ⟨w1.heap.size, 0, none⟩) 1 1) [97] :=
    ⟨_, _, rfl, Nat.le_refl _, by decide, fun _ => ⟨w1.heap.size, 0, rfl, by simp, fun i hi => by
      obtain rfl : i = 0 := by simpa using hi
      exact hbox⟩⟩
  have hput := tr_put htr2 HT.out.len (fun k h => by have := hb2.size; omega) l5 k5_is (.slice (some ⟨w1.heap.size, 0, none⟩) 1 1) hby (by decide) (by decide)
  rw [l5_put, l5_new] at hput
  unfold arr leafV at hput
  change Calls Tryd.prog 33 #[.pointer (some ⟨g, 0, none⟩), .agg (bcells K5).toArray, .agg #[.slice (some ⟨w1.heap.size, 0, none⟩) 1 1, .int .u64 7]] _ _ at hput
  rw [← ELK.out] at hput
  have HPUT := Lib.hid hput
  have HB2 := Lib.hid hb2
  have HG := Lib.hid hg
  clear htr hb1 hg htr2 hb2 hbox hby hput
  go_wp2_with (refine wpList_build_run (by kernel_rfl) 27 _ rfl #[(0, .int .u8 5)] (by kernel_rfl) (.agg LK) (HL5.out _) ?_)
  refine HPUT.out.mono ?_
  rintro _ w2 ⟨rfl, htr, hk2⟩
  have hb2 : Below w.heap.size w w2 := HB2.out.trans (hk2.below HB2.out.size (fun k e => e))
  have hT2 : Tabs K s0 w2 := HT.out.below hb2 HLOW.out
  have hroot := tr_root htr hT2 (Nat.le_trans HLOW.out HG.out)
  obtain ⟨n, hn⟩ : ∃ n, n = partNd K s0 256 [l5] := ⟨_, rfl⟩
  have hns : n.s = 7 := by rw [hn, root_sum htr]; rfl
  have hnh : n.h.length = 32 := by rw [hn]; exact (part_hash K s0 HT.out.len _ _).1
  rw [← hn] at hroot
  obtain ⟨LN, hLN⟩ : ∃ L, L = (ndV n).toArray := ⟨_, rfl⟩
  have hfd : ∀ W, (Instr.field 29 (.agg LN) 1).run Tryd.prog W = .ok (.int .u64 7) W := fun W => by
    have := nd_sum n hnh W
    rw [hns] at this
    rw [hLN]; exact this
  rw [← hLN] at hroot
  have HROOT := Lib.hid hroot
  have HB3 := Lib.hid hb2
  clear htr hk2 hb2 hT2 hroot hn hns hnh hLN
  go_wp2_with fail
  refine HROOT.out.mono ?_
  rintro _ w3 ⟨rfl, htr, hk3⟩
  have hkeys := tr_keys htr
  have HKEYS := Lib.hid hkeys
  have HB4 := Lib.hid (HB3.out.trans (hk3.below HB3.out.size (fun k e => e)))
  have HTR := Lib.hid htr
  clear htr hk3 hkeys
  go_wp2_with fail
  refine HKEYS.out.mono ?_
  rintro _ w4 ⟨a, nn, c, ks, rfl, hkt, hka, hnc, hn2, hA, hb5⟩
  have hn1 : nn = 1 := by
    have := hkt.len_eq HTR.out.keyed.nodup
    rw [hka.len] at this
    exact this
  subst hn1
  have HB5 := Lib.hid (HB4.out.trans (hb5.mono HB4.out.size))
  clear hkt hka hnc hn2 hA hb5
  go_wp2
  go_ret
  exact ⟨rfl, HB5.out⟩
end Go.Proofs.YtcpomddkehhkkaaDoor
