/- The walk of BookRuns. -/
import Derived.Test.YtcekammjpghjnaaDoorWs
import Derived.Test.YtcekammjpghjnaaDoorURg17
namespace Go.Proofs.YtcekammjpghjnaaDoor
set_option linter.unusedVariables false
set_option linter.unusedSimpArgs false
open Go.ChangeShapes Go.WideShapes Go.ChangeAt Go.RowKit Go.Maps

set_option maxRecDepth 100000 in
set_option maxHeartbeats 16000000 in
theorem runs17_walk (k0 k1 : Nat) (A : Option Addr) (n c : Nat) (w : World) (hT : Tabs KS SS w) (ss : List Stp) (hS : Steps w A n ss) :
  Calls Tryd.prog 3 #[.agg #[.int .u64 (k0 : Int), .int .u64 (k1 : Int)], .slice A n c] w fun e w' => e = .returned (.bool true) ∧ Below w.heap.size w w' := by
 obtain ⟨hmax, hlen, hok, sb, so, hA, hrng⟩ := hS
 obtain ⟨Z, hz, hzs, hzn⟩ := zero_step
 obtain ⟨ZT, hzt, hzts, hztn⟩ := zero_tabs
 have hzb := zero_rb
 have HBR := Lib.hid (build_rb0 k0 k1)
 obtain ⟨ZOF, hzof⟩ := build_off0
 have HBO := Lib.hid hzof
 clear hzof
 have HHD := Lib.hid (fun W => head_is W)
 have HT := Lib.hid hT
 have HLEN := Lib.hid hlen
 have HOK := Lib.hid hok
 have HA := Lib.hid hA
 have HRNG := Lib.hid hrng
 have HMAX := Lib.hid hmax
 clear hT hlen hok hA hrng hmax
 go_enter Tryd.func3, Tryd.ntmps3
 go_wp2_with fail
 have hk1 := (Below.refl w.heap.size w).alloc (Nat.le_refl _) (.cells #[.int .u64 (k0 : Int), .int .u64 (k1 : Int)] 23)
 have hbx := Has.new w 23 #[.int .u64 (k0 : Int), .int .u64 (k1 : Int)]
 refine (HHD.out _).mono ?_
 rintro _ w1 ⟨rfl, hh⟩
 have hb1 := hk1.trans (hh.mono hk1.size)
 have hbx2 := hbx.below hh hbx.lt
 have HB1 := Lib.hid hb1
 have HBX := Lib.hid hbx2
 have d0 : w1.cell? ⟨w.heap.size, 0, none⟩ = some (.int .u64 (k0 : Int)) := hbx2.cell_is rfl
 have d1 : w1.cell? ⟨w.heap.size, 1, none⟩ = some (.int .u64 (k1 : Int)) := hbx2.cell_is rfl
 clear hk1 hbx hh hb1 hbx2 HHD
 go_wp2_with fail
 refine (lv_new w1 (fun k => w.heap.size ≤ k) (fun k h => Nat.le_trans HB1.out.size h) k0 k1).mono ?_
 rintro _ w2 ⟨g, rfl, hlv, hb2, hg⟩
 have HLV2 := Lib.hid hlv
 have HB2 := Lib.hid (HB1.out.trans (hb2.mono HB1.out.size))
 have hbx3 := HBX.out.below hb2 HBX.out.lt
 have d0 : w2.cell? ⟨w.heap.size, 0, none⟩ = some (.int .u64 (k0 : Int)) := hbx3.cell_is rfl
 have d1 : w2.cell? ⟨w.heap.size, 1, none⟩ = some (.int .u64 (k1 : Int)) := hbx3.cell_is rfl
 clear hlv hb2 hg hbx3
 go_upto_region 5 with (first
  | (refine wpList_build_run rfl 31 #[(2, .tmp 19)] rfl #[(2, .agg #[.int .u64 (k0 : Int), .int .u64 (k1 : Int)])] (by kernel_rfl) (.agg #[.slice none 0 0, .slice none 0 0, .int .u64 (k0 : Int), .int .u64 (k1 : Int)]) (HBR.out _) ?_)
  | (refine wpList_store_row rfl 31 (.tmp 6) (.tmp 20) rfl w2.heap.size #[.slice none 0 0, .slice none 0 0, .int .u64 (k0 : Int), .int .u64 (k1 : Int)] rfl rfl 31 #[.slice none 0 0, .slice none 0 0, .int .u64 0, .int .u64 0] (heap_alloc_new w2 _) (by kernel_rfl) rfl rfl ?_))
 have h5 := Has.new w2 31 #[.slice none 0 0, .slice none 0 0, .int .u64 (k0 : Int), .int .u64 (k1 : Int)]
 have hk5 := (Below.refl w2.heap.size w2).alloc (Nat.le_refl _) (.cells #[.slice none 0 0, .slice none 0 0, .int .u64 (k0 : Int), .int .u64 (k1 : Int)] 31)
 clear d0 d1
 generalize w2.alloc (.cells #[.slice none 0 0, .slice none 0 0, .int .u64 (k0 : Int), .int .u64 (k1 : Int)] 31) = W5 at h5 hk5 ⊢
 have HLV5 := Lib.hid (HLV2.out.quiet hk5)
 have HB5 := Lib.hid (HB2.out.trans (hk5.mono HB2.out.size))
 have HN6 := Lib.hid (show w.heap.size ≤ w2.heap.size from HB2.out.size)
 obtain ⟨B6, hB6⟩ : ∃ y, y = w2.heap.size := ⟨_, rfl⟩
 rw [← hB6] at h5 HN6 ⊢
 have H5 := Lib.hid h5
 clear h5 hk5 hB6 HLV2
 obtain ⟨LT, hLT⟩ : ∃ X, X = tabL := ⟨_, rfl⟩
 have HMK := Lib.hid (show Calls Tryd.prog 6 #[] W5 fun e w' => e = .returned (.agg LT.toArray) ∧ Below W5.heap.size W5 w' from by rw [hLT]; exact make_is W5)
 have HLT := Lib.hid (show LT.length = 72 by rw [hLT]; exact tabL_length)
 have ELT := Lib.hid hLT
 have SZT := Lib.hid (show (Tryd.prog.info? 36).map (·.size) = some LT.toArray.size by rw [List.size_toArray, HLT.out]; kernel_rfl)
 have HZT := Lib.hid (show ZT.size = LT.toArray.size by rw [hzts]; show 72 = LT.length; exact HLT.out.symm)
 have ONET := Lib.hid (show LT.toArray.all (·.oneCell') = true by rw [hLT]; kernel_rfl)
 clear hLT
 go_wp2_with fail
 refine HMK.out.mono ?_
 rintro _ w6 ⟨rfl, hb6⟩
 have hbb6 := HB5.out.trans (hb6.mono HB5.out.size)
 have HB6 := Lib.hid hbb6
 have HLV6 := Lib.hid (HLV5.out.quiet hb6)
 have H6 := Lib.hid (H5.out.below hb6 H5.out.lt)
 clear hb6 hbb6 HMK HLV5
 go_upto_region 6 with (refine wpList_store_row rfl 36 (.tmp 7) (.tmp 21) rfl w6.heap.size LT.toArray rfl rfl 36 ZT (heap_alloc_new w6 _) SZT.out HZT.out ONET.out ?_)
 have hnw : ∀ C, Has ((w6.alloc (.cells ZT 36)).setRow w6.heap.size C) w6.heap.size 36 C ∧ Below w6.heap.size w6 ((w6.alloc (.cells ZT 36)).setRow w6.heap.size C) := fun C => by
  rw [World.setRow_alloc_new]
  exact ⟨Has.new w6 _ _, (Below.refl _ _).alloc (Nat.le_refl _) _⟩
 obtain ⟨h7, hk7⟩ := hnw LT.toArray
 clear hnw
 generalize (w6.alloc (.cells ZT 36)).setRow w6.heap.size LT.toArray = W7 at h7 hk7 ⊢
 have HB7 := Lib.hid (HB6.out.trans (hk7.mono HB6.out.size))
 have HLV7 := Lib.hid (HLV6.out.quiet hk7)
 have H67 := Lib.hid (H6.out.below hk7 H6.out.lt)
 obtain ⟨B7, hB7⟩ : ∃ y, y = w6.heap.size := ⟨_, rfl⟩
 have HNE := Lib.hid (show B6 ≠ B7 by have := H6.out.lt; omega)
 rw [← hB7] at h7 ⊢
 have H7 := Lib.hid h7
 clear h7 hk7 hB7 HLV6 H6 H5 HB6 HB5
 obtain ⟨ZB, hZB⟩ : ∃ y, y = bcells (List.replicate 32 0) := ⟨_, rfl⟩
 have HBH := Lib.hid (show ∀ v, (Instr.build 39 #[]).run Tryd.prog v = .ok (.agg ZB.toArray) v from fun v => by rw [hZB]; exact build_h0 v)
 have HZB := Lib.hid (show ZB.length = 32 by rw [hZB]; rfl)
 have EZB := Lib.hid hZB
 have HI32 := Lib.hid (show (Tryd.prog.info? 39).map (fun i => (i.zero, i.size, i.bytes)) = some (some (.agg ZB.toArray), 32, 32) by rw [hZB]; exact info_h32)
 clear hZB
 obtain ⟨ih, hih⟩ : ∃ ii, Tryd.prog.info? 39 = some ii ∧ ii.zero = some (.agg ZB.toArray) ∧ ii.size = 32 := by
  obtain ⟨ii, q1, q2, q3, -⟩ := info_parts HI32.out
  exact ⟨ii, q1, q2, q3⟩
 have HIH := Lib.hid hih
 clear hih
 have h8 := Has.new W7 39 ZB.toArray
 have hk8 := (Below.refl W7.heap.size W7).alloc (Nat.le_refl _) (.cells ZB.toArray 39)
 have HRUN := Lib.hid (show RunIs w.heap.size w g B6 B7 ⟨[], [], [], k0, k1⟩ [List.replicate 32 0] (.slice (some ⟨W7.heap.size, 0, none⟩) 1 1) (W7.alloc (.cells ZB.toArray 39)) from by
  refine ⟨HLV7.out.quiet hk8, new_tidy k0 k1, fun f => ?_, ⟨_, ⟨[], [], k0, k1⟩, H67.out.below hk8 H67.out.lt, rb0_at _ k0 k1, like_new k0 k1⟩, by rw [← ELT.out]; exact H7.out.below hk8 H7.out.lt, ?_, fun i hi => ?_, HB7.out.trans (hk8.mono HB7.out.size), HN6.out, HNE.out⟩
  · unfold Bk.side; split <;> exact Nat.zero_le _
  · have e : [List.replicate 32 0].flatMap bcells = ZB := by rw [EZB.out]; simp
    rw [e]
    exact ⟨HZB.out, .inr ⟨W7.heap.size, 1, ZB.toArray, rfl, HB7.out.size, h8, by decide, by decide, by rw [List.size_toArray, HZB.out], by show ZB.take 32 = ZB; exact List.take_of_length_le (by rw [HZB.out]; exact Nat.le_refl _)⟩⟩
  · rw [List.mem_singleton.1 hi]
    exact ⟨rfl, fun x hx => by rw [List.eq_of_mem_replicate hx]; decide⟩)
 clear h8 hk8
 go_wp2_with (first
  | (refine wpList_build1 rfl 40 39 (.tmp 22) rfl ih (.agg ZB.toArray) Tryd.underlying40 HIH.out.1 HIH.out.2.1 ZB (by rw [HIH.out.2.2, HZB.out]) (by rw [HZB.out]; show ZB.toArray.size = 32; rw [List.size_toArray, HZB.out]) (by rw [HZB.out]; decide) (by rw [HZB.out]; decide) rfl ?_)
  | (refine wpList_build_run rfl 39 #[] rfl #[] (by kernel_rfl) (.agg ZB.toArray) (HBH.out _) ?_))
 go_loopw [8, 9] (fun rv iv wr => ∃ (k : Nat) (b : Bk) (ids : List (List Nat)) (oa : Option Addr) (oc : Nat), iv = .int .i64 (k : Int) ∧ k ≤ n ∧ k ≤ 80 ∧ ids.length = k + 1 ∧ rv = .slice oa (k + 1) oc ∧ RunIs w.heap.size w g B6 B7 b ids (.slice oa (k + 1) oc) wr) (fun _ iv _ => n - (intOf iv).toNat)
 case atStart => exact ⟨0, _, _, _, _, rfl, Nat.zero_le _, by decide, rfl, rfl, HRUN.out⟩
 case round =>
  clear HRUN
  obtain ⟨k, b, ids, oa, oc, rfl, hk, hk80, hidl, rfl, hrun⟩ := hrel
  have HRUN := Lib.hid hrun
  have HIDL := Lib.hid hidl
  clear hrun hidl
  by_cases hlt : k < n ∧ k < 80
  · obtain ⟨hlt, h80⟩ := hlt
    obtain ⟨s, hs⟩ : ∃ s, ss[k]? = some s := ⟨_, List.getElem?_eq_getElem (by rw [HLEN.out]; exact hlt)⟩
    have hsok := HOK.out s (List.mem_of_getElem? hs)
    obtain ⟨hA1, hA2⟩ := HA.out (by omega)
    subst hA1
    have hrw := rangeAt_kept (HRNG.out k s hs) (Kept.of_below (S := fun _ => False) HRUN.out.below) (fun h => h)
    have hl137 := s.length hsok
    have HRW := Lib.hid hrw
    have SZ := Lib.hid (show (Tryd.prog.info? 44).map (·.size) = some s.cells.length by rw [hl137]; kernel_rfl)
    have SZA := Lib.hid (show (Tryd.prog.info? 44).map (·.size) = some s.cells.toArray.size by rw [List.size_toArray]; exact SZ.out)
    have HZZ := Lib.hid (show Z.size = s.cells.toArray.size by rw [hzs, List.size_toArray, hl137])
    have HONE := Lib.hid (show s.cells.toArray.all (·.oneCell') = true from all_oneCell_toArray (stp_one s))
    have HNW := Lib.hid (show ∀ C, Has ((wr.alloc (.cells Z 44)).setRow wr.heap.size C) wr.heap.size 44 C ∧ Below wr.heap.size wr ((wr.alloc (.cells Z 44)).setRow wr.heap.size C) from fun C => by
     rw [World.setRow_alloc_new]
     exact ⟨Has.new wr _ _, (Below.refl _ _).alloc (Nat.le_refl _) _⟩)
    have HSOK := Lib.hid hsok
    have HLT := Lib.hid (And.intro hlt h80)
    clear hrw hl137 hsok hs
    go_upto_region 11 with (first
     | (refine wpList_load_mid rfl 44 (.tmp 36) rfl sb (so + k * 137) rfl s.cells _ HRW.out Tryd.underlying44 rfl SZ.out ?_)
     | (refine wpList_store_row rfl 44 (.tmp 10) (.tmp 37) rfl wr.heap.size s.cells.toArray rfl rfl 44 Z (heap_alloc_new wr _) SZA.out HZZ.out HONE.out ?_))
    obtain ⟨h3, hk3⟩ := HNW.out s.cells.toArray
    have hr9 := HRUN.out.quiet hk3
    have hNG : w.heap.size ≤ wr.heap.size := HRUN.out.below.size
    clear HNW
    generalize (wr.alloc (.cells Z 44)).setRow wr.heap.size s.cells.toArray = W9 at h3 hk3 hr9 ⊢
    generalize wr.heap.size = G at h3 hk3 hNG ⊢
    obtain ⟨LI, hLI⟩ : ∃ L, L = bcells s.id := ⟨_, rfl⟩
    have hid := stp_id h3
    rw [← hLI] at hid
    have HID := Lib.hid hid
    have HR9 := Lib.hid hr9
    have H3 := Lib.hid h3
    have LLI := Lib.hid (show LI.length = 32 by rw [hLI, bcells_length, HSOK.out.id.1])
    have ELI := Lib.hid hLI
    have SZL := Lib.hid (show (Tryd.prog.info? 39).map (·.size) = some LI.length by rw [LLI.out]; kernel_rfl)
    have hal : Below W9.heap.size W9 (W9.alloc (.cells LI.toArray 39)) := (Below.refl _ _).alloc (Nat.le_refl _) _
    have HR10 := Lib.hid (hr9.quiet hal)
    have HROW1 := Lib.hid (show RowsAt bcells 32 (W9.alloc (.cells LI.toArray 39)) (some ⟨W9.heap.size, 0, none⟩) 1 [s.id] from rows_has (xs := [s.id]) (t := 39) (by have := Has.new W9 39 LI.toArray; rw [hLI] at this ⊢; simpa using this) (fun x hx => by rw [List.mem_singleton.1 hx, bcells_length, HSOK.out.id.1]))
    have HOB := Lib.hid (show ∀ y ∈ [s.id], ∀ u ∈ bcells y, u.oneCell' = true from fun y _ => bcells_one y)
    have HZB32 := Lib.hid (show (Value.agg ZB.toArray).cells.size = 32 by show ZB.toArray.size = 32; rw [List.size_toArray, HZB.out])
    have hown := HR10.out.row
    rw [HIDL.out] at hown
    have HOWN := Lib.hid hown
    have HNB := Lib.hid (show w.heap.size ≤ (W9.alloc (.cells LI.toArray 39)).heap.size from HR10.out.below.size)
    clear hid hLI h3 hk3 hr9 hal hown hNG
    go_upto_region 12 with (first
     | (refine wpList_load_mid rfl 39 (.tmp 39) rfl G 2 rfl LI _ HID.out Tryd.underlying39 rfl SZL.out ?_)
     | (refine wpList_build1 rfl 40 39 (.tmp 40) rfl ih (.agg ZB.toArray) Tryd.underlying40 HIH.out.1 HIH.out.2.1 LI (by rw [HIH.out.2.2, LLI.out]) (by rw [LLI.out]; exact HZB32.out) (by rw [LLI.out]; decide) (by rw [LLI.out]; decide) rfl ?_)
     | (at_builtin; refine wpList_append_rows rfl (.tmp 38) (.tmp 41) 40 rfl w.heap.size 39 (.agg ZB.toArray) 32 Tryd.underlying40 HI32.out HZB32.out (by decide) _ (k + 1) _ rfl HOWN.out _ 1 1 [s.id] rfl HROW1.out HOB.out (by have := HLT.out; unfold maxLen; omega) (by have := HLT.out; omega) HNB.out ?_; intro oa6 oc6 w6 hown6 hgr))
    have hr12 := HR10.out.grow hgr (by rw [HIDL.out]; exact hown6) HSOK.out.id
    have h36 := stp_box (H3.out.alloc (.cells LI.toArray 39)) HR10.out.row hgr
    have HTB := Lib.hid (HT.out.below hr12.below HT.out.low)
    have HSMB := Lib.hid (show Small b (k + 1) by have := HRUN.out.small; rwa [HIDL.out] at this)
    have HLEN6 := Lib.hid (show (ids ++ [s.id]).length = k + 1 + 1 by rw [List.length_append, HIDL.out]; rfl)
    clear hown6 hgr HR9 HR10 HROW1 HOWN HNB HRW HOB HZB32 HZZ HONE SZ HID H3 HRUN HRNG
    obtain ⟨IDS, hIDS⟩ : ∃ y, y = ids ++ [s.id] := ⟨_, rfl⟩
    rw [← hIDS] at hr12 HLEN6
    have EIDS := Lib.hid hIDS
    clear hIDS
    obtain ⟨r, hlk, hmid⟩ := hr12.mid
    obtain ⟨L, hL6, hrb⟩ := hmid.ref
    obtain ⟨p1, p2, p3, p4, p5⟩ := like_room hlk hmid.tidy HSMB.out (by have := HLT.out; omega)
    obtain ⟨g0, g1, g34, g103, -⟩ := stp_get HSOK.out
    have hbok := hmid.tidy.ok
    obtain ⟨KK, hKK⟩ : ∃ x, x = s.K := ⟨_, rfl⟩
    obtain ⟨SD, hSD⟩ : ∃ x, x = s.side := ⟨_, rfl⟩
    obtain ⟨NN, hNN⟩ : ∃ x, x = s.n := ⟨_, rfl⟩
    obtain ⟨NO, hNO⟩ : ∃ x, x = s.no := ⟨_, rfl⟩
    rw [← hKK] at g0
    rw [← hSD] at g1
    rw [← hNN] at g34
    rw [← hNO] at g103
    have HG := Lib.hid (show ∀ v : World, Has v G 44 s.cells.toArray → v.cell? ⟨G, 0, none⟩ = some (.int .i64 KK) ∧ v.cell? ⟨G, 1, none⟩ = some (.int .i64 SD) ∧ v.cell? ⟨G, 34, none⟩ = some (.int .u64 (NN : Int)) ∧ v.cell? ⟨G, 103, none⟩ = some (.int .i64 NO) ∧ v.rangeAt G 2 LI from fun v h => ⟨h.cell_is (by simpa using g0), h.cell_is (by simpa using g1), h.cell_is (by rw [List.getElem?_toArray]; exact g34), h.cell_is (by rw [List.getElem?_toArray]; exact g103), by rw [ELI.out]; exact stp_id h⟩)
    have EK := Lib.hid hKK
    have ESD := Lib.hid hSD
    have ENN := Lib.hid hNN
    have ENO := Lib.hid hNO
    have HMID := Lib.hid hmid
    have HLK := Lib.hid hlk
    have H36 := Lib.hid h36
    have HL6 := Lib.hid hL6
    have HRB := Lib.hid hrb
    have HP1 := Lib.hid p1
    have HP2 := Lib.hid p2
    have HP3 := Lib.hid p3
    have HP4 := Lib.hid p4
    have HP5 := Lib.hid p5
    have SZRB := Lib.hid (show ∀ (X : List Value), X.length = 4 → (Tryd.prog.info? 31).map (·.size) = some X.toArray.size from fun X h => by rw [List.size_toArray]; exact size_rb h)
    have c0 : w6.cell? ⟨G, 0, none⟩ = some (.int .i64 KK) := (HG.out w6 h36).1
    have HEND := Lib.hid (show ∀ v v' b' r', stepB KS SS b s = b' → stepR KS SS r s = r' → MidIs w.heap.size w g B6 B7 b r' IDS (.slice oa6 (k + 1 + 1) oc6) v → Calm w.heap.size v v' → Lv (fun k => w.heap.size ≤ k) v' g b' → RunIs w.heap.size w g B6 B7 b' IDS (.slice oa6 (k + 1 + 1) oc6) v' from fun v v' b' r' e1 e2 hm hc hl => (hm.calm hc hl (by rw [← e1]; exact step_tidy KS SS HTB.out.len hm.tidy HSOK.out)).run (by rw [← e1, ← e2]; exact like_step HLK.out hm.tidy KS SS s) (by rw [← e1, HLEN6.out]; exact step_small HSMB.out KS SS s))
    clear hKK hSD hNN hNO hmid hlk h36 hL6 hrb p1 p2 p3 p4 p5 hr12 g0 g1 g34 g103
    go_upto_block 2 with (fail)
    go_cut [11, 12, 13] from 43 to 129 (fun ev fv ov wx => ∃ e : Int, ev = .int .i64 e ∧ fv = .int .i64 e ∧ RunIs w.heap.size w g B6 B7 (stepB KS SS b s) IDS (.slice oa6 (k + 1 + 1) oc6) wx)
    case first =>
     obtain ⟨c0, c1, c34, c103, cId⟩ := HG.out w6 H36.out
     have CI := Lib.hid cId
     have HSOKN := Lib.hid (show NN < 18446744073709551616 by rw [ENN.out]; exact HSOK.out.n)
     clear cId
     by_cases hK0 : KK = 0
     · subst hK0
       have EB := Lib.hid (show stepB KS SS b s = fundN b SD s.id NN by unfold stepB; rw [if_pos EK.out.symm, ← ESD.out, ← ENN.out])
       have ER := Lib.hid (show stepR KS SS r s = fundRB r SD s.id NN by unfold stepR; rw [if_pos EK.out.symm, ← ESD.out, ← ENN.out])
       obtain ⟨FE, hFE⟩ : ∃ x, x = fundE b SD s.id NN := ⟨_, rfl⟩
       have HF := Lib.hid (show Calls Tryd.prog 7 #[.agg L.toArray, .int .i64 SD, .agg LI.toArray, .int .u64 (NN : Int)] w6 fun e w' => (∃ L', e = .returned (.tuple #[.agg L'.toArray, .int .i64 FE]) ∧ RbAt w' L' (fundRB r SD s.id NN)) ∧ Below w6.heap.size w6 w' from by rw [ELI.out, hFE, ← like_fundE HLK.out]; exact rbFund_is w6 L r HRB.out HP1.out (Nat.le_trans HP2.out (by decide)) SD s.id HSOK.out.id NN HSOKN.out (HP3.out s.id))
       have HCF := Lib.hid (show ∀ v r', MidIs w.heap.size w g B6 B7 b r' IDS (.slice oa6 (k + 1 + 1) oc6) v → Calls Tryd.prog 8 #[.pointer (some ⟨g, 0, none⟩), .int .i64 SD, .agg LI.toArray, .int .u64 (NN : Int)] v fun e w' => e = .returned (.int .i64 FE) ∧ Lv (fun k => w.heap.size ≤ k) w' g (fundN b SD s.id NN) ∧ Calm w.heap.size v w' from fun v r' hm => by rw [ELI.out, hFE]; exact calm_fund hm.live hm.size hm.tidy.ok SD s.id NN HSOK.out.id HSOKN.out)
       clear hFE c103
       go_wp2_with (first | (refine wpList_load_row rfl 31 (.tmp 6) rfl B6 rfl 31 L.toArray (0, 0) _ HL6.out Tryd.underlying31 rfl (SZRB.out _ HRB.out.len) ?_) | (refine wpList_load_mid rfl 39 (.tmp 51) rfl G 2 rfl LI _ CI.out Tryd.underlying39 rfl SZL.out ?_))
       refine HF.out.mono ?_
       rintro _ w7 ⟨⟨L', rfl, hr7⟩, hb7⟩
       have hm8 := HMID.out.store hb7 hr7
       have hl7 := HL6.out.below hb7 HL6.out.lt
       have h38 := stp_set (C := L'.toArray) (H36.out.below hb7 H36.out.lt) hl7
       have HL7 := Lib.hid hl7
       have SZ7 := Lib.hid (SZRB.out _ hr7.len)
       have ZZ7 := Lib.hid (show L.toArray.size = L'.toArray.size by rw [List.size_toArray, List.size_toArray, HRB.out.len, hr7.len])
       have ONE7 := Lib.hid hr7.one
       have HM8 := Lib.hid hm8
       have H38 := Lib.hid h38
       clear hm8 h38 hl7 hb7 hr7
       go_upto_region 17 with (refine wpList_store_row rfl 31 (.tmp 6) (.tmp 56) rfl B6 L'.toArray rfl rfl 31 L.toArray HL7.out SZ7.out ZZ7.out ONE7.out ?_)
       clear HL7 SZ7 ZZ7 ONE7
       generalize w7.setRow B6 L'.toArray = w8 at HM8 H38 ⊢
       obtain ⟨d0, d1, d34, d103, dId⟩ := HG.out w8 H38.out
       have DI := Lib.hid dId
       clear c0 c1 c34 d103 dId
       go_wp2_with ((refine wpList_load_mid rfl 39 (.tmp 61) rfl G 2 rfl LI _ DI.out Tryd.underlying39 rfl SZL.out ?_))
       refine (HCF.out w8 _ HM8.out).mono ?_
       rintro _ w9 ⟨rfl, hl9, hc9⟩
       have HE9 := Lib.hid (HEND.out w8 w9 _ _ EB.out ER.out HM8.out hc9 hl9)
       clear hl9 hc9
       go_wp2
       go_meet
       case rel => exact ⟨_, rfl, rfl, by rw [EB.out]; exact HE9.out⟩
     · have HK0 := Lib.hid (show ¬ s.K = 0 from fun e => hK0 (by rw [EK.out]; exact e))
       by_cases hK1 : KK = 1
       · subst hK1
         have EB := Lib.hid (show stepB KS SS b s = offN b (s.offer KS SS) by unfold stepB; rw [if_neg HK0.out, if_pos EK.out.symm])
         have ER := Lib.hid (show stepR KS SS r s = offRB r (s.offer KS SS) by unfold stepR; rw [if_neg HK0.out, if_pos EK.out.symm])
         have hso := stepOffer_is KS SS w6 HTB.out s HSOK.out
         have hOok : (s.offer KS SS).ok := stp_offer_ok KS SS HTB.out.len s HSOK.out
         obtain ⟨O, hO⟩ : ∃ O, O = s.offer KS SS := ⟨_, rfl⟩
         rw [← hO] at hso hOok EB ER
         have HSO := Lib.hid hso
         have HOOK := Lib.hid hOok
         obtain ⟨OC, hOC⟩ : ∃ y, y = O.cells := ⟨_, rfl⟩
         rw [← hOC] at HSO
         have LOC := Lib.hid (show OC.length = 68 by rw [hOC]; exact Off.length O hOok)
         obtain ⟨ZO, hzo, hzos, hzon⟩ := zero_bo
         have SZO := Lib.hid (show (Tryd.prog.info? 42).map (·.size) = some OC.toArray.size by rw [List.size_toArray, LOC.out]; kernel_rfl)
         have ZZO := Lib.hid (show ZO.size = OC.toArray.size by rw [hzos, List.size_toArray, LOC.out])
         have ONEO := Lib.hid (show OC.toArray.all (·.oneCell') = true by rw [hOC]; exact all_oneCell_toArray (off_one O))
         have HNO := Lib.hid (show ∀ (v : World) C, Has ((v.alloc (.cells ZO 42)).setRow v.heap.size C) v.heap.size 42 C ∧ Below v.heap.size v ((v.alloc (.cells ZO 42)).setRow v.heap.size C) from fun v C => by
           rw [World.setRow_alloc_new]
           exact ⟨Has.new v _ _, (Below.refl _ _).alloc (Nat.le_refl _) _⟩)
         obtain ⟨XI, hXI⟩ : ∃ y, y = bcells O.id := ⟨_, rfl⟩
         obtain ⟨XK, hXK⟩ : ∃ y, y = bcells O.lock := ⟨_, rfl⟩
         obtain ⟨xn, hxn⟩ : ∃ v, v = O.no := ⟨_, rfl⟩
         obtain ⟨xf, hxf⟩ : ∃ v, v = O.frm := ⟨_, rfl⟩
         obtain ⟨xa, hxa⟩ : ∃ v, v = O.am := ⟨_, rfl⟩
         obtain ⟨xt, hxt⟩ : ∃ v, v = O.til := ⟨_, rfl⟩
         have SZI := Lib.hid (show (Tryd.prog.info? 39).map (·.size) = some XI.length by rw [hXI, bcells_length, HOOK.out.1.1]; kernel_rfl)
         have SZK := Lib.hid (show (Tryd.prog.info? 39).map (·.size) = some XK.length by rw [hXK, bcells_length, HOOK.out.2.1.1]; kernel_rfl)
         have HBLD := Lib.hid (show ∀ v, (Instr.build 52 #[(0, .int .i64 xn), (1, .int .i64 xf), (2, .agg XI.toArray), (3, .int .u64 (xa : Int)), (4, .agg XK.toArray), (5, .int .i64 xt)]).run Tryd.prog v = .ok (.agg OC.toArray) v from fun v => by rw [hOC, hxn, hxf, hXI, hxa, hXK, hxt]; exact build_ro O HOOK.out v)
         have HOB := Lib.hid (show ∀ (v : World) Q, Has v Q 42 OC.toArray → v.cell? ⟨Q, 0, none⟩ = some (.int .i64 xn) ∧ v.cell? ⟨Q, 1, none⟩ = some (.int .i64 xf) ∧ v.rangeAt Q 2 XI ∧ v.cell? ⟨Q, 34, none⟩ = some (.int .u64 (xa : Int)) ∧ v.rangeAt Q 35 XK ∧ v.cell? ⟨Q, 67, none⟩ = some (.int .i64 xt) from fun v Q h => by
           rw [hOC] at h
           obtain ⟨e0, e1, e34, e67⟩ := off_cells O HOOK.out
           rw [hxn, hxf, hXI, hxa, hXK, hxt]
           exact ⟨h.cell_is (by rw [List.getElem?_toArray]; exact e0), h.cell_is (by rw [List.getElem?_toArray]; exact e1), off_id h, h.cell_is (by rw [List.getElem?_toArray]; exact e34), off_lock HOOK.out h, h.cell_is (by rw [List.getElem?_toArray]; exact e67)⟩)
         obtain ⟨FE, hFE⟩ : ∃ x, x = offE b O := ⟨_, rfl⟩
         have HF := Lib.hid (show ∀ v, Below w6.heap.size w6 v → Calls Tryd.prog 10 #[.agg L.toArray, .agg OC.toArray] v fun e w' => (∃ L', e = .returned (.tuple #[.agg L'.toArray, .int .i64 FE]) ∧ RbAt w' L' (offRB r O)) ∧ Below v.heap.size v w' from fun v hv => by rw [hOC, hFE, ← like_offE HLK.out]; exact rbOffer_is v L r (HRB.out.below hv) HP1.out HP2.out O HOOK.out)
         have HCF := Lib.hid (show ∀ v r', MidIs w.heap.size w g B6 B7 b r' IDS (.slice oa6 (k + 1 + 1) oc6) v → Calls Tryd.prog 11 #[.pointer (some ⟨g, 0, none⟩), .agg OC.toArray] v fun e w' => e = .returned (.int .i64 FE) ∧ Lv (fun k => w.heap.size ≤ k) w' g (offN b O) ∧ Calm w.heap.size v w' from fun v r' hm => by rw [hOC, hFE]; exact calm_offer hm.live hm.size hm.tidy.ok O HOOK.out)
         clear hFE hOC hO hso hOok hXI hXK hxn hxf hxa hxt hzos c1 c34 c103 hK0
         go_wp2_with (refine wpList_load_row rfl 44 (.tmp 10) rfl G rfl 44 s.cells.toArray (0, 0) _ H36.out Tryd.underlying44 rfl SZA.out ?_)
         refine HSO.out.mono ?_
         rintro _ wo ⟨rfl, hbo⟩
         have HBO := Lib.hid hbo
         clear hbo
         go_upto_region 20 with (refine wpList_store_row rfl 42 (.tmp 13) (.tmp 69) rfl wo.heap.size OC.toArray rfl rfl 42 ZO (heap_alloc_new wo _) SZO.out ZZO.out ONEO.out ?_)
         obtain ⟨h13, hk13⟩ := HNO.out wo OC.toArray
         have hb13 := HBO.out.trans (hk13.mono HBO.out.size)
         clear HNO hk13 c0
         generalize (wo.alloc (.cells ZO 42)).setRow wo.heap.size OC.toArray = wq at h13 hb13 ⊢
         generalize wo.heap.size = Q at h13 ⊢
         obtain ⟨c0, c1, cI, c34, cK, c67⟩ := HOB.out wq Q h13
         have CQI := Lib.hid cI
         have CQK := Lib.hid cK
         have H13 := Lib.hid h13
         have HB13 := Lib.hid hb13
         have HLQ := Lib.hid (HL6.out.below hb13 HL6.out.lt)
         clear cI cK h13 hb13
         go_wp2_with (first
           | (refine wpList_load_row rfl 31 (.tmp 6) rfl B6 rfl 31 L.toArray (0, 0) _ HLQ.out Tryd.underlying31 rfl (SZRB.out _ HRB.out.len) ?_)
           | (refine wpList_load_mid rfl 39 (.tmp 76) rfl Q 2 rfl XI _ CQI.out Tryd.underlying39 rfl SZI.out ?_)
           | (refine wpList_load_mid rfl 39 (.tmp 80) rfl Q 35 rfl XK _ CQK.out Tryd.underlying39 rfl SZK.out ?_)
           | (refine wpList_build_run rfl 52 #[(0, .tmp 73), (1, .tmp 75), (2, .tmp 77), (3, .tmp 79), (4, .tmp 81), (5, .tmp 83)] rfl #[(0, .int .i64 xn), (1, .int .i64 xf), (2, .agg XI.toArray), (3, .int .u64 (xa : Int)), (4, .agg XK.toArray), (5, .int .i64 xt)] (by kernel_rfl) (.agg OC.toArray) (HBLD.out _) ?_))
         refine (HF.out wq HB13.out).mono ?_
         rintro _ w7 ⟨⟨L', rfl, hr7⟩, hb7⟩
         have h137 := H13.out.below hb7 H13.out.lt
         replace hb7 := HB13.out.trans (hb7.mono HB13.out.size)
         have h138 := h137.kept (kept_setRow (g := B6) w7 L'.toArray) (fun e => h137.ne (HL6.out.below hb7 HL6.out.lt) (by decide) e)
         have H138 := Lib.hid h138
         clear h137 h138 c0 c1 c34 c67 CQI CQK HLQ
         have hm8 := HMID.out.store hb7 hr7
         have hl7 := HL6.out.below hb7 HL6.out.lt
         have h38 := stp_set (C := L'.toArray) (H36.out.below hb7 H36.out.lt) hl7
         have HL7 := Lib.hid hl7
         have SZ7 := Lib.hid (SZRB.out _ hr7.len)
         have ZZ7 := Lib.hid (show L.toArray.size = L'.toArray.size by rw [List.size_toArray, List.size_toArray, HRB.out.len, hr7.len])
         have ONE7 := Lib.hid hr7.one
         have HM8 := Lib.hid hm8
         have H38 := Lib.hid h38
         clear hm8 h38 hl7 hb7 hr7
         go_upto_region 21 with (refine wpList_store_row rfl 31 (.tmp 6) (.tmp 86) rfl B6 L'.toArray rfl rfl 31 L.toArray HL7.out SZ7.out ZZ7.out ONE7.out ?_)
         clear HL7 SZ7 ZZ7 ONE7
         generalize w7.setRow B6 L'.toArray = w8 at HM8 H38 H138 ⊢
         obtain ⟨d0, d1, d34, d103, dId⟩ := HG.out w8 H38.out
         have DI := Lib.hid dId
         clear d0 d1 d34 d103 dId
         go_wp2_with (refine wpList_load_row rfl 42 (.tmp 13) rfl Q rfl 42 OC.toArray (0, 0) _ H138.out Tryd.underlying42 rfl SZO.out ?_)
         refine (HCF.out w8 _ HM8.out).mono ?_
         rintro _ w9 ⟨rfl, hl9, hc9⟩
         have HE9 := Lib.hid (HEND.out w8 w9 _ _ EB.out ER.out HM8.out hc9 hl9)
         clear hl9 hc9
         go_wp2
         go_meet
         case rel => exact ⟨_, rfl, rfl, by rw [EB.out]; exact HE9.out⟩
       · have HK1 := Lib.hid (show ¬ s.K = 1 from fun e => hK1 (by rw [EK.out]; exact e))
         by_cases hK2 : KK = 2
         · subst hK2
           have EB := Lib.hid (show stepB KS SS b s = settleN KS SS b SD NO s.sec by unfold stepB; rw [if_neg HK0.out, if_neg HK1.out, if_pos EK.out.symm, ← ESD.out, ← ENO.out])
           have ER := Lib.hid (show stepR KS SS r s = settleRB KS SS r SD NO s.sec by unfold stepR; rw [if_neg HK0.out, if_neg HK1.out, if_pos EK.out.symm, ← ESD.out, ← ENO.out])
           obtain ⟨LS, hLS⟩ : ∃ y, y = bcells s.sec := ⟨_, rfl⟩
           have ELS := Lib.hid hLS
           have HSEC := Lib.hid (show ∀ v : World, Has v G 44 s.cells.toArray → v.rangeAt G 104 LS from fun v h => by rw [hLS]; exact stp_sec HSOK.out h)
           have SZS := Lib.hid (show (Tryd.prog.info? 39).map (·.size) = some LS.length by rw [hLS, bcells_length, HSOK.out.sec.1]; kernel_rfl)
           have CS := Lib.hid (HSEC.out w6 H36.out)
           obtain ⟨LT, hLT⟩ : ∃ y, y = tabL := ⟨_, rfl⟩
           have HTAB := HMID.out.tab
           rw [← hLT] at HTAB
           have HTB7 := Lib.hid HTAB
           have SZT7 := Lib.hid (show (Tryd.prog.info? 36).map (·.size) = some LT.toArray.size by rw [List.size_toArray, hLT, tabL_length]; kernel_rfl)
           obtain ⟨FE, hFE⟩ : ∃ x, x = settleE KS SS b SD NO s.sec := ⟨_, rfl⟩
           have HF := Lib.hid (show Calls Tryd.prog 12 #[.agg L.toArray, .agg LT.toArray, .int .i64 SD, .int .i64 NO, .agg LS.toArray] w6 fun e w' => (∃ L', e = .returned (.tuple #[.agg L'.toArray, .int .i64 FE]) ∧ RbAt w' L' (settleRB KS SS r SD NO s.sec)) ∧ Below w6.heap.size w6 w' from by rw [hLS, hFE, hLT, tab_words, ← like_settleE HLK.out]; exact rbSettle_is KS SS rfl HTB.out.len w6 L r HRB.out HP1.out (Nat.le_trans HP2.out (by decide)) SD NO s.sec HSOK.out.sec HP4.out (fun o ho hf => (HP5.out SD o ho hf).2))
           have HCF := Lib.hid (show ∀ v r', MidIs w.heap.size w g B6 B7 b r' IDS (.slice oa6 (k + 1 + 1) oc6) v → Calls Tryd.prog 13 #[.pointer (some ⟨g, 0, none⟩), .int .i64 SD, .int .i64 NO, .agg LS.toArray] v fun e w' => e = .returned (.int .i64 FE) ∧ Lv (fun k => w.heap.size ≤ k) w' g (settleN KS SS b SD NO s.sec) ∧ Calm w.heap.size v w' from fun v r' hm => by rw [hLS, hFE]; exact calm_settle KS SS (HT.out.below hm.below HT.out.low) hm.live hm.size hm.tidy SD NO s.sec HSOK.out.sec)
           clear hFE hLS hLT HTAB c34 hK0 hK1
           go_wp2_with (first | (refine wpList_load_row rfl 31 (.tmp 6) rfl B6 rfl 31 L.toArray (0, 0) _ HL6.out Tryd.underlying31 rfl (SZRB.out _ HRB.out.len) ?_) | (refine wpList_load_row rfl 36 (.tmp 7) rfl B7 rfl 36 LT.toArray (0, 0) _ HTB7.out Tryd.underlying36 rfl SZT7.out ?_) | (refine wpList_load_mid rfl 39 (.tmp 100) rfl G 104 rfl LS _ CS.out Tryd.underlying39 rfl SZS.out ?_))
           refine HF.out.mono ?_
           rintro _ w7 ⟨⟨L', rfl, hr7⟩, hb7⟩
           have hm8 := HMID.out.store hb7 hr7
           have hl7 := HL6.out.below hb7 HL6.out.lt
           have h38 := stp_set (C := L'.toArray) (H36.out.below hb7 H36.out.lt) hl7
           have HL7 := Lib.hid hl7
           have SZ7 := Lib.hid (SZRB.out _ hr7.len)
           have ZZ7 := Lib.hid (show L.toArray.size = L'.toArray.size by rw [List.size_toArray, List.size_toArray, HRB.out.len, hr7.len])
           have ONE7 := Lib.hid hr7.one
           have HM8 := Lib.hid hm8
           have H38 := Lib.hid h38
           clear hm8 h38 hl7 hb7 hr7
           go_upto_region 24 with (refine wpList_store_row rfl 31 (.tmp 6) (.tmp 103) rfl B6 L'.toArray rfl rfl 31 L.toArray HL7.out SZ7.out ZZ7.out ONE7.out ?_)
           clear HL7 SZ7 ZZ7 ONE7
           generalize w7.setRow B6 L'.toArray = w8 at HM8 H38 ⊢
           obtain ⟨d0, d1, d34, d103, dId⟩ := HG.out w8 H38.out
           have DI := Lib.hid dId
           have DS := Lib.hid (HSEC.out w8 H38.out)
           clear c0 c1 c103 d34 dId
           go_wp2_with ((refine wpList_load_mid rfl 39 (.tmp 110) rfl G 104 rfl LS _ DS.out Tryd.underlying39 rfl SZS.out ?_))
           refine (HCF.out w8 _ HM8.out).mono ?_
           rintro _ w9 ⟨rfl, hl9, hc9⟩
           have HE9 := Lib.hid (HEND.out w8 w9 _ _ EB.out ER.out HM8.out hc9 hl9)
           clear hl9 hc9
           go_wp2
           go_meet
           case rel => exact ⟨_, rfl, rfl, by rw [EB.out]; exact HE9.out⟩
         · have HK2 := Lib.hid (show ¬ s.K = 2 from fun e => hK2 (by rw [EK.out]; exact e))
           by_cases hK3 : KK = 3
           · subst hK3
             have EB := Lib.hid (show stepB KS SS b s = backN b SD NO by unfold stepB; rw [if_neg HK0.out, if_neg HK1.out, if_neg HK2.out, if_pos EK.out.symm, ← ESD.out, ← ENO.out])
             have ER := Lib.hid (show stepR KS SS r s = backRB r SD NO by unfold stepR; rw [if_neg HK0.out, if_neg HK1.out, if_neg HK2.out, if_pos EK.out.symm, ← ESD.out, ← ENO.out])
             obtain ⟨FE, hFE⟩ : ∃ x, x = backE b SD NO := ⟨_, rfl⟩
             have HF := Lib.hid (show Calls Tryd.prog 14 #[.agg L.toArray, .int .i64 SD, .int .i64 NO] w6 fun e w' => (∃ L', e = .returned (.tuple #[.agg L'.toArray, .int .i64 FE]) ∧ RbAt w' L' (backRB r SD NO)) ∧ Below w6.heap.size w6 w' from by rw [hFE, ← like_backE HLK.out]; exact rbBack_is w6 L r HRB.out HP1.out (Nat.le_trans HP2.out (by decide)) SD NO (fun o ho hf => (HP5.out SD o ho hf).1))
             have HCF := Lib.hid (show ∀ v r', MidIs w.heap.size w g B6 B7 b r' IDS (.slice oa6 (k + 1 + 1) oc6) v → Calls Tryd.prog 15 #[.pointer (some ⟨g, 0, none⟩), .int .i64 SD, .int .i64 NO] v fun e w' => e = .returned (.int .i64 FE) ∧ Lv (fun k => w.heap.size ≤ k) w' g (backN b SD NO) ∧ Calm w.heap.size v w' from fun v r' hm => by rw [hFE]; exact calm_back hm.live hm.size hm.tidy SD NO)
             clear hFE c34 hK0 hK1 hK2
             go_wp2_with (refine wpList_load_row rfl 31 (.tmp 6) rfl B6 rfl 31 L.toArray (0, 0) _ HL6.out Tryd.underlying31 rfl (SZRB.out _ HRB.out.len) ?_)
             refine HF.out.mono ?_
             rintro _ w7 ⟨⟨L', rfl, hr7⟩, hb7⟩
             have hm8 := HMID.out.store hb7 hr7
             have hl7 := HL6.out.below hb7 HL6.out.lt
             have h38 := stp_set (C := L'.toArray) (H36.out.below hb7 H36.out.lt) hl7
             have HL7 := Lib.hid hl7
             have SZ7 := Lib.hid (SZRB.out _ hr7.len)
             have ZZ7 := Lib.hid (show L.toArray.size = L'.toArray.size by rw [List.size_toArray, List.size_toArray, HRB.out.len, hr7.len])
             have ONE7 := Lib.hid hr7.one
             have HM8 := Lib.hid hm8
             have H38 := Lib.hid h38
             clear hm8 h38 hl7 hb7 hr7
             go_upto_region 27 with (refine wpList_store_row rfl 31 (.tmp 6) (.tmp 122) rfl B6 L'.toArray rfl rfl 31 L.toArray HL7.out SZ7.out ZZ7.out ONE7.out ?_)
             clear HL7 SZ7 ZZ7 ONE7
             generalize w7.setRow B6 L'.toArray = w8 at HM8 H38 ⊢
             obtain ⟨d0, d1, d34, d103, dId⟩ := HG.out w8 H38.out
             have DI := Lib.hid dId
             clear c0 c1 c103 d34 dId
             go_wp2_with fail
             refine (HCF.out w8 _ HM8.out).mono ?_
             rintro _ w9 ⟨rfl, hl9, hc9⟩
             have HE9 := Lib.hid (HEND.out w8 w9 _ _ EB.out ER.out HM8.out hc9 hl9)
             clear hl9 hc9
             go_wp2
             go_meet
             case rel => exact ⟨_, rfl, rfl, by rw [EB.out]; exact HE9.out⟩
           · have HK3 := Lib.hid (show ¬ s.K = 3 from fun e => hK3 (by rw [EK.out]; exact e))
             have EB := Lib.hid (show stepB KS SS b s = b by unfold stepB; rw [if_neg HK0.out, if_neg HK1.out, if_neg HK2.out, if_neg HK3.out])
             have ER := Lib.hid (show stepR KS SS r s = r by unfold stepR; rw [if_neg HK0.out, if_neg HK1.out, if_neg HK2.out, if_neg HK3.out])
             have HE9 := Lib.hid (HMID.out.run HLK.out (HSMB.out.more (by rw [HLEN6.out]; omega)))
             clear c1 c34 c103
             go_wp2
             go_meet
             case rel => exact ⟨_, rfl, rfl, by rw [EB.out]; exact HE9.out⟩
    case rest =>
     obtain ⟨wx, hwx⟩ : ∃ x, x = wc := ⟨_, rfl⟩
     subst hwx
     obtain ⟨e, rfl, rfl, hrun⟩ := hcut
     clear HEND c0 HMID HLK H36 HL6 HRB HP1 HP2 HP3 HP4 HP5 SZRB HTB HSMB hbok
     obtain ⟨b2, hb2⟩ : ∃ y, y = stepB KS SS b s := ⟨_, rfl⟩
     rw [← hb2] at hrun
     clear hb2
     obtain ⟨L2, r2, hL2, hrb2, hlk2⟩ := hrun.ref
     have hrow := hrun.row
     rw [EIDS.out] at hrow
     obtain ⟨q, rfl, hqc, hrw1, hrw2⟩ := ids_at hrow HIDL.out (by rw [← EIDS.out]; exact hrun.hash)
     have HRUN2 := Lib.hid hrun
     have HL2 := Lib.hid hL2
     have LEN2 := Lib.hid hrb2.len
     have SZ2 := Lib.hid (size_rb hrb2.len)
     obtain ⟨qo, hqo⟩ : ∃ y, y = 0 + (k + 1) * 32 := ⟨_, rfl⟩
     obtain ⟨qc, hqcc⟩ : ∃ y, y = oc6 - (k + 1) := ⟨_, rfl⟩
     rw [← hqo] at hrw2
     have HSL := Lib.hid (show ∀ v : World, (Instr.slice 40 (.slice (some ⟨q, 0, none⟩) (k + 1 + 1) oc6) (some (.int .i64 ((k + 1 : Nat) : Int))) none none).run Tryd.prog v = .ok (.slice (some ⟨q, qo, none⟩) 1 qc) v from fun v => by rw [hqo, hqcc]; exact ids_last q 0 (k + 1) oc6 hqc v)
     clear hqo hqcc
     have HIS := Lib.hid (show ∀ v, Below wx.heap.size wx v → Calls Tryd.prog 16 #[.pointer (some ⟨g, 0, none⟩), .agg L2.toArray, .slice (some ⟨q, qo, none⟩) 1 qc] v fun e w' => e = .returned (.bool true) ∧ Below v.heap.size v w' from fun v hv => is_is v (fun k => w.heap.size ≤ k) g b2 (hrun.live.quiet hv) hrun.tidy (hrun.small.more (by rw [HLEN6.out]; have := HLT.out; omega)) L2 r2 (hrb2.below hv) hlk2 _ 1 _ [s.id] (hrw2.below hv) (fun i hi => by rw [List.mem_singleton.1 hi]; exact HSOK.out.id) (by decide))
     clear hrun hL2 hrb2 hlk2 hrow hrw1 hrw2 hqc
     have HW := Lib.hid (show IntKind.i64.wrap ((k : Int) + 1) = (k : Int) + 1 by rw [IntKind.wrap_i64]; have := HLT.out; omega)
     go_upto_region 28 with (fail)
     have hS0 : Below wx.heap.size wx wx.drew := (Below.refl _ _).drew
     refine wp_region_noPanic ?_
     refine wp_region_held_drew (S := (fun v => Below wx.heap.size wx v)) (by kernel_rfl) hS0 (fun hH0 => ?_)
     apply tk 0 (v := _) rfl (Or.inl ⟨by kernel_rfl, ?hv⟩) hH0 ?_
     case hv => intro w' hS; go_simp; try exact rfl
     simp only [Act.put, qa]
     apply tk 1 (v := _) rfl (Or.inl ⟨by kernel_rfl, ?hv⟩) hH0 ?_
     case hv => intro w' hS; go_simp; try exact rfl
     simp only [Act.put, qa]
     apply tk 2 (v := _) rfl (Or.inl ⟨by kernel_rfl, ?hv⟩) hH0 ?_
     case hv => intro w' hS; go_simp; try exact rfl
     simp only [Act.put, qa]
     apply tk 3 (v := _) rfl (Or.inl ⟨by kernel_rfl, ?hv⟩) hH0 ?_
     case hv => intro w' hS; go_simp; try exact rfl
     simp only [Act.put, qa]
     apply tk 4 (v := _) rfl (Or.inl ⟨by kernel_rfl, ?hv⟩) hH0 ?_
     case hv => intro w' hS; go_simp; try exact rfl
     simp only [Act.put, qa]
     refine tk 5 (v := (.agg L2.toArray)) rfl (yieldsIf_load_mid (by kernel_rfl) 31 (.tmp 6) rfl B6 0 rfl L2 _ (fun w' h => ((HL2.out.below h HL2.out.lt).row0)) Tryd.underlying31 rfl SZ2.out) hH0 ?_
     simp only [Act.put, qa]
     apply tk 6 (v := _) rfl (Or.inl ⟨by kernel_rfl, ?hv⟩) hH0 ?_
     case hv => intro w' hS; go_simp; try exact rfl
     simp only [Act.put, qa]
     apply tk 7 (v := _) rfl (Or.inl ⟨by kernel_rfl, ?hv⟩) hH0 ?_
     case hv => intro w' hS; go_simp; try exact rfl
     simp only [Act.put, qa]
     apply tk 8 (v := _) rfl (Or.inl ⟨by kernel_rfl, ?hv⟩) hH0 ?_
     case hv => intro w' hS; go_simp; try exact rfl
     simp only [Act.put, qa]
     refine tk 9 (v := (.int .i64 ((k + 1 : Nat) : Int))) rfl (Or.inl ⟨by kernel_rfl, by intro w' hS; have z0 := HW.out; go_simp; try exact rfl⟩) hH0 ?_
     simp only [Act.put, qa]
     refine tk 10 (v := (.slice (some ⟨q, qo, none⟩) 1 qc)) rfl (yieldsIf_sliceL (by kernel_rfl) 40 (.tmp 136) (.tmp 139) rfl (by kernel_rfl) (.slice (some ⟨q, 0, none⟩) (k + 1 + 1) oc6) (.int .i64 ((k + 1 : Nat) : Int)) rfl rfl _ (fun w' _ => HSL.out w')) hH0 ?_
     simp only [Act.put, qa]
     refine wpAnyH_ready (rs := [11]) (by kernel_rfl) (by simp) ?_
     refine AllReadyH.cons rfl (fun KK hKK => ?_) AllReadyH.nil
     go_simp
     refine (HIS.out _ hH0).mono ?_
     rintro _ x11 ⟨rfl, hx11⟩
     have hs1 := Below.trans hH0 (hx11.mono hH0.size)
     clear hx11
     refine Shut.out hKK _ _ hs1 (fun hH1 => ?_)
     clear hKK KK
     try simp only [Act.put, qa]
     apply tk 12 (v := _) rfl (Or.inl ⟨by kernel_rfl, ?hv⟩) hH1 ?_
     case hv => intro w' hS; go_simp; try exact rfl
     simp only [Act.put, qa]
     apply tk 13 (v := _) rfl (Or.inl ⟨by kernel_rfl, ?hv⟩) hH1 ?_
     case hv => intro w' hS; go_simp; try exact rfl
     simp only [Act.put, qa]
     refine wpAnyH_done (by kernel_rfl) ?_ _
     have HRUN3 := Lib.hid (HRUN2.out.quiet hs1)
     clear hs1 hS0 HIS HL2 HRUN2
     refine NoPanic.normal ?_
     go_wp2_with fail
     go_roundw
     case rel => exact ⟨k + 1, b2, IDS, _, _, by go_num, by have := HLT.out; omega, by have := HLT.out; omega, HLEN6.out, rfl, HRUN3.out⟩
     case measure => have := HLT.out; simp [intOf]; omega
  · by_cases hlt2 : k < n
    all_goals
     try have h80 : ¬ k < 80 := fun e => hlt ⟨hlt2, e⟩
     clear hlt
     obtain ⟨L2, r2, hL2, hrb2, hlk2⟩ := HRUN.out.ref
     have hrow := HRUN.out.row
     rw [HIDL.out] at hrow
     obtain ⟨hrw1, -⟩ := own_rows hrow HIDL.out (fun i hi => by rw [bcells_length, (HRUN.out.hash i hi).1])
     have HL2 := Lib.hid hL2
     have SZ2 := Lib.hid (show (Tryd.prog.info? 31).map (·.size) = some L2.toArray.size by rw [List.size_toArray]; exact size_rb hrb2.len)
     have HIS := Lib.hid (show Calls Tryd.prog 16 #[.pointer (some ⟨g, 0, none⟩), .agg L2.toArray, .slice oa (k + 1) oc] wr fun e w' => e = .returned (.bool true) ∧ Below wr.heap.size wr w' from is_is wr (fun k => w.heap.size ≤ k) g b HRUN.out.live HRUN.out.tidy (HRUN.out.small.more (by rw [HIDL.out]; omega)) L2 r2 hrb2 hlk2 _ _ _ ids hrw1 HRUN.out.hash (by omega))
     have HBE := Lib.hid HRUN.out.below
     have HN := Lib.hid (show w.heap.size ≤ wr.heap.size from HRUN.out.below.size)
     clear hL2 hrb2 hlk2 hrow hrw1 HRUN
     go_wp2_with (refine wpList_load_row rfl 31 (.tmp 6) rfl B6 rfl 31 L2.toArray (0, 0) _ HL2.out Tryd.underlying31 rfl SZ2.out ?_)
     refine HIS.out.mono ?_
     rintro _ x0 ⟨rfl, hx⟩
     have HX0 := Lib.hid (HBE.out.trans (hx.mono HN.out))
     clear hx HIS HL2 SZ2
     go_wp2_with (first | (refine wpList_build_run rfl 39 #[] rfl #[] (by kernel_rfl) (.agg ZB.toArray) (HBH.out _) ?_) | (refine wpList_build_run rfl 42 #[] rfl #[] (by kernel_rfl) (.agg ZOF) (HBO.out _) ?_))
     refine (none_fund x0 ZB.toArray).mono ?_
     rintro _ x1 ⟨rfl, hx⟩
     have HX1 := Lib.hid (HX0.out.trans (hx.mono HX0.out.size))
     clear hx HX0
     go_wp2_with (first | (refine wpList_build_run rfl 39 #[] rfl #[] (by kernel_rfl) (.agg ZB.toArray) (HBH.out _) ?_) | (refine wpList_build_run rfl 42 #[] rfl #[] (by kernel_rfl) (.agg ZOF) (HBO.out _) ?_))
     refine (none_offer x1 ZOF).mono ?_
     rintro _ x2 ⟨rfl, hx⟩
     have HX2 := Lib.hid (HX1.out.trans (hx.mono HX1.out.size))
     clear hx HX1
     go_wp2_with (first | (refine wpList_build_run rfl 39 #[] rfl #[] (by kernel_rfl) (.agg ZB.toArray) (HBH.out _) ?_) | (refine wpList_build_run rfl 42 #[] rfl #[] (by kernel_rfl) (.agg ZOF) (HBO.out _) ?_))
     refine (none_settle x2 ZB.toArray).mono ?_
     rintro _ x3 ⟨rfl, hx⟩
     have HX3 := Lib.hid (HX2.out.trans (hx.mono HX2.out.size))
     clear hx HX2
     go_wp2_with (first | (refine wpList_build_run rfl 39 #[] rfl #[] (by kernel_rfl) (.agg ZB.toArray) (HBH.out _) ?_) | (refine wpList_build_run rfl 42 #[] rfl #[] (by kernel_rfl) (.agg ZOF) (HBO.out _) ?_))
     refine (none_back x3).mono ?_
     rintro _ x4 ⟨rfl, hx⟩
     have HX4 := Lib.hid (HX3.out.trans (hx.mono HX3.out.size))
     clear hx HX3
     go_wp2_with (first | (refine wpList_build_run rfl 39 #[] rfl #[] (by kernel_rfl) (.agg ZB.toArray) (HBH.out _) ?_) | (refine wpList_build_run rfl 42 #[] rfl #[] (by kernel_rfl) (.agg ZOF) (HBO.out _) ?_))
     refine (none_has x4 ZB.toArray).mono ?_
     rintro _ x5 ⟨rfl, hx⟩
     have HX5 := Lib.hid (HX4.out.trans (hx.mono HX4.out.size))
     clear hx HX4
     go_wp2_with (first | (refine wpList_build_run rfl 39 #[] rfl #[] (by kernel_rfl) (.agg ZB.toArray) (HBH.out _) ?_) | (refine wpList_build_run rfl 42 #[] rfl #[] (by kernel_rfl) (.agg ZOF) (HBO.out _) ?_))
     refine (none_total x5 ZB.toArray).mono ?_
     rintro _ x6 ⟨rfl, hx⟩
     have HX6 := Lib.hid (HX5.out.trans (hx.mono HX5.out.size))
     clear hx HX5
     go_wp2_with (first | (refine wpList_build_run rfl 39 #[] rfl #[] (by kernel_rfl) (.agg ZB.toArray) (HBH.out _) ?_) | (refine wpList_build_run rfl 42 #[] rfl #[] (by kernel_rfl) (.agg ZOF) (HBO.out _) ?_))
     refine (none_offers x6).mono ?_
     rintro _ x7 ⟨rfl, hx⟩
     have HX7 := Lib.hid (HX6.out.trans (hx.mono HX6.out.size))
     clear hx HX6
     go_wp2_with (first | (refine wpList_build_run rfl 39 #[] rfl #[] (by kernel_rfl) (.agg ZB.toArray) (HBH.out _) ?_) | (refine wpList_build_run rfl 42 #[] rfl #[] (by kernel_rfl) (.agg ZOF) (HBO.out _) ?_))
     refine (none_sums x7).mono ?_
     rintro _ x8 ⟨rfl, hx⟩
     have HX8 := Lib.hid (HX7.out.trans (hx.mono HX7.out.size))
     clear hx HX7
     go_wp2_with (first | (refine wpList_build_run rfl 39 #[] rfl #[] (by kernel_rfl) (.agg ZB.toArray) (HBH.out _) ?_) | (refine wpList_build_run rfl 42 #[] rfl #[] (by kernel_rfl) (.agg ZOF) (HBO.out _) ?_))
     refine (none_clone x8).mono ?_
     rintro _ x9 ⟨rfl, hx⟩
     have HX9 := Lib.hid (HX8.out.trans (hx.mono HX8.out.size))
     clear hx HX8
     go_wp2_with (first | (refine wpList_build_run rfl 39 #[] rfl #[] (by kernel_rfl) (.agg ZB.toArray) (HBH.out _) ?_) | (refine wpList_build_run rfl 42 #[] rfl #[] (by kernel_rfl) (.agg ZOF) (HBO.out _) ?_))
     refine (none_same x9).mono ?_
     rintro _ x10 ⟨rfl, hx⟩
     have HX10 := Lib.hid (HX9.out.trans (hx.mono HX9.out.size))
     clear hx HX9
     go_wp2_with (first | (refine wpList_build_run rfl 39 #[] rfl #[] (by kernel_rfl) (.agg ZB.toArray) (HBH.out _) ?_) | (refine wpList_build_run rfl 42 #[] rfl #[] (by kernel_rfl) (.agg ZOF) (HBO.out _) ?_))
     refine (none_same2 x10 g).mono ?_
     rintro _ x11 ⟨rfl, hx⟩
     have HX11 := Lib.hid (HX10.out.trans (hx.mono HX10.out.size))
     clear hx HX10
     go_wp2
     go_ret
     exact ⟨rfl, HX11.out⟩
end Go.Proofs.YtcekammjpghjnaaDoor

