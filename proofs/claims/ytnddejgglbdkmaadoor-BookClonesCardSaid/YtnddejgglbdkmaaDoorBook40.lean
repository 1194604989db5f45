/- The walk of BookClones. -/
import Derived.Test.YtnddejgglbdkmaaDoorBook38
import Derived.Deep.Cut
import Derived.Deep.CutRange
import Derived.Deep.CutBlock
namespace Go.Proofs.YtnddejgglbdkmaaDoor
set_option linter.unusedVariables false
set_option linter.unusedSimpArgs false
open Go.ChangeShapes Go.WideShapes Go.ChangeAt Go.RowKit Go.Maps

def H123 : List Nat := 1 :: 2 :: 3 :: List.replicate 29 0
theorem h123_is : IsHash H123 := ⟨by decide, by decide⟩
theorem h123_lit (w : World) : (Instr.build 30 #[(0, .int .u8 1), (1, .int .u8 2), (2, .int .u8 3)]).run Tryd.prog w = .ok (arr H123) w := by kernel_rfl

set_option maxRecDepth 100000 in
set_option maxHeartbeats 8000000 in
theorem clones_walk (K s0 : List Wd) (k0 k1 : Nat) (A : Option Addr) (n c : Nat) (more : Stp) (w : World) (hT : Tabs K s0 w) (ss : List Stp) (hS : Steps w A n ss) (hm : more.ok) :
    Calls Tryd.prog 5 #[.agg #[.int .u64 (k0 : Int), .int .u64 (k1 : Int)], .slice A n c, .agg more.cells.toArray] w fun e w' => e = .returned (.bool true) ∧ Below w.heap.size w w' := by
  obtain ⟨hn, hlen, hok, sb, so, hA, hrng⟩ := hS
  unfold maxLen at hn
  have HHD := Lib.hid (fun W => head_is W)
  have HT := Lib.hid hT
  have HLEN := Lib.hid hlen
  have HOK := Lib.hid hok
  have HA := Lib.hid hA
  have HRNG := Lib.hid hrng
  have HM := Lib.hid hm
  obtain ⟨LM, hLM⟩ : ∃ L, L = more.cells := ⟨_, rfl⟩
  rw [← hLM]
  have EM := Lib.hid hLM
  have SZM := Lib.hid (show (Tryd.prog.info? 34).map (·.size) = some LM.toArray.size by rw [List.size_toArray, hLM, more.length hm]; kernel_rfl)
  clear hT hlen hok hA hrng hm hLM
  go_enter Tryd.func5, Tryd.ntmps5
  go_upto_region 1 with (fail)
  have s1 : ∀ (x : World) o, (x.alloc o).heap.size = x.heap.size + 1 := fun x o => by simp
  have b1 := Has.new w 23 #[.int .u64 (k0 : Int), .int .u64 (k1 : Int)]
  have b2 := Has.new (w.alloc (.cells #[.int .u64 (k0 : Int), .int .u64 (k1 : Int)] 23)) 34 LM.toArray
  have hk3 := ((Kept.refl (fun _ => False) w).alloc (.cells #[.int .u64 (k0 : Int), .int .u64 (k1 : Int)] 23)).alloc (.cells LM.toArray 34)
  have b1' := b1.alloc (.cells LM.toArray 34)
  rw [s1] at b2
  have HB1 := Lib.hid b1'
  have HB2 := Lib.hid b2
  have HK3 := Lib.hid hk3
  clear s1 b1 b2 hk3 b1'
  generalize (w.alloc (.cells #[.int .u64 (k0 : Int), .int .u64 (k1 : Int)] 23)).alloc (.cells LM.toArray 34) = W0 at HB1 HB2 HK3 ⊢
  go_wp2_with fail
  refine (HHD.out _).mono ?_
  rintro _ w1 ⟨rfl, hh⟩
  have hb1 := HB1.out.below hh HB1.out.lt
  have d0 : w1.cell? ⟨w.heap.size, 0, none⟩ = some (.int .u64 (k0 : Int)) := hb1.cell_is rfl
  have d1 : w1.cell? ⟨w.heap.size, 1, none⟩ = some (.int .u64 (k1 : Int)) := hb1.cell_is rfl
  have HB2' := Lib.hid (HB2.out.below hh HB2.out.lt)
  have HBW := Lib.hid ((HK3.out.below (Nat.le_refl _) (fun _ h => h.elim)).trans (hh.mono HK3.out.size))
  clear hh hb1 HB1 HB2 HK3 HHD
  go_wp2_with fail
  refine (lv_new w1 (fun k => w1.heap.size ≤ k) (fun _ h => h) k0 k1).mono ?_
  rintro _ w2 ⟨g, rfl, hlv, hb2, hg⟩
  have HLV := Lib.hid hlv
  have HBL := Lib.hid hb2
  clear hlv hb2 hg d0 d1
  go_upto_block 0 with fail
  go_cut [9] from 14 (fun i wr => ∃ (k : Nat) (b : Bk), i = .int .i64 (k : Int) ∧ Tidy b ∧ Small b 40 ∧ Lv (fun k => w1.heap.size ≤ k) wr g b ∧ Below w1.heap.size w1 wr)
  case first =>
    go_wp2_with fail
    go_loopw [9] (fun i wr => ∃ (k : Nat) (b : Bk), i = .int .i64 (k : Int) ∧ k ≤ n ∧ k ≤ 40 ∧ Tidy b ∧ Small b k ∧ Lv (fun k => w1.heap.size ≤ k) wr g b ∧ Below w1.heap.size w1 wr) (fun i _ => n - (intOf i).toNat)
    case atStart => exact ⟨0, _, rfl, Nat.zero_le _, by decide, new_tidy k0 k1, fun f => by unfold Bk.side; split <;> exact Nat.zero_le _, HLV.out, HBL.out⟩
    case round =>
      obtain ⟨k, b, rfl, hk, hk40, htd, hsm, hlv, hbel⟩ := hrel
      have HTD := Lib.hid htd
      have HSM := Lib.hid hsm
      have HLR := Lib.hid hlv
      have HBR := Lib.hid hbel
      clear htd hsm hlv hbel HLV HBL
      by_cases hlt : k < n ∧ k < 40
      · obtain ⟨hlt, h40⟩ := hlt
        obtain ⟨s, hs⟩ : ∃ s, ss[k]? = some s := ⟨_, List.getElem?_eq_getElem (by rw [HLEN.out]; exact hlt)⟩
        have hsok := HOK.out s (List.mem_of_getElem? hs)
        obtain ⟨hA1, hA2⟩ := HA.out (by omega)
        subst hA1
        have hbw : Below w.heap.size w wr := HBW.out.trans (HBR.out.mono HBW.out.size)
        have hrw := rangeAt_kept (HRNG.out k s hs) (Kept.of_below (S := fun _ => False) hbw) (fun h => h)
        have hl137 := s.length hsok
        have hT3 : Tabs K s0 wr := HT.out.below hbw HT.out.low
        have hrun := run_is K s0 wr hT3 (fun k => w1.heap.size ≤ k) g b HLR.out (fun k h => by have := HBR.out.size; omega) HTD.out s hsok
        obtain ⟨L, hL⟩ : ∃ L, L = s.cells := ⟨_, rfl⟩
        rw [← hL] at hrw hrun hl137
        have HRW := Lib.hid hrw
        have HRUN := Lib.hid hrun
        have SZ := Lib.hid (show (Tryd.prog.info? 34).map (·.size) = some L.length by rw [hl137]; kernel_rfl)
        have HTDN := Lib.hid (step_tidy K s0 hT3.len HTD.out hsok)
        have HSMN := Lib.hid (step_small HSM.out K s0 s)
        clear hrw hl137 hsok hs hbw hT3 hrun hL
        go_wp2_with (refine wpList_load_mid rfl 34 (.tmp 32) rfl sb (so + k * 137) rfl L _ HRW.out Tryd.underlying34 rfl SZ.out ?_)
        refine HRUN.out.mono ?_
        rintro _ w5 ⟨rfl, hlv5, hk5⟩
        have HE := Lib.hid (show Lv (fun k => w1.heap.size ≤ k) w5 g (stepB K s0 b s) ∧ Below w1.heap.size w1 w5 from ⟨hlv5, HBR.out.trans (hk5.below HBR.out.size (fun k e => e))⟩)
        clear hlv5 hk5
        go_wp2
        go_roundw
        case rel => exact ⟨k + 1, _, by go_num, by omega, by omega, HTDN.out, HSMN.out, HE.out⟩
        case measure => simp [intOf]; omega
      · by_cases hlt2 : k < n
        all_goals
          try have h80 : ¬ k < 40 := fun e => hlt ⟨hlt2, e⟩
          clear hlt
          go_wp2_with fail
          go_meet
          case rel => exact ⟨k, b, rfl, HTD.out, HSM.out.more (by omega), HLR.out, HBR.out⟩
  case rest =>
    obtain ⟨wr, hwr⟩ : ∃ x, x = wc := ⟨_, rfl⟩
    subst hwr
    obtain ⟨k, b, rfl, htd, hsm, hlv, hbel⟩ := hcut
    have HTD := Lib.hid htd
    have HSM := Lib.hid hsm
    have HLR := Lib.hid hlv
    have HBR := Lib.hid hbel
    clear htd hsm hlv hbel HLV HBL
    go_wp2_with fail
    refine (lv_clone HLR.out HTD.out.ok).mono ?_
    rintro _ W5 ⟨gc, cb, rfl, hlc, hqc, hb5⟩
    have hlv5 : Lv (fun k => w1.heap.size ≤ k ∧ k < wr.heap.size) W5 g b := (HLR.out.zone (S' := fun k => w1.heap.size ≤ k ∧ k < wr.heap.size) (fun k h1 h2 => ⟨h2, h1⟩)).quiet hb5
    have hsm : Small b 1000000 := HSM.out.more (by omega)
    have HS1 := Lib.hid (lv_same hlv5 hlc HTD.out hqc hsm (hqc.small hsm))
    have HS2 := Lib.hid (fun (W : World) (h : Below W5.heap.size W5 W) => lv_same (hlc.quiet h) (hlv5.quiet h) (hqc.tidy HTD.out) hqc.symm (hqc.small hsm) hsm)
    have HLV5 := Lib.hid hlv5
    have HLC5 := Lib.hid hlc
    have HQC := Lib.hid hqc
    have HSMB := Lib.hid hsm
    have HBE5 := Lib.hid ((HBW.out.trans (HBR.out.mono HBW.out.size)).trans (hb5.mono (by have h1 := HBR.out.size; have h2 := HBW.out.size; omega)))
    have HZ5 := Lib.hid (And.intro HBR.out.size hb5.size)
    have HB25 := Lib.hid ((HB2'.out.below HBR.out HB2'.out.lt).below hb5 (by have h1 := HB2'.out.lt; have h2 := HBR.out.size; omega))
    have HWL := Lib.hid (And.intro HBW.out.size HB2'.out.lt)
    clear hlv5 hsm hlc hqc hb5
    go_wp2_with fail
    refine HS1.out.mono ?_
    rintro _ W6 ⟨rfl, hb6⟩
    have HB6 := Lib.hid hb6
    clear hb6
    go_wp2_with fail
    refine (HS2.out W6 HB6.out).mono ?_
    rintro _ W7 ⟨rfl, hb7⟩
    have HB7 := Lib.hid (HB6.out.trans (hb7.mono HB6.out.size))
    clear hb7 HB6 HS1 HS2
    go_wp2_with fail
    refine (lv_clone (HLV5.out.quiet HB7.out) HTD.out.ok).mono ?_
    rintro _ W8 ⟨gd, db, rfl, hld, hqd, hb8⟩
    have hb58 : Below W5.heap.size W5 W8 := HB7.out.trans (hb8.mono HB7.out.size)
    have hbe8 : Below w.heap.size w W8 := HBE5.out.trans (hb58.mono (by have h1 := HZ5.out; have h2 := HBW.out.size; omega))
    have hT8 : Tabs K s0 W8 := HT.out.below hbe8 HT.out.low
    have hB8 := HB25.out.below hb58 HB25.out.lt
    have hrun := run_is K s0 W8 hT8 (fun k => W7.heap.size ≤ k) gd db (hld.zone (fun k _ e => e.1)) (fun k h => by have := hb8.size; omega) (hqd.tidy HTD.out) more HM.out
    obtain ⟨E, hE⟩ : ∃ E, E = stepE K s0 db more := ⟨_, rfl⟩
    rw [← hE, ← EM.out] at hrun
    have HRUN := Lib.hid hrun
    have EE := Lib.hid hE
    have HB8 := Lib.hid hB8
    have HBE8 := Lib.hid hbe8
    have HB58 := Lib.hid hb58
    have HQD := Lib.hid hqd
    have HTDD := Lib.hid (step_tidy K s0 hT8.len (hqd.tidy HTD.out) HM.out)
    have HZ8 := Lib.hid (And.intro HB7.out.size hb8.size)
    clear hrun hE hB8 hbe8 hb58 hqd hld hb8 hT8
    go_wp2_with (refine wpList_load_row rfl 34 (.tmp 5) rfl (w.heap.size + 1) rfl 34 LM.toArray (0, 0) _ HB8.out Tryd.underlying34 rfl SZM.out ?_)
    refine HRUN.out.mono ?_
    rintro _ W9 ⟨rfl, hld9, hk9⟩
    have hlv9 := (HLV5.out.quiet HB58.out).kept hk9 (fun k _ e1 e2 => by have h1 := e1.2; have h2 := HZ8.out; have h3 := HZ5.out; omega)
    have hlc9 := (HLC5.out.quiet HB58.out).kept hk9 (fun k _ e1 e2 => by have h1 := e1.2; have h2 := HZ8.out; have h3 := HZ5.out; omega)
    have hB9 := HB8.out.kept hk9 (fun e => by have h2 := HZ8.out; have h3 := HZ5.out; have h4 := HWL.out; omega)
    rw [EM.out] at hB9
    obtain ⟨g0, -, -, -, -⟩ := stp_get HM.out
    have c0 : W9.cell? ⟨w.heap.size + 1, 0, none⟩ = some (.int .i64 more.K) := hB9.cell_is (by simpa using g0)
    obtain ⟨KK, hKK⟩ : ∃ x, x = more.K := ⟨_, rfl⟩
    rw [← hKK] at c0
    have hsmd : Small (stepB K s0 db more) 1000000 := (step_small (HQD.out.small HSM.out) K s0 more).more (by omega)
    have hyes : (E = 0 ∧ 0 ≤ KK ∧ KK ≤ 3) → Calls Tryd.prog 20 #[.pointer (some ⟨g, 0, none⟩), .pointer (some ⟨gd, 0, none⟩)] W9 fun e w' => e = .returned (.bool false) ∧ Below W9.heap.size W9 w' := fun ⟨e1, e2, e3⟩ =>
      lv_differ hlv9 hld9 HTD.out HTDD.out HSMB.out hsmd ((step_keep K s0 db more).1.trans HQD.out.k0) ((step_keep K s0 db more).2.trans HQD.out.k1) (Differ.left HQD.out (step_differ K s0 (HQD.out.tidy HTD.out) more (by rw [← EE.out]; exact e1) (by omega)))
    have hno : ¬ (E = 0 ∧ 0 ≤ KK ∧ KK ≤ 3) → Calls Tryd.prog 20 #[.pointer (some ⟨g, 0, none⟩), .pointer (some ⟨gd, 0, none⟩)] W9 fun e w' => e = .returned (.bool true) ∧ Below W9.heap.size W9 w' := fun hne => by
      have e := step_still K s0 db more (by rw [← EE.out, ← hKK]; omega)
      rw [e] at hld9
      exact lv_same hlv9 hld9 HTD.out HQD.out HSMB.out (HQD.out.small HSMB.out)
    have HYES := Lib.hid hyes
    have HNO := Lib.hid hno
    have HLV9 := Lib.hid hlv9
    have HLC9 := Lib.hid hlc9
    have HBE9 := Lib.hid (HBE8.out.trans (hk9.below (by have h1 := HZ5.out; have h2 := HBW.out.size; have h3 := HZ8.out; omega) (fun j e => by have h1 := HZ5.out; have h2 := HBW.out.size; have h3 := HZ8.out; omega)))
    have HZ9 := Lib.hid (show W5.heap.size ≤ W9.heap.size by have h1 := HZ8.out; have h2 := hk9.size; omega)
    have HBLD := Lib.hid h123_lit
    clear hyes hno hlv9 hlc9 hk9 hld9 hB9 g0 hKK hsmd
    obtain ⟨LH, hLH⟩ : ∃ L, L = (bcells H123).toArray := ⟨_, rfl⟩
    have hbld : ∀ W, (Instr.build 30 #[(0, .int .u8 1), (1, .int .u8 2), (2, .int .u8 3)]).run Tryd.prog W = .ok (.agg LH) W := fun W => by rw [hLH]; exact HBLD.out W
    have ELH := Lib.hid hLH
    clear hLH
    go_upto_region 14 with (fail)
    go_cut [13] from 14 (fun c wx => W9 = wx ∧ c = .bool (decide (E = 0 ∧ 0 ≤ KK ∧ KK ≤ 3)))
    case first =>
      have hcase : (E = 0 ∧ 0 ≤ KK ∧ KK ≤ 3) ∨ (E = 0 ∧ 0 ≤ KK ∧ 3 < KK) ∨ (E = 0 ∧ KK < 0) ∨ ¬ E = 0 := by omega
      rcases hcase with ⟨hE0, hKa, hKb⟩ | ⟨hE0, hKa, hKb⟩ | ⟨hE0, hKa⟩ | hE0
      · have hd : decide (E = 0 ∧ 0 ≤ KK ∧ KK ≤ 3) = true := by simp only [decide_eq_true_eq]; omega
        have HD := Lib.hid hd
        clear hd
        subst hE0
        go_wp2
        go_meet
        case rel => exact ⟨rfl, by rw [HD.out]⟩
      · have hd : decide (E = 0 ∧ 0 ≤ KK ∧ KK ≤ 3) = false := by simp only [decide_eq_false_iff_not]; omega
        have HD := Lib.hid hd
        clear hd
        subst hE0
        go_wp2
        go_meet
        case rel => exact ⟨rfl, by rw [HD.out, decide_eq_false (by omega)]⟩
      · have hd : decide (E = 0 ∧ 0 ≤ KK ∧ KK ≤ 3) = false := by simp only [decide_eq_false_iff_not]; omega
        have HD := Lib.hid hd
        clear hd
        subst hE0
        go_wp2
        go_meet
        case rel => exact ⟨rfl, by rw [HD.out]⟩
      · have hd : decide (E = 0 ∧ 0 ≤ KK ∧ KK ≤ 3) = false := by simp only [decide_eq_false_iff_not]; omega
        have HD := Lib.hid hd
        clear hd
        go_wp2
        go_meet
        case rel => exact ⟨rfl, by rw [HD.out]⟩
    case rest =>
    obtain ⟨hw, hc⟩ := hcut
    subst hw
    subst hc
    clear c0
    go_upto_region 15 with (fail)
    go_cut [13, 75] from 14 (fun d c wx => c = .bool false ∧ Below W9.heap.size W9 wx)
    case first =>
      by_cases hch : E = 0 ∧ 0 ≤ KK ∧ KK ≤ 3
      · have HSD := Lib.hid (HYES.out hch)
        have hd : decide (E = 0 ∧ 0 ≤ KK ∧ KK ≤ 3) = true := decide_eq_true hch
        rw [hd]
        clear HYES HNO hch hd
        go_wp2_with fail
        refine HSD.out.mono ?_
        rintro _ WA ⟨rfl, hbA⟩
        have HSC := Lib.hid (lv_same (HLV9.out.quiet hbA) (HLC9.out.quiet hbA) HTD.out HQC.out HSMB.out (HQC.out.small HSMB.out))
        have HBA := Lib.hid hbA
        clear hbA
        go_wp2_with fail
        refine HSC.out.mono ?_
        rintro _ WB ⟨rfl, hbB⟩
        have hbAB : Below W9.heap.size W9 WB := HBA.out.trans (hbB.mono HBA.out.size)
        go_wp2
        go_meet
        case rel => exact ⟨rfl, hbAB⟩
      · have HSD := Lib.hid (HNO.out hch)
        have hd : decide (E = 0 ∧ 0 ≤ KK ∧ KK ≤ 3) = false := decide_eq_false hch
        rw [hd]
        clear HYES HNO hch hd
        go_wp2_with fail
        refine HSD.out.mono ?_
        rintro _ WA ⟨rfl, hbA⟩
        have HSC := Lib.hid (lv_same (HLV9.out.quiet hbA) (HLC9.out.quiet hbA) HTD.out HQC.out HSMB.out (HQC.out.small HSMB.out))
        have HBA := Lib.hid hbA
        clear hbA
        go_wp2_with fail
        refine HSC.out.mono ?_
        rintro _ WB ⟨rfl, hbB⟩
        have hbAB : Below W9.heap.size W9 WB := HBA.out.trans (hbB.mono HBA.out.size)
        go_wp2
        go_meet
        case rel => exact ⟨rfl, hbAB⟩
    case rest =>
    obtain ⟨WB, hWB⟩ : ∃ x, x = wc := ⟨_, rfl⟩
    subst hWB
    obtain ⟨hc, hbAB⟩ := hcut
    subst hc
    have hlvB : Lv (fun k => (w1.heap.size ≤ k ∧ k < wr.heap.size) ∨ WB.heap.size ≤ k) WB g b := (HLV9.out.quiet hbAB).zone (fun k _ e => .inl e)
    have hf := lv_fund hlvB (fun k h => .inr h) HTD.out.ok 0 H123 1 h123_is (by decide)
    unfold arr at hf
    rw [← ELH.out] at hf
    obtain ⟨F, hF⟩ : ∃ F, F = fundE b 0 H123 1 := ⟨_, rfl⟩
    rw [← hF] at hf
    have HF := Lib.hid hf
    have EF := Lib.hid hF
    have HLCB := Lib.hid (HLC9.out.quiet hbAB)
    have HBEB := Lib.hid (HBE9.out.trans (hbAB.mono (by have h1 := HZ5.out; have h2 := HBW.out.size; have h3 := HZ9.out; omega)))
    have HZB := Lib.hid (show W5.heap.size ≤ WB.heap.size by have h1 := HZ9.out; have h2 := hbAB.size; omega)
    clear hbAB hlvB hf hF
    have HBL2 := Lib.hid hbld
    clear hbld
    go_wp2_with (refine wpList_build_run rfl 30 _ rfl #[(0, .int .u8 1), (1, .int .u8 2), (2, .int .u8 3)] (by kernel_rfl) (.agg LH) (HBL2.out _) ?_)
    refine HF.out.mono ?_
    rintro _ WC ⟨rfl, hlvC, hkC⟩
    have HBEC := Lib.hid (HBEB.out.trans (hkC.below (by have h1 := HZ5.out; have h2 := HBW.out.size; have h3 := HZB.out; omega) (fun j e => by have h1 := HZ5.out; have h2 := HBW.out.size; have h3 := HZB.out; rcases e with e | e <;> omega)))
    have HZC := Lib.hid (show W5.heap.size ≤ WC.heap.size by have h1 := HZB.out; have h2 := hkC.size; omega)
    by_cases hF0 : F = 0
    · have hlcC := HLCB.out.kept hkC (fun k _ e1 e2 => by have h1 := e1.1; have h2 := e1.2; have h3 := HZB.out; rcases e2 with e | e <;> omega)
      have hd : Differ (fundN b 0 H123 1) cb := Differ.right HQC.out (fund_differ 0 H123 1 (by rw [← EF.out]; exact hF0)).symm
      have HSZ := Lib.hid (lv_differ hlvC hlcC (fund_tidy HTD.out _ _ _) (HQC.out.tidy HTD.out) ((fund_small HSM.out 0 H123 1).more (by omega)) (HQC.out.small HSMB.out) (HQC.out.k0.trans (fund_keep b 0 H123 1).1.symm) (HQC.out.k1.trans (fund_keep b 0 H123 1).2.symm) hd)
      clear hlcC hd hlvC hkC
      subst hF0
      go_wp2_with fail
      refine HSZ.out.mono ?_
      rintro _ WD ⟨rfl, hbD⟩
      have HBED := Lib.hid (HBEC.out.trans (hbD.mono (by have h1 := HZ5.out; have h2 := HBW.out.size; have h3 := HZC.out; omega)))
      clear hbD
      go_wp2
      go_ret
      exact ⟨rfl, HBED.out⟩
    · clear hlvC hkC
      go_wp2
      go_ret
      exact ⟨rfl, HBEC.out⟩
end Go.Proofs.YtnddejgglbdkmaaDoor
