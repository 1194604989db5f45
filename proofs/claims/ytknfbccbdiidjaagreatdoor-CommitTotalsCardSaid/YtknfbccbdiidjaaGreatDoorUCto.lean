/- The walk of CommitTotals. -/
import Derived.Test.YtknfbccbdiidjaaGreatDoorWs
import Derived.Test.YtknfbccbdiidjaaGreatDoorUCor
import Derived.Test.YtknfbccbdiidjaaGreatDoorUCo12
namespace Go.Proofs.YtknfbccbdiidjaaGreatDoor
set_option linter.unusedVariables false
set_option linter.unusedSimpArgs false
open Go.ChangeShapes Go.WideShapes Go.ChangeAt Go.RowKit Go.Maps

theorem cz_total {N : Nat} {w : World} {g : Nat} {ls : List LeafT} {S : Nat → Prop} (h : Cz N w g ls S) (id : List Nat) (hid : IsHash id) :
  Calls Tryz.prog 32 #[.pointer (some ⟨g, 0, none⟩), arr id] w fun e w' => e = .returned (.int .u64 (amS (ofId ls id) : Int)) ∧ Below w.heap.size w w' := by
 obtain ⟨⟨m0, m1, E, Z, h⟩, _⟩ := h
 exact coTotal_at h id hid
theorem cz_leaves {N : Nat} {w : World} {g : Nat} {ls : List LeafT} {S : Nat → Prop} (h : Cz N w g ls S) :
  Calls Tryz.prog 29 #[.pointer (some ⟨g, 0, none⟩)] w fun e w' => ∃ (a : Option Addr) (c : Nat) (srt : List LeafT), e = .returned (.slice a ls.length c) ∧ srt.Perm ls ∧ (srt.map (keyK KS SS)).Pairwise (fun a b => lexC a b < 0) ∧ w'.ownsRow w.heap.size 32 99 (.slice a ls.length c) ls.length (srt.flatMap LeafT.cells) ∧ Below w.heap.size w w' := by
 obtain ⟨⟨m0, m1, E, Z, h⟩, _⟩ := h
 refine (coLeaves_at h).mono fun e w' ⟨v, srt, h1, h2, h3, h4, h5⟩ => ?_
 rw [h2.length_eq] at h4
 obtain ⟨a, c, rfl⟩ := own_form h4
 exact ⟨a, c, srt, h1, h2, h3, h4, h5⟩
theorem cz_anchor {N : Nat} {w : World} {g : Nat} {ls : List LeafT} {S : Nat → Prop} (h : Cz N w g ls S) (hT : Tabs KS SS w) (hN : 2 + 1 ≤ N) :
  Calls Tryz.prog 12 #[.pointer (some ⟨g, 0, none⟩)] w fun e w' => e = .returned (arr (anchorOf KS SS ls)) ∧ Cz N w' g ls S ∧ Kept S w w' :=
 (coAnch_is h.1 hT (fun k e => Nat.le_trans hN (h.2 k e).1)).mono fun e w' ⟨h1, h2, h3⟩ => ⟨h1, ⟨h2, fun k e => ⟨(h.2 k e).1, Nat.lt_of_lt_of_le (h.2 k e).2 h3.size⟩⟩, h3⟩
theorem cz_add {N : Nat} {w : World} {g : Nat} {ls : List LeafT} {S : Nat → Prop} (h : Cz N w g ls S) (hT : Tabs KS SS w) (hN : N ≤ w.heap.size) (l : LeafT) (hl : l.ok) :
  Calls Tryz.prog 11 #[.pointer (some ⟨g, 0, none⟩), .agg l.cells.toArray] w fun e w' => e = .returned (.int .i64 (addE KS SS ls l)) ∧ Cz N w' g (addC KS SS ls l) (fun k => (S k ∨ w.heap.size ≤ k) ∧ k < w'.heap.size) ∧ Kept S w w' :=
 (coAdd_tight h.1 hT l hl).mono fun e w' ⟨h1, h2, h3⟩ => ⟨h1, ⟨h2, fun k e => ⟨by
  rcases e.1 with e1 | e1
  · exact (h.2 k e1).1
  · exact Nat.le_trans hN e1, e.2⟩⟩, h3⟩
theorem anchor_hash (ls : List LeafT) : IsHash (anchorOf KS SS ls) := by
 unfold anchorOf
 by_cases e : ls = []
 · rw [if_pos e]; exact hZ_hash
 · rw [if_neg e]; exact anchorK_hash KS SS ss_len _
theorem add_again {ls : List LeafT} {l : LeafT} (h : addE KS SS ls l = 0) : addE KS SS (ls ++ [l]) l = 6 := by
 unfold addE
 rw [if_neg (by rw [(addE_zero h).1]; decide), if_pos (by simp)]
set_option maxRecDepth 100000 in
set_option maxHeartbeats 16000000 in
theorem commitTotals_walk (w : World) (hT : Tabs KS SS w) (A : Option Addr) (n c : Nat) (ls : List LeafT) (hls : RowsAt LeafT.cells 99 w A n ls) (hok : ∀ l ∈ ls, l.ok) (hnm : n ≤ 9223372036854775807) (mo : LeafT) (hmo : mo.ok) :
   Calls Tryz.prog 6 #[.slice A n c, .agg mo.cells.toArray] w fun e w' => e = .returned (.bool true) ∧ Below w.heap.size w w' := by
 obtain ⟨zl, hzl, -, hzls, hzln, hzle'⟩ := zero_leafT
 clear hzle'
 obtain ⟨zk, hzk, hzks, hzkn⟩ := zero_hashT
 obtain ⟨LM, hLM⟩ : ∃ L, L = mo.cells := ⟨_, rfl⟩
 obtain ⟨LI, hLI⟩ : ∃ L, L = bcells mo.id := ⟨_, rfl⟩
 obtain ⟨AM, hAM⟩ : ∃ x, x = mo.am := ⟨_, rfl⟩
 rw [← hLM]
 have SZM := Lib.hid (show (Tryz.prog.info? 32).map (·.size) = some LM.toArray.size by rw [List.size_toArray, hLM, LeafT.len hmo]; kernel_rfl)
 have SZI := Lib.hid (show (Tryz.prog.info? 27).map (·.size) = some LI.length by rw [hLI, bcells_length, hmo.id.1]; kernel_rfl)
 have HMC := Lib.hid (show ∀ (v : World) B, Has v B 32 LM.toArray → v.cell? ⟨B, 32, none⟩ = some (.int .u64 (AM : Int)) ∧ v.rangeAt B 0 LI from fun v B hv => by rw [hLM] at hv; exact ⟨by rw [hAM]; exact hv.cell_is (by rw [List.getElem?_toArray]; exact LeafT.at_am hmo), by rw [hLI]; exact coL_id hv⟩)
 have ELM := Lib.hid hLM
 have ELI := Lib.hid hLI
 have EAM := Lib.hid hAM
 have HMO := Lib.hid hmo
 have HZL := Lib.hid hzls
 have HZK := Lib.hid hzks
 have HT := Lib.hid hT
 have HLS := Lib.hid hls
 have HOK := Lib.hid hok
 have HLEN := Lib.hid hls.len
 have HTV := Lib.hid (show ∀ v, Below w.heap.size w v → Tabs KS SS v from fun v hv => hT.below hv hT.low)
 obtain ⟨W0, hW0, h0, hb0⟩ := boxes_lf w LM
 have HHD := Lib.hid (headC_is W0 (hT.below hb0 hT.low))
 have EW := Lib.hid hW0
 have H0 := Lib.hid h0
 have HB0 := Lib.hid hb0
 clear hT hls hok hzls hzks hLM hLI hAM hmo hW0 h0 hb0
 go_enter Tryz.func6, Tryz.ntmps6
 go_upto_region 1 with (fail)
 rw [← EW.out]
 obtain ⟨B, hB⟩ : ∃ y, y = w.heap.size := ⟨_, rfl⟩
 rw [← hB] at H0 ⊢
 have EB := Lib.hid hB
 clear hB EW
 go_wp2_with fail
 refine HHD.out.mono ?_
 rintro _ W1 ⟨rfl, hb1⟩
 have HB1 := Lib.hid (HB0.out.trans (hb1.mono HB0.out.size))
 have HM1 := Lib.hid (H0.out.below hb1 H0.out.lt)
 clear hb1 HHD H0 HB0
 by_cases h8 : n ≤ 8
 · have h8' : ¬ (8 : Int) < (n : Int) := by omega
   go_wp2_with fail
   refine (coNew_is KS SS (fun k => W1.heap.size ≤ k) W1 (fun k h => h)).mono ?_
   rintro _ W2 ⟨g, rfl, hcm2, hb2, hga⟩
   have HST := Lib.hid (show Cz W1.heap.size W2 g (addAll KS SS (ls.take 0)) (fun k => W1.heap.size ≤ k ∧ k < W2.heap.size) ∧ Below W1.heap.size W1 W2 from ⟨⟨hcm2.zoneS (fun k h1 h2 => ⟨h2, h1⟩), fun k h => h⟩, hb2⟩)
   clear hcm2 hb2 hga h8'
   go_wp2_with fail
   go_loopw [20] (fun iv wr => ∃ (k : Nat) (S : Nat → Prop), iv = .int .i64 (k : Int) ∧ k ≤ n ∧ Cz W1.heap.size wr g (addAll KS SS (ls.take k)) S ∧ Below W1.heap.size W1 wr) (fun iv _ => n - (intOf iv).toNat)
   case atStart => exact ⟨0, _, rfl, Nat.zero_le _, HST.out⟩
   case round =>
    clear HST
    obtain ⟨k, S, rfl, hk, hcz, hbw⟩ := hrel
    by_cases hlt : k < n
    · have hlt' : (k : Int) < (n : Int) := by omega
      obtain ⟨sb, so, hA, hsb, hrr⟩ := HLS.out.at_ (by omega)
      subst hA
      obtain ⟨l, hl⟩ : ∃ l, ls[k]? = some l := ⟨_, List.getElem?_eq_getElem (by rw [HLEN.out]; exact hlt)⟩
      have hlok := HOK.out l (List.mem_of_getElem? hl)
      obtain ⟨LC, hLC⟩ : ∃ L, L = l.cells := ⟨_, rfl⟩
      have hrw := rangeAt_kept (hrr k l hl) (Kept.of_below (S := fun _ => False) (HB1.out.trans (hbw.mono HB1.out.size))) (fun e => e)
      rw [← hLC] at hrw
      have hat := at_leaf sb so n c k hlt
      have SZC := Lib.hid (show (Tryz.prog.info? 32).map (·.size) = some LC.length by rw [hLC, LeafT.len hlok]; kernel_rfl)
      have SZCA := Lib.hid (show (Tryz.prog.info? 32).map (·.size) = some LC.toArray.size by rw [List.size_toArray, hLC, LeafT.len hlok]; kernel_rfl)
      have ZZC := Lib.hid (show zl.size = LC.toArray.size by rw [HZL.out, List.size_toArray, hLC, LeafT.len hlok])
      have ONEC := Lib.hid (show LC.toArray.all (·.oneCell') = true by rw [hLC]; exact LeafT.one l)
      have HNW := Lib.hid (show ∀ C, Has ((wr.alloc (.cells zl 32)).setRow wr.heap.size C) wr.heap.size 32 C ∧ Below wr.heap.size wr ((wr.alloc (.cells zl 32)).setRow wr.heap.size C) from fun C => by
        rw [World.setRow_alloc_new]
        exact ⟨Has.new wr _ _, (Below.refl _ _).alloc (Nat.le_refl _) _⟩)
      have HRW := Lib.hid hrw
      have HCZ := Lib.hid hcz
      have HBW := Lib.hid hbw
      have HL := Lib.hid hlok
      have ELC := Lib.hid hLC
      have HLK := Lib.hid hl
      have HLT := Lib.hid hlt
      clear hrw hcz hbw hlok hLC hl hlt hsb hrr
      go_upto_region 9 with (first
        | (refine wpList_load_mid rfl 32 (.tmp 22) rfl sb (so + k * 99) rfl LC _ HRW.out Tryz.underlying32 rfl SZC.out ?_)
        | (refine wpList_store_row rfl 32 (.tmp 7) (.tmp 23) rfl wr.heap.size LC.toArray rfl rfl 32 zl (heap_alloc_new wr _) SZCA.out ZZC.out ONEC.out ?_))
      obtain ⟨h6, hb6⟩ := HNW.out LC.toArray
      have hcz6 := HCZ.out.below hb6
      have hbw6 := HBW.out.trans (hb6.mono HBW.out.size)
      clear hb6 HNW HRW hat HBW HCZ
      generalize (wr.alloc (.cells zl 32)).setRow wr.heap.size LC.toArray = W6 at h6 hcz6 hbw6 ⊢
      generalize wr.heap.size = G6 at h6 ⊢
      have hadd := cz_add hcz6 (HTV.out W6 (HB1.out.trans (hbw6.mono HB1.out.size))) hbw6.size l HL.out
      rw [← ELC.out] at hadd
      have HADD := Lib.hid hadd
      have H6 := Lib.hid h6
      have HBW6 := Lib.hid hbw6
      have HZ6 := Lib.hid (fun k e => (hcz6.2 k e).1)
      clear hadd h6 hcz6 hbw6
      go_wp2_with (refine wpList_load_row rfl 32 (.tmp 7) rfl G6 rfl 32 LC.toArray (0, 0) _ H6.out Tryz.underlying32 rfl SZCA.out ?_)
      refine HADD.out.mono ?_
      rintro _ W7 ⟨rfl, hcz7, hk7⟩
      have HRES := Lib.hid (show Cz W1.heap.size W7 g (addAll KS SS (ls.take (k + 1))) _ ∧ Below W1.heap.size W1 W7 from ⟨by rw [addAll_take HLK.out]; exact hcz7, HBW6.out.trans (hk7.below HBW6.out.size (fun j e => HZ6.out j e))⟩)
      clear hcz7 hk7 HADD
      go_wp2_with fail
      go_roundw
      case rel => exact ⟨k + 1, _, by go_num, HLT.out, HRES.out⟩
      case measure => have := HLT.out; simp [intOf]; omega
    · obtain rfl : k = n := by omega
      have hfine : Fine KS SS (addAll KS SS (ls.take k)) := addAll_fine _ (fun l hl => HOK.out l (List.mem_of_mem_take hl))
      obtain ⟨cs, hcs⟩ : ∃ cs, cs = addAll KS SS (ls.take k) := ⟨_, rfl⟩
      rw [← hcs] at hcz hfine
      clear hcs
      obtain ⟨AN, hAN⟩ : ∃ y, y = anchorOf KS SS cs := ⟨_, rfl⟩
      obtain ⟨LAN, hLAN⟩ : ∃ y, y = bcells AN := ⟨_, rfl⟩
      obtain ⟨T0, hT0⟩ : ∃ y, y = amS (ofId cs mo.id) := ⟨_, rfl⟩
      obtain ⟨m, hm⟩ : ∃ y, y = cs.length := ⟨_, rfl⟩
      have hANh : IsHash AN := by rw [hAN]; exact anchor_hash cs
      have hlow : 2 + 1 ≤ W1.heap.size := (HTV.out W1 HB1.out).low
      have han := cz_anchor hcz (HTV.out wr (HB1.out.trans (hbw.mono HB1.out.size))) hlow
      rw [← hAN] at han
      unfold arr at han
      rw [← hLAN] at han
      have SZA := Lib.hid (show (Tryz.prog.info? 27).map (·.size) = some LAN.toArray.size by rw [List.size_toArray, hLAN, bcells_length, hANh.1]; kernel_rfl)
      have SZAL := Lib.hid (show (Tryz.prog.info? 27).map (·.size) = some LAN.length by rw [hLAN, bcells_length, hANh.1]; kernel_rfl)
      have ZZA := Lib.hid (show zk.size = LAN.toArray.size by rw [HZK.out, List.size_toArray, hLAN, bcells_length, hANh.1])
      have ONEA := Lib.hid (show LAN.toArray.all (·.oneCell') = true by rw [hLAN]; exact all_oneCell_toArray (bcells_one AN))
      have HEQ := Lib.hid (show ∀ v, (Op.equalIn 10000 27 (.agg LAN.toArray) (.agg LAN.toArray)).run Tryz.prog v = .ok true v from fun v => by rw [hLAN, hash_eqC AN AN hANh hANh v, decide_eq_true rfl])
      have HFN := Lib.hid hfine
      have HAN := Lib.hid han
      have EAN := Lib.hid hAN
      have ELAN := Lib.hid hLAN
      have ET0 := Lib.hid hT0
      have EM := Lib.hid hm
      have HLO := Lib.hid hlow
      have HBW := Lib.hid hbw
      have HM256 := Lib.hid (show m ≤ 256 by rw [hm]; exact hfine.len)
      have HSZ := Lib.hid (fun k e => hcz.2 k e)
      have HBB := Lib.hid (show B < W1.heap.size from HM1.out.lt)
      clear hfine hAN hLAN hT0 hm hANh hlow han hbw hcz hk
      go_wp2_with fail
      refine HAN.out.mono ?_
      rintro _ V1 ⟨rfl, hcz1, hk1⟩
      have HB1V := Lib.hid (show Below W1.heap.size W1 V1 from HBW.out.trans (hk1.below HBW.out.size (fun j e => (HSZ.out j e).1)))
      have HCZ1 := Lib.hid hcz1
      clear hcz1 hk1 HAN HBW HSZ
      go_upto_region 12 with (refine wpList_store_row rfl 27 (.tmp 8) (.tmp 29) rfl V1.heap.size LAN.toArray rfl rfl 27 zk (heap_alloc_new V1 _) SZA.out ZZA.out ONEA.out ?_)
      have hnw : ∀ C, Has ((V1.alloc (.cells zk 27)).setRow V1.heap.size C) V1.heap.size 27 C ∧ Below V1.heap.size V1 ((V1.alloc (.cells zk 27)).setRow V1.heap.size C) := fun C => by
        rw [World.setRow_alloc_new]
        exact ⟨Has.new V1 _ _, (Below.refl _ _).alloc (Nat.le_refl _) _⟩
      obtain ⟨h8, hb2⟩ := hnw LAN.toArray
      clear hnw
      have hcz2 := HCZ1.out.below hb2
      have hbv2 := HB1V.out.trans (hb2.mono HB1V.out.size)
      generalize (V1.alloc (.cells zk 27)).setRow V1.heap.size LAN.toArray = V2 at h8 hb2 hcz2 hbv2 ⊢
      obtain ⟨G8, hG8⟩ : ∃ y, y = V1.heap.size := ⟨_, rfl⟩
      have hsg : ∀ j, S j → j ≠ G8 := fun j e => by have := (HCZ1.out.2 j e).2; omega
      rw [← hG8] at h8 ⊢
      have hmb2 := HM1.out.below hbv2 HM1.out.lt
      have HR2 := Lib.hid (HMC.out V2 B hmb2).2
      have htt := cz_total hcz2 mo.id HMO.out.id
      unfold arr at htt
      rw [← ELI.out, ← ET0.out] at htt
      have HTT := Lib.hid htt
      have H8 := Lib.hid h8
      have HCZ2 := Lib.hid hcz2
      have HBV2 := Lib.hid hbv2
      have HSG := Lib.hid hsg
      clear h8 hb2 hcz2 hbv2 hG8 hsg hmb2 htt HCZ1 HB1V
      go_wp2_with (refine wpList_load_mid rfl 27 (.tmp 31) rfl B 0 rfl LI _ HR2.out Tryz.underlying27 rfl SZI.out ?_)
      refine HTT.out.mono ?_
      rintro _ V3 ⟨rfl, hb3⟩
      have HCZ3 := Lib.hid (HCZ2.out.below hb3)
      have HBV3 := Lib.hid (HBV2.out.trans (hb3.mono HBV2.out.size))
      have H83 := Lib.hid (H8.out.below hb3 H8.out.lt)
      clear hb3 HTT HCZ2 HBV2 H8 HR2
      have hlv := cz_leaves HCZ3.out
      rw [← EM.out] at hlv
      have HLV := Lib.hid hlv
      clear hlv
      go_wp2_with fail
      refine HLV.out.mono ?_
      rintro _ V4 ⟨a4, c4, srt4, rfl, -, -, -, hb4⟩
      have HCZ4 := Lib.hid (HCZ3.out.below hb4)
      have HBV4 := Lib.hid (HBV3.out.trans (hb4.mono HBV3.out.size))
      have H84 := Lib.hid (H83.out.below hb4 H83.out.lt)
      have HMB4 := Lib.hid (HM1.out.below HBV4.out HM1.out.lt)
      clear hb4 HLV HCZ3 HBV3 H83
      have hadd := cz_add HCZ4.out (HTV.out V4 (HB1.out.trans (HBV4.out.mono HB1.out.size))) HBV4.out.size mo HMO.out
      obtain ⟨x, hx⟩ : ∃ x, x = addE KS SS cs mo := ⟨_, rfl⟩
      rw [← ELM.out, ← hx] at hadd
      have HADD := Lib.hid hadd
      have EX := Lib.hid hx
      clear hadd hx
      go_wp2_with (refine wpList_load_row rfl 32 (.tmp 3) rfl B rfl 32 LM.toArray (0, 0) _ HMB4.out Tryz.underlying32 rfl SZM.out ?_)
      refine HADD.out.mono ?_
      rintro _ V5 ⟨rfl, hcz5, hk5⟩
      have hZ : ∀ j, ((S j ∨ V4.heap.size ≤ j) ∧ j < V5.heap.size) → W1.heap.size ≤ j ∧ j ≠ G8 ∧ j ≠ B := fun j e => by
        have a1 := (hcz5.2 j e).1
        have a2 := HBB.out
        refine ⟨a1, ?_, by omega⟩
        rcases e.1 with e1 | e1
        · exact HSG.out j e1
        · have := H84.out.lt; omega
      have hs8 : ¬ S G8 := fun e => HSG.out _ e rfl
      have hsB : ¬ S B := fun e => by have := (HCZ4.out.2 _ e).1; have := HBB.out; omega
      have h85 := H84.out.kept hk5 hs8
      have hmb5 := HMB4.out.kept hk5 hsB
      have hbv5 : Below W1.heap.size W1 V5 := HBV4.out.trans (hk5.below HBV4.out.size (fun j e => (HCZ4.out.2 j e).1))
      obtain ⟨Z5, hZ5⟩ : ∃ Z : Nat → Prop, Z = fun k => (S k ∨ V4.heap.size ≤ k) ∧ k < V5.heap.size := ⟨_, rfl⟩
      rw [← hZ5] at hcz5
      have hz5 : ∀ j, Z5 j → W1.heap.size ≤ j ∧ j ≠ G8 ∧ j ≠ B := by rw [hZ5]; exact hZ
      have HZ5 := Lib.hid hz5
      have HCZ5 := Lib.hid hcz5
      have H85 := Lib.hid h85
      have HMB5 := Lib.hid hmb5
      have HBV5 := Lib.hid hbv5
      clear hcz5 hk5 hZ hs8 hsB h85 hmb5 hbv5 hZ5 hz5 HADD HCZ4 HBV4 H84 HMB4 HSG
      have HSV := Lib.hid (show ∀ v, Kept Z5 V5 v → v.rangeAt G8 0 LAN ∧ v.rangeAt B 0 LI ∧ v.cell? ⟨B, 32, none⟩ = some (.int .u64 (AM : Int)) ∧ Tabs KS SS v from fun v hv => by
        have hb := HMB5.out.kept hv (fun e => (HZ5.out B e).2.2 rfl)
        exact ⟨(H85.out.kept hv (fun e => (HZ5.out G8 e).2.1 rfl)).row0, (HMC.out v B hb).2, (HMC.out v B hb).1, (HTV.out V5 (HB1.out.trans (HBV5.out.mono HB1.out.size))).kept hv (fun j e => Nat.le_trans HLO.out (HZ5.out j e).1)⟩)
      have hS0 : Kept Z5 V5 V5.drew := (Kept.refl _ _).drew
      by_cases hx0 : x = 0
      · have hcc := HCZ5.out
        have he0 : addE KS SS cs mo = 0 := by rw [← EX.out]; exact hx0
        have e0 : addC KS SS cs mo = cs ++ [mo] := by unfold addC; rw [if_pos he0]
        rw [e0] at hcc
        replace hcc := hcc.below (Below.refl V5.heap.size V5).drew
        have hfit : T0 + AM < 18446744073709551616 := by
          have a1 := of_le cs mo.id
          have a2 := (addE_zero he0).2.2.2
          have a3 := ET0.out
          have a4 := EAM.out
          omega
        have HT1 := Lib.hid (show amS (ofId (cs ++ [mo]) mo.id) = T0 + AM by rw [ofId_snoc, if_pos rfl, amS_app, amS_one, ← ET0.out, ← EAM.out])
        have HL1 := Lib.hid (show (cs ++ [mo]).length = m + 1 by rw [List.length_append, ← EM.out]; rfl)
        have HW1 := Lib.hid (show IntKind.u64.wrap ((T0 : Int) + (AM : Int)) = ((T0 + AM : Nat) : Int) by rw [IntKind.wrap_u64]; omega)
        have HW2 := Lib.hid (show IntKind.i64.wrap ((m : Int) + 1) = ((m + 1 : Nat) : Int) by rw [IntKind.wrap_i64]; have := HM256.out; omega)
        have HE0 := Lib.hid he0
        subst hx0
        clear he0 e0 hfit
        go_upto_region 17 with (fail)
        refine wp_region_noPanic ?_
        refine wp_region_held_drew (S := (fun v => Kept Z5 V5 v)) (by kernel_rfl) hS0 (fun hH0 => ?_)
        apply tk 0 (v := _) rfl (Or.inl ⟨by kernel_rfl, ?hv⟩) hH0 ?_
        case hv => intro w' hS; have z0 := (HSV.out w' hS).2.2.1; go_simp; try exact rfl
        simp only [Act.put, qa]
        apply tk 1 (v := _) rfl (Or.inl ⟨by kernel_rfl, ?hv⟩) hH0 ?_
        case hv => intro w' hS; have z0 := (HSV.out w' hS).2.2.1; go_simp; try exact rfl
        simp only [Act.put, qa]
        refine tk 2 (v := (.agg LI.toArray)) rfl (yieldsIf_load_mid (by kernel_rfl) 27 (.tmp 62) rfl B 0 rfl LI _ (fun w' h => (HSV.out _ h).2.1) Tryz.underlying27 rfl SZI.out) hH0 ?_
        simp only [Act.put, qa]
        apply tk 4 (v := _) rfl (Or.inl ⟨by kernel_rfl, ?hv⟩) hH0 ?_
        case hv => intro w' hS; have z0 := (HSV.out w' hS).2.2.1; go_simp; try exact rfl
        simp only [Act.put, qa]
        apply tk 5 (v := _) rfl (Or.inl ⟨by kernel_rfl, ?hv⟩) hH0 ?_
        case hv => intro w' hS; have z0 := (HSV.out w' hS).2.2.1; go_simp; try exact rfl
        simp only [Act.put, qa]
        apply tk 6 (v := _) rfl (Or.inl ⟨by kernel_rfl, ?hv⟩) hH0 ?_
        case hv => intro w' hS; have z0 := (HSV.out w' hS).2.2.1; go_simp; try exact rfl
        simp only [Act.put, qa]
        refine tk 7 (v := (.int .u64 ((T0 + AM : Nat) : Int))) rfl (Or.inl ⟨by kernel_rfl, by intro w' hS; have z1 := HW1.out; go_simp; try exact rfl⟩) hH0 ?_
        simp only [Act.put, qa]
        refine wpAnyH_ready (rs := [3]) (by kernel_rfl) (by simp) ?_
        refine AllReadyH.cons rfl (fun KK hKK => ?_) AllReadyH.nil
        go_simp
        have htt := cz_total hcc mo.id HMO.out.id
        unfold arr at htt
        rw [← ELI.out, HT1.out] at htt
        refine htt.mono ?_
        rintro _ xt ⟨rfl, hb⟩
        have hsxt : Kept Z5 V5 xt := Kept.trans hH0 (Kept.of_below hb)
        replace hcc := hcc.below hb
        clear htt hb
        refine Shut.out hKK _ _ hsxt (fun hH1 => ?_)
        clear hKK KK
        try simp only [Act.put, qa]
        apply tk 8 (v := _) rfl (Or.inl ⟨by kernel_rfl, ?hv⟩) hH1 ?_
        case hv => intro w' hS; have z0 := (HSV.out w' hS).2.2.1; go_simp; try exact rfl
        simp only [Act.put, qa]
        apply tk 9 (v := _) rfl (Or.inl ⟨by kernel_rfl, ?hv⟩) hH1 ?_
        case hv => intro w' hS; have z0 := (HSV.out w' hS).2.2.1; go_simp; try exact rfl
        simp only [Act.put, qa]
        apply tk 10 (v := _) rfl (Or.inl ⟨by kernel_rfl, ?hv⟩) hH1 ?_
        case hv => intro w' hS; have z0 := (HSV.out w' hS).2.2.1; go_simp; try exact rfl
        simp only [Act.put, qa]
        apply tk 13 (v := _) rfl (Or.inl ⟨by kernel_rfl, ?hv⟩) hH1 ?_
        case hv => intro w' hS; have z0 := (HSV.out w' hS).2.2.1; go_simp; try exact rfl
        simp only [Act.put, qa]
        refine tk 14 (v := (.int .i64 ((m + 1 : Nat) : Int))) rfl (Or.inl ⟨by kernel_rfl, by intro w' hS; have z1 := HW2.out; go_simp; try exact rfl⟩) hH1 ?_
        simp only [Act.put, qa]
        refine wpAnyH_ready (rs := [11]) (by kernel_rfl) (by simp) ?_
        refine AllReadyH.cons rfl (fun KK hKK => ?_) AllReadyH.nil
        go_simp
        have hlv := cz_leaves hcc
        rw [HL1.out] at hlv
        refine hlv.mono ?_
        rintro _ xl ⟨a9, c9, srt9, rfl, -, -, -, hb⟩
        have hsxl : Kept Z5 V5 xl := Kept.trans hH1 (Kept.of_below hb)
        replace hcc := hcc.below hb
        clear hlv hb
        refine Shut.out hKK _ _ hsxl (fun hH2 => ?_)
        clear hKK KK
        try simp only [Act.put, qa]
        apply tk 12 (v := _) rfl (Or.inl ⟨by kernel_rfl, ?hv⟩) hH2 ?_
        case hv => intro w' hS; have z0 := (HSV.out w' hS).2.2.1; go_simp; try exact rfl
        simp only [Act.put, qa]
        apply tk 15 (v := _) rfl (Or.inl ⟨by kernel_rfl, ?hv⟩) hH2 ?_
        case hv => intro w' hS; have z0 := (HSV.out w' hS).2.2.1; go_simp; try exact rfl
        simp only [Act.put, qa]
        apply tk 16 (v := _) rfl (Or.inl ⟨by kernel_rfl, ?hv⟩) hH2 ?_
        case hv => intro w' hS; have z0 := (HSV.out w' hS).2.2.1; go_simp; try exact rfl
        simp only [Act.put, qa]
        refine wpAnyH_done (by kernel_rfl) ?_ _
        refine NoPanic.normal ?_
        have hb6 : Below W1.heap.size W1 xl := HBV5.out.trans (hsxl.below HBV5.out.size (fun j e => (HZ5.out j e).1))
        have hmb6 := HMB5.out.kept hsxl (fun e => (HZ5.out B e).2.2 rfl)
        have hadd := cz_add hcc (HTV.out xl (HB1.out.trans (hb6.mono HB1.out.size))) hb6.size mo HMO.out
        rw [add_again HE0.out, ← ELM.out] at hadd
        have HADD := Lib.hid hadd
        have HB6 := Lib.hid hb6
        have HMB6 := Lib.hid hmb6
        have HZ6 := Lib.hid (fun j e => (HZ5.out j e).1)
        clear hcc hsxt hsxl hS0 hb6 hmb6 hadd
        go_wp2_with (refine wpList_load_row rfl 32 (.tmp 3) rfl B rfl 32 LM.toArray (0, 0) _ HMB6.out Tryz.underlying32 rfl SZM.out ?_)
        refine HADD.out.mono ?_
        rintro _ xf ⟨rfl, -, hkf⟩
        have HFIN := Lib.hid (show Below w.heap.size w xf from (HB1.out.trans (HB6.out.mono HB1.out.size)).trans (hkf.below (Nat.le_trans HB1.out.size HB6.out.size) (fun j e => Nat.le_trans HB1.out.size (HZ6.out j e))))
        clear hkf HADD
        go_wp2
        go_ret
        exact ⟨rfl, HFIN.out⟩
      · have hcc := HCZ5.out
        have e0 : addC KS SS cs mo = cs := by unfold addC; rw [if_neg (by rw [← EX.out]; exact hx0)]
        rw [e0] at hcc
        replace hcc := hcc.below (Below.refl V5.heap.size V5).drew
        go_upto_region 16 with (fail)
        refine wp_region_noPanic ?_
        refine wp_region_held_drew (S := (fun v => Kept Z5 V5 v)) (by kernel_rfl) hS0 (fun hH0 => ?_)
        apply tk 0 (v := _) rfl (Or.inl ⟨by kernel_rfl, ?hv⟩) hH0 ?_
        case hv => intro w' hS; have z2 := HEQ.out w'; go_simp; try exact rfl
        simp only [Act.put, qa]
        refine tk 2 (v := (.agg LAN.toArray)) rfl (yieldsIf_load_mid (by kernel_rfl) 27 (.tmp 8) rfl G8 0 rfl LAN _ (fun w' h => (HSV.out _ h).1) Tryz.underlying27 rfl SZAL.out) hH0 ?_
        simp only [Act.put, qa]
        refine wpAnyH_ready (rs := [1]) (by kernel_rfl) (by simp) ?_
        refine AllReadyH.cons rfl (fun KK hKK => ?_) AllReadyH.nil
        go_simp
        have han := cz_anchor hcc (HSV.out _ hH0).2.2.2 HLO.out
        rw [← EAN.out] at han
        unfold arr at han
        rw [← ELAN.out] at han
        refine han.mono ?_
        rintro _ xa ⟨rfl, hcl, hkl⟩
        have hsxa : Kept Z5 V5 xa := Kept.trans hH0 hkl
        replace hcc := hcl
        clear han hcl hkl
        refine Shut.out hKK _ _ hsxa (fun hH1 => ?_)
        clear hKK KK
        try simp only [Act.put, qa]
        apply tk 3 (v := _) rfl (Or.inl ⟨by kernel_rfl, ?hv⟩) hH1 ?_
        case hv => intro w' hS; have z2 := HEQ.out w'; go_simp; try exact rfl
        simp only [Act.put, qa]
        apply tk 4 (v := _) rfl (Or.inl ⟨by kernel_rfl, ?hv⟩) hH1 ?_
        case hv => intro w' hS; have z2 := HEQ.out w'; go_simp; try exact rfl
        simp only [Act.put, qa]
        apply tk 5 (v := _) rfl (Or.inl ⟨by kernel_rfl, ?hv⟩) hH1 ?_
        case hv => intro w' hS; have z2 := HEQ.out w'; go_simp; try exact rfl
        simp only [Act.put, qa]
        apply tk 6 (v := _) rfl (Or.inl ⟨by kernel_rfl, ?hv⟩) hH1 ?_
        case hv => intro w' hS; have z2 := HEQ.out w'; go_simp; try exact rfl
        simp only [Act.put, qa]
        refine tk 7 (v := (.agg LI.toArray)) rfl (yieldsIf_load_mid (by kernel_rfl) 27 (.tmp 48) rfl B 0 rfl LI _ (fun w' h => (HSV.out _ h).2.1) Tryz.underlying27 rfl SZI.out) hH1 ?_
        simp only [Act.put, qa]
        apply tk 9 (v := _) rfl (Or.inl ⟨by kernel_rfl, ?hv⟩) hH1 ?_
        case hv => intro w' hS; have z2 := HEQ.out w'; go_simp; try exact rfl
        simp only [Act.put, qa]
        refine wpAnyH_ready (rs := [8]) (by kernel_rfl) (by simp) ?_
        refine AllReadyH.cons rfl (fun KK hKK => ?_) AllReadyH.nil
        go_simp
        have htt := cz_total hcc mo.id HMO.out.id
        unfold arr at htt
        rw [← ELI.out, ← ET0.out] at htt
        refine htt.mono ?_
        rintro _ xt ⟨rfl, hb⟩
        have hsxt : Kept Z5 V5 xt := Kept.trans hH1 (Kept.of_below hb)
        replace hcc := hcc.below hb
        clear htt hb
        refine Shut.out hKK _ _ hsxt (fun hH2 => ?_)
        clear hKK KK
        try simp only [Act.put, qa]
        apply tk 10 (v := _) rfl (Or.inl ⟨by kernel_rfl, ?hv⟩) hH2 ?_
        case hv => intro w' hS; have z2 := HEQ.out w'; go_simp; try exact rfl
        simp only [Act.put, qa]
        apply tk 11 (v := _) rfl (Or.inl ⟨by kernel_rfl, ?hv⟩) hH2 ?_
        case hv => intro w' hS; have z2 := HEQ.out w'; go_simp; try exact rfl
        simp only [Act.put, qa]
        apply tk 12 (v := _) rfl (Or.inl ⟨by kernel_rfl, ?hv⟩) hH2 ?_
        case hv => intro w' hS; have z2 := HEQ.out w'; go_simp; try exact rfl
        simp only [Act.put, qa]
        apply tk 13 (v := _) rfl (Or.inl ⟨by kernel_rfl, ?hv⟩) hH2 ?_
        case hv => intro w' hS; have z2 := HEQ.out w'; go_simp; try exact rfl
        simp only [Act.put, qa]
        apply tk 16 (v := _) rfl (Or.inl ⟨by kernel_rfl, ?hv⟩) hH2 ?_
        case hv => intro w' hS; have z2 := HEQ.out w'; go_simp; try exact rfl
        simp only [Act.put, qa]
        refine wpAnyH_ready (rs := [14]) (by kernel_rfl) (by simp) ?_
        refine AllReadyH.cons rfl (fun KK hKK => ?_) AllReadyH.nil
        go_simp
        have hlv := cz_leaves hcc
        rw [← EM.out] at hlv
        refine hlv.mono ?_
        rintro _ xl ⟨a9, c9, srt9, rfl, -, -, -, hb⟩
        have hsxl : Kept Z5 V5 xl := Kept.trans hH2 (Kept.of_below hb)
        replace hcc := hcc.below hb
        clear hlv hb
        refine Shut.out hKK _ _ hsxl (fun hH3 => ?_)
        clear hKK KK
        try simp only [Act.put, qa]
        apply tk 15 (v := _) rfl (Or.inl ⟨by kernel_rfl, ?hv⟩) hH3 ?_
        case hv => intro w' hS; have z2 := HEQ.out w'; go_simp; try exact rfl
        simp only [Act.put, qa]
        apply tk 17 (v := _) rfl (Or.inl ⟨by kernel_rfl, ?hv⟩) hH3 ?_
        case hv => intro w' hS; have z2 := HEQ.out w'; go_simp; try exact rfl
        simp only [Act.put, qa]
        apply tk 18 (v := _) rfl (Or.inl ⟨by kernel_rfl, ?hv⟩) hH3 ?_
        case hv => intro w' hS; have z2 := HEQ.out w'; go_simp; try exact rfl
        simp only [Act.put, qa]
        apply tk 19 (v := _) rfl (Or.inl ⟨by kernel_rfl, ?hv⟩) hH3 ?_
        case hv => intro w' hS; have z2 := HEQ.out w'; go_simp; try exact rfl
        simp only [Act.put, qa]
        refine wpAnyH_done (by kernel_rfl) ?_ _
        refine NoPanic.normal ?_
        have HFIN := Lib.hid (show Below w.heap.size w xl from (HB1.out.trans (HBV5.out.mono HB1.out.size)).trans (hsxl.below (Nat.le_trans HB1.out.size HBV5.out.size) (fun j e => Nat.le_trans HB1.out.size (HZ5.out j e).1)))
        clear hcc hsxa hsxt hsxl hS0
        go_wp2_with fail
        go_ret
        exact ⟨rfl, HFIN.out⟩
 · have h8' : (8 : Int) < (n : Int) := by omega
   go_wp2
   go_ret
   exact ⟨rfl, HB1.out⟩
end Go.Proofs.YtknfbccbdiidjaaGreatDoor

