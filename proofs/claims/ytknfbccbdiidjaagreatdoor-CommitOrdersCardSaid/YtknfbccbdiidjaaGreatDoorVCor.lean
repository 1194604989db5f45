/- The walk of CommitOrders. -/
import Derived.Test.YtknfbccbdiidjaaGreatDoorWs
import Derived.Test.YtknfbccbdiidjaaGreatDoorVLh
import Derived.Test.YtknfbccbdiidjaaGreatDoorVCo11
import Derived.Test.YtknfbccbdiidjaaGreatDoorVOpenL
namespace Go.Proofs.YtknfbccbdiidjaaGreatDoor
set_option linter.unusedVariables false
set_option linter.unusedSimpArgs false
open Go.ChangeShapes Go.WideShapes Go.ChangeAt Go.RowKit Go.Maps

theorem coAdd_tight {K s0 : List Wd} {S : Nat → Prop} {w : World} {g : Nat} {ls : List LeafT} (h : Cm K s0 S w g ls) (hT : Tabs K s0 w) (l : LeafT) (hl : l.ok) :
   Calls Tryz.prog 11 #[.pointer (some ⟨g, 0, none⟩), .agg l.cells.toArray] w fun e w' => e = .returned (.int .i64 (addE K s0 ls l)) ∧ Cm K s0 (fun k => (S k ∨ w.heap.size ≤ k) ∧ k < w'.heap.size) w' g (addC K s0 ls l) ∧ Kept S w w' := by
 have h' : Cm K s0 (fun k => S k ∨ w.heap.size ≤ k) w g ls := h.zoneS (fun k _ e => .inl e)
 refine (coAdd_is h' (fun k e => .inr e) hT l hl).mono fun e w' ⟨h1, h2, h3⟩ => ⟨h1, h2.zoneS (fun k hk e => ⟨e, hk⟩), h3.mono (fun k hk e => ?_)⟩
 rcases e with e | e
 · exact e
 · omega
def Cz (N : Nat) (w : World) (g : Nat) (ls : List LeafT) (S : Nat → Prop) : Prop := Cm KS SS S w g ls ∧ ∀ k, S k → N ≤ k ∧ k < w.heap.size
theorem Cz.kept {N : Nat} {w w' : World} {g : Nat} {ls : List LeafT} {S T : Nat → Prop} (h : Cz N w g ls S) (hk : Kept T w w') (hs : ∀ k, S k → ¬ T k) : Cz N w' g ls S :=
 ⟨h.1.kept hk (fun k _ e => hs k e), fun k e => ⟨(h.2 k e).1, Nat.lt_of_lt_of_le (h.2 k e).2 hk.size⟩⟩
theorem Cz.below {N : Nat} {w w' : World} {g : Nat} {ls : List LeafT} {S : Nat → Prop} (h : Cz N w g ls S) (hb : Below w.heap.size w w') : Cz N w' g ls S := h.kept (Kept.of_below (S := fun _ => False) hb) (fun _ _ e => e)
def OrB (w W1 : World) (ga gb : Nat) (cs : List LeafT) (oa : Option Addr) (m j : Nat) (wr : World) : Prop :=
 ∃ Sa Sb, Cz W1.heap.size wr ga cs Sa ∧ Cz W1.heap.size wr gb (cs.reverse.take j) Sb ∧ (∀ k, Sa k → ¬ Sb k) ∧ RowsAt LeafT.cells 99 wr oa m cs ∧ (∀ A, oa = some A → ¬ Sa A.block ∧ ¬ Sb A.block) ∧ Below w.heap.size w wr ∧ W1.heap.size ≤ wr.heap.size
def OrIs (w W1 W2 : World) (ga : Nat) (ls : List LeafT) (k : Nat) (rv : Value) (wr : World) : Prop :=
 ∃ Sa, Cz W1.heap.size wr ga (addAll KS SS (ls.take k)) Sa ∧ wr.ownsRow W1.heap.size 32 99 rv (addAll KS SS (ls.take k)).length ((addAll KS SS (ls.take k)).flatMap LeafT.cells) ∧ (∃ a c, rv = .slice a (addAll KS SS (ls.take k)).length c) ∧ (∀ j, rv.ownBlock = some j → ¬ Sa j) ∧ Below w.heap.size w wr ∧ W1.heap.size ≤ wr.heap.size
set_option maxRecDepth 100000 in
set_option maxHeartbeats 16000000 in
theorem commitOrders_walk (w : World) (hT : Tabs KS SS w) (A : Option Addr) (n c : Nat) (ls : List LeafT) (hls : RowsAt LeafT.cells 99 w A n ls) (hok : ∀ l ∈ ls, l.ok) (hnm : n ≤ 9223372036854775807) :
   Calls Tryz.prog 3 #[.slice A n c] w fun e w' => e = .returned (.bool true) ∧ Below w.heap.size w w' := by
 obtain ⟨zl, hzl, -, hzls, hzln, hzle'⟩ := zero_leafT
 clear hzle'
 obtain ⟨Z, hinfo, hzs⟩ := info_leafT
 have HINFO := Lib.hid hinfo
 have HZS := Lib.hid hzs
 have HZL := Lib.hid hzls
 have HT := Lib.hid hT
 have HLS := Lib.hid hls
 have HOK := Lib.hid hok
 have HLEN := Lib.hid hls.len
 have HTV := Lib.hid (show ∀ v, Below w.heap.size w v → Tabs KS SS v from fun v hv => hT.below hv hT.low)
 have HHD := Lib.hid (headC_is w hT)
 clear hT hls hok hinfo hzs hzls
 go_enter Tryz.func3, Tryz.ntmps3
 go_wp2_with fail
 refine HHD.out.mono ?_
 rintro _ W1 ⟨rfl, hb1⟩
 have HB1 := Lib.hid hb1
 clear hb1 HHD
 by_cases h8 : n ≤ 8
 · have h8' : ¬ (8 : Int) < (n : Int) := by omega
   go_wp2_with fail
   refine (coNew_is KS SS (fun k => W1.heap.size ≤ k) W1 (fun k h => h)).mono ?_
   rintro _ W2 ⟨ga, rfl, hcm2, hb2, hga⟩
   have HCA := Lib.hid (show Cz W1.heap.size W2 ga (addAll KS SS (ls.take 0)) (fun k => W1.heap.size ≤ k ∧ k < W2.heap.size) from ⟨hcm2.zoneS (fun k h1 h2 => ⟨h2, h1⟩), fun k h => h⟩)
   have HB12 := Lib.hid hb2
   clear hcm2 hb2 hga h8'
   go_upto_region 7 with (fail)
   obtain ⟨W3, hW3⟩ : ∃ y, y = W2.alloc (.cells #[] 32) := ⟨_, rfl⟩
   have hbe3 : Below W2.heap.size W2 W3 := by rw [hW3]; exact (Below.refl _ _).alloc (Nat.le_refl _) _
   have hown3 : W3.ownsRow W2.heap.size 32 99 (.slice (some ⟨W2.heap.size, 0, none⟩) 0 0) 0 [] := by rw [hW3]; exact own_empty (Nat.le_refl _) _ _
   rw [← hW3]
   have HR0 := Lib.hid (show OrIs w W1 W2 ga ls 0 (.slice (some ⟨W2.heap.size, 0, none⟩) 0 0) W3 from by
    refine ⟨_, HCA.out.below hbe3, ?_, ⟨_, _, rfl⟩, fun j e hz => ?_, HB1.out.trans ((HB12.out.trans (hbe3.mono HB12.out.size)).mono HB1.out.size), Nat.le_trans HB12.out.size hbe3.size⟩
    · show W3.ownsRow W1.heap.size 32 99 (.slice (some ⟨W2.heap.size, 0, none⟩) 0 0) 0 ([].flatMap LeafT.cells)
      exact own_base hown3 HB12.out.size
    · injection e with e
      have h2 : j < W2.heap.size := hz.2
      have e' : W2.heap.size = j := e
      omega)
   have HN3 := Lib.hid (show W2.heap.size ≤ W3.heap.size from hbe3.size)
   clear hbe3 hown3 hW3 HCA
   go_wp2_with fail
   go_loopw [4, 18] (fun rv iv wr => ∃ k : Nat, iv = .int .i64 (k : Int) ∧ k ≤ n ∧ OrIs w W1 W2 ga ls k rv wr) (fun _ iv _ => n - (intOf iv).toNat)
   case atStart => exact ⟨0, rfl, Nat.zero_le _, HR0.out⟩
   case round =>
    clear HR0
    obtain ⟨k, rfl, hk, hor⟩ := hrel
    by_cases hlt : k < n
    · have hlt' : (k : Int) < (n : Int) := by omega
      obtain ⟨Sa, hca, hown, hrn, hfar, hbw, hsz⟩ := hor
      obtain ⟨sb, so, hA, hsb, hrr⟩ := HLS.out.at_ (by omega)
      subst hA
      obtain ⟨l, hl⟩ : ∃ l, ls[k]? = some l := ⟨_, List.getElem?_eq_getElem (by rw [HLEN.out]; exact hlt)⟩
      have hlok := HOK.out l (List.mem_of_getElem? hl)
      obtain ⟨LC, hLC⟩ : ∃ L, L = l.cells := ⟨_, rfl⟩
      have hrw := rangeAt_kept (hrr k l hl) (Kept.of_below (S := fun _ => False) hbw) (fun e => e)
      rw [← hLC] at hrw
      obtain ⟨oa, oc, hrv⟩ := own_form hown
      subst hrv
      have hat := at_leaf sb so n c k hlt
      have hcn : (addAll KS SS (ls.take k)).length ≤ 8 := by
        have := addAll_len (K := KS) (s0 := SS) (ls.take k)
        rw [List.length_take] at this
        omega
      have HLC := Lib.hid (show LC.length = 99 by rw [hLC]; exact LeafT.len hlok)
      have SZC := Lib.hid (show (Tryz.prog.info? 32).map (·.size) = some LC.length by rw [hLC, LeafT.len hlok]; kernel_rfl)
      have SZCA := Lib.hid (show (Tryz.prog.info? 32).map (·.size) = some LC.toArray.size by rw [List.size_toArray, hLC, LeafT.len hlok]; kernel_rfl)
      have ZZC := Lib.hid (show zl.size = LC.toArray.size by rw [HZL.out, List.size_toArray, hLC, LeafT.len hlok])
      have ONEC := Lib.hid (show LC.toArray.all (·.oneCell') = true by rw [hLC]; exact LeafT.one l)
      have HNW := Lib.hid (show ∀ C, Has ((wr.alloc (.cells zl 32)).setRow wr.heap.size C) wr.heap.size 32 C ∧ Below wr.heap.size wr ((wr.alloc (.cells zl 32)).setRow wr.heap.size C) from fun C => by
        rw [World.setRow_alloc_new]
        exact ⟨Has.new wr _ _, (Below.refl _ _).alloc (Nat.le_refl _) _⟩)
      have HRW := Lib.hid hrw
      have HCA := Lib.hid hca
      have HOWN := Lib.hid hown
      have HFAR := Lib.hid hfar
      have HBW := Lib.hid hbw
      have HSZ := Lib.hid hsz
      have HL := Lib.hid hlok
      have ELC := Lib.hid hLC
      have HLK := Lib.hid hl
      have HCN := Lib.hid hcn
      have HLT := Lib.hid hlt
      have hrn' := hrn
      clear hrw hca hown hfar hbw hsz hlok hLC hl hcn hlt hrn hsb hrr
      go_upto_region 10 with (first
        | (refine wpList_load_mid rfl 32 (.tmp 20) rfl sb (so + k * 99) rfl LC _ HRW.out Tryz.underlying32 rfl SZC.out ?_)
        | (refine wpList_store_row rfl 32 (.tmp 6) (.tmp 21) rfl wr.heap.size LC.toArray rfl rfl 32 zl (heap_alloc_new wr _) SZCA.out ZZC.out ONEC.out ?_))
      obtain ⟨h6, hb6⟩ := HNW.out LC.toArray
      have hca6 := HCA.out.below hb6
      have hown6 := own_kept HOWN.out (Kept.of_below (S := fun _ => False) hb6) (fun _ _ e => e)
      have hbw6 := HBW.out.trans (hb6.mono HBW.out.size)
      have hs6 := hb6.size
      clear hb6 HNW HRW hat HBW
      generalize (wr.alloc (.cells zl 32)).setRow wr.heap.size LC.toArray = W6 at h6 hca6 hown6 hbw6 hs6 ⊢
      obtain ⟨G6, hG6⟩ : ∃ y, y = wr.heap.size := ⟨_, rfl⟩
      rw [← hG6] at h6 ⊢
      have hg6 : ¬ Sa G6 := fun e => by have := (HCA.out.2 _ e).2; omega
      have hadd := coAdd_tight hca6.1 (HTV.out W6 hbw6) l HL.out
      rw [← ELC.out] at hadd
      have HADD := Lib.hid hadd
      have H6 := Lib.hid h6
      have HG6 := Lib.hid hg6
      have HCA6 := Lib.hid hca6
      have HOWN6 := Lib.hid hown6
      have HBW6 := Lib.hid hbw6
      have HS6 := Lib.hid (show W1.heap.size ≤ W6.heap.size from Nat.le_trans HSZ.out hs6)
      clear hadd h6 hg6 hca6 hown6 hbw6 hs6 hG6 HCA HOWN HSZ
      go_wp2_with (refine wpList_load_row rfl 32 (.tmp 6) rfl G6 rfl 32 LC.toArray (0, 0) _ H6.out Tryz.underlying32 rfl SZCA.out ?_)
      refine HADD.out.mono ?_
      rintro _ W7 ⟨rfl, hcm7, hk7⟩
      have HC7 := Lib.hid (show Cz W1.heap.size W7 ga (addAll KS SS (ls.take (k + 1))) (fun k => (Sa k ∨ W6.heap.size ≤ k) ∧ k < W7.heap.size) from ⟨by rw [addAll_take HLK.out]; exact hcm7, fun j e => ⟨by
        rcases e.1 with e1 | e1
        · exact (HCA6.out.2 j e1).1
        · exact Nat.le_trans HS6.out e1, e.2⟩⟩)
      have HO7 := Lib.hid (own_kept HOWN6.out hk7 (fun j e1 e2 => HFAR.out j e1 e2))
      have H67 := Lib.hid (H6.out.kept hk7 HG6.out)
      have HB7 := Lib.hid (show Below w.heap.size w W7 from HBW6.out.trans (hk7.below HBW6.out.size (fun j e => Nat.le_trans HB1.out.size (HCA6.out.2 j e).1)))
      have HS7 := Lib.hid (show W1.heap.size ≤ W7.heap.size from Nat.le_trans HS6.out hk7.size)
      have HFAR7 := Lib.hid (show ∀ j, (Value.slice oa (addAll KS SS (ls.take k)).length oc).ownBlock = some j → ¬ ((Sa j ∨ W6.heap.size ≤ j) ∧ j < W7.heap.size) from fun j e1 e2 => by
        rcases e2.1 with e3 | e3
        · exact HFAR.out j e1 e3
        · have := own_lt HOWN6.out j e1; omega)
      obtain ⟨x, hx⟩ : ∃ x, x = addE KS SS (addAll KS SS (ls.take k)) l := ⟨_, rfl⟩
      rw [← hx]
      have EX := Lib.hid hx
      clear hcm7 hk7 HADD hx HFAR HOWN6 HCA6 H6 HBW6
      obtain ⟨m, hm⟩ : ∃ m, m = (addAll KS SS (ls.take k)).length := ⟨_, rfl⟩
      have hm8 : m ≤ 8 := by rw [hm]; exact HCN.out
      have hown7 := HO7.out
      have hfar7 := HFAR7.out
      rw [← hm] at hown7 hfar7 ⊢
      have EM := Lib.hid hm
      have HOM := Lib.hid hown7
      have HFM := Lib.hid hfar7
      clear hm hown7 hfar7 HO7 HFAR7 HCN
      by_cases hx0 : x = 0
      · have HX := Lib.hid (show addAll KS SS (ls.take (k + 1)) = addAll KS SS (ls.take k) ++ [l] by
          rw [addAll_take HLK.out]
          unfold addC
          rw [if_pos (by rw [← EX.out]; exact hx0)])
        subst hx0
        have HROW1 := Lib.hid (show RowsAt LeafT.cells 99 (W7.alloc (.cells LC.toArray 32)) (some ⟨W7.heap.size, 0, none⟩) 1 [l] from rows_has (xs := [l]) (t := 32) (by have := Has.new W7 32 LC.toArray; rw [ELC.out] at this ⊢; simpa using this) (len_cells (fun y hy => by rw [List.mem_singleton.1 hy]; exact HL.out)))
        have HOB := Lib.hid (show ∀ y ∈ [l], ∀ u ∈ LeafT.cells y, u.oneCell' = true from fun y _ u hu => by
          have := LeafT.one y
          rw [Array.all_eq_true'] at this
          exact this u (by simpa using hu))
        have HAL := Lib.hid (show Below W7.heap.size W7 (W7.alloc (.cells LC.toArray 32)) from (Below.refl _ _).alloc (Nat.le_refl _) _)
        have HOA := Lib.hid (own_kept HOM.out (Kept.of_below (S := fun _ => False) HAL.out) (fun _ _ e => e))
        have HZ99 := Lib.hid (show (Value.agg Z).cells.size = 99 from HZS.out)
        have HMX := Lib.hid (show m + 1 ≤ maxLen ∧ (m + 1) * 120 ≤ 140737488355328 ∧ W1.heap.size ≤ (W7.alloc (.cells LC.toArray 32)).heap.size from ⟨by unfold maxLen; omega, by omega, Nat.le_trans HS7.out HAL.out.size⟩)
        obtain ⟨ii, hi1, hi2, hi3, hi4⟩ := info_parts HINFO.out
        have HII := Lib.hid (And.intro hi1 (And.intro hi2 hi3))
        have HIB := Lib.hid hi4
        have HONL := Lib.hid (show ∀ u ∈ LC, u.oneCell' = true from fun u hu => HOB.out l (by simp) u (by rw [← ELC.out]; exact hu))
        have HSUC := Lib.hid (show (W7.alloc (.cells LC.toArray 32)).heap.size = W7.heap.size + 1 by simp)
        clear hi1 hi2 hi3 hi4
        go_upto_region 12 with (first
          | (refine wpList_load_row rfl 32 (.tmp 6) rfl G6 rfl 32 LC.toArray (0, 0) _ H67.out Tryz.underlying32 rfl SZCA.out ?_)
          | (refine wpList_build1 rfl 22 32 (.tmp 27) rfl ii (.agg Z) Tryz.underlying22 HII.out.1 HII.out.2.1 LC (by rw [HII.out.2.2, HLC.out]) (by rw [HLC.out]; exact HZ99.out) (by rw [HLC.out]; decide) (by rw [HLC.out]; decide) rfl ?_)
          | (at_builtin; refine wpList_append_lies _ rfl (.tmp 26) (.tmp 28) 22 rfl W1.heap.size 32 ii (.agg Z) 99 120 Tryz.underlying22 HII.out.1 HII.out.2.1 HII.out.2.2 HIB.out HZ99.out (by decide) _ m _ rfl HOA.out ⟨W7.heap.size, 0, none⟩ 1 1 LC rfl (by rw [HLC.out]) (World.news_of_block (cs := LC.toArray) (heap_alloc_new W7 _)) HONL.out (by decide) HMX.out.1 HMX.out.2.1 HMX.out.2.2 (W7.heap.size + 1) HSUC.out ?_; intro g8 oc8 W8 hown8 hgr8 hat8 hlt8))
        have HRES := Lib.hid (show OrIs w W1 W2 ga ls (k + 1) (.slice (some ⟨g8, 0, none⟩) (m + 1) oc8) W8 from by
          have hk := Kept.of_grown hgr8
          have hc := (HC7.out.below HAL.out).kept hk (fun j e1 e2 => HFM.out j e2.symm e1)
          have hl : (addAll KS SS (ls.take (k + 1))).length = m + 1 := by rw [HX.out, List.length_append, ← EM.out]; rfl
          refine ⟨_, hc, ?_, ⟨_, _, by rw [hl]⟩, fun j e1 e2 => ?_, HB7.out.trans ((HAL.out.mono HB7.out.size).trans (hk.below (Nat.le_trans HB7.out.size HAL.out.size) (fun j e => Nat.le_trans HB1.out.size (own_blk HOA.out j e.symm)))), Nat.le_trans HMX.out.2.2 hk.size⟩
          · rw [hl, HX.out, List.flatMap_append, List.flatMap_singleton, ← ELC.out]
            exact hown8
          · have e3 : g8 = j := by injection e1
            subst e3
            have e4 : g8 < W7.heap.size := e2.2
            rcases hat8 with h | h
            · exact HFM.out _ h e2
            · omega)
        clear hown8 hgr8 hat8 hlt8
        go_wp2_with fail
        go_roundw
        case rel => exact ⟨k + 1, by go_num, HLT.out, HRES.out⟩
        case measure => have := HLT.out; simp [intOf]; omega
      · have HX := Lib.hid (show addAll KS SS (ls.take (k + 1)) = addAll KS SS (ls.take k) by
          rw [addAll_take HLK.out]
          unfold addC
          rw [if_neg (by rw [← EX.out]; exact hx0)])
        have HRES := Lib.hid (show OrIs w W1 W2 ga ls (k + 1) (.slice oa m oc) W7 from by
          refine ⟨_, HC7.out, ?_, ⟨_, _, by rw [HX.out, ← EM.out]⟩, HFM.out, HB7.out, HS7.out⟩
          rw [HX.out, ← EM.out]
          exact HOM.out)
        go_wp2_with fail
        go_roundw
        case rel => exact ⟨k + 1, by go_num, HLT.out, HRES.out⟩
        case measure => have := HLT.out; simp [intOf]; omega
    · obtain rfl : k = n := by omega
      obtain ⟨Sa, hca, hown, hrn, hfar, hbw, hsz⟩ := hor
      obtain ⟨oa, oc, hrv⟩ := own_form hown
      subst hrv
      have hlenk : (addAll KS SS (ls.take k)).length ≤ 8 := by
        have := addAll_len (K := KS) (s0 := SS) (ls.take k)
        rw [List.length_take] at this
        omega
      have hfine : Fine KS SS (addAll KS SS (ls.take k)) := addAll_fine _ (fun l hl => HOK.out l (List.mem_of_mem_take hl))
      obtain ⟨cs, hcs⟩ : ∃ cs, cs = addAll KS SS (ls.take k) := ⟨_, rfl⟩
      rw [← hcs] at hca hown hfar hlenk hfine ⊢
      obtain ⟨m, hm⟩ : ∃ m, m = cs.length := ⟨_, rfl⟩
      rw [← hm] at hown hfar hlenk ⊢
      obtain ⟨hrow, hfr⟩ := own_rows hown hm.symm (len_cells hfine.ok)
      have HCA := Lib.hid hca
      have HROW := Lib.hid hrow
      have HFR := Lib.hid (show ∀ A, oa = some A → ¬ Sa A.block ∧ A.block < wr.heap.size from fun A hA => ⟨fun e => by
        subst hA
        rcases hown.2 with ⟨e2, _⟩ | ⟨g', cap, cur, e2, _⟩
        · cases e2
        · injection e2 with e2
          injection e2 with e2
          rw [e2] at e
          exact hfar g' (by rw [e2]; rfl) e, (hfr A hA).2⟩)
      have HBW := Lib.hid hbw
      have HSZ := Lib.hid hsz
      have HFN := Lib.hid hfine
      have HM := Lib.hid hm
      clear hcs hm hca hown hrow hfr hfar hbw hsz hrn hfine hk
      go_wp2_with fail
      refine (coNew_is KS SS (fun k => wr.heap.size ≤ k) wr (fun k h => h)).mono ?_
      rintro _ V2 ⟨gb, rfl, hcm2, hb2, hgb⟩
      have HST := Lib.hid (show OrB w W1 ga gb cs oa m 0 V2 from ⟨Sa, fun k => wr.heap.size ≤ k ∧ k < V2.heap.size, HCA.out.below hb2, ⟨hcm2.zoneS (fun k h1 h2 => ⟨h2, h1⟩), fun k h => ⟨Nat.le_trans HSZ.out h.1, h.2⟩⟩, fun k e1 e2 => by
          have a1 := (HCA.out.2 k e1).2
          have a2 : wr.heap.size ≤ k := e2.1
          omega, HROW.out.below hb2, fun A hA => ⟨(HFR.out A hA).1, fun e => by
          have a1 := (HFR.out A hA).2
          have a2 : wr.heap.size ≤ A.block := e.1
          omega⟩, HBW.out.trans (hb2.mono HBW.out.size), Nat.le_trans HSZ.out hb2.size⟩)
      clear hcm2 hb2 hgb HCA HROW HFR HBW HSZ
      go_wp2_with fail
      go_loopw [8] (fun iv wr => ∃ (j : Nat) (x : Int), iv = .int .i64 x ∧ x = (m : Int) - 1 - (j : Int) ∧ j ≤ m ∧ OrB w W1 ga gb cs oa m j wr) (fun iv _ => (intOf iv + 1).toNat)
      case atStart => exact ⟨0, _, rfl, by omega, Nat.zero_le _, HST.out⟩
      case round =>
        clear HST
        obtain ⟨j, x, rfl, hx, hj, hob⟩ := hrel
        by_cases hlt : j < m
        · obtain ⟨i, rfl⟩ : ∃ i : Nat, x = (i : Int) := ⟨x.toNat, by omega⟩
          obtain ⟨Sa, Sb, hca, hcb, hdis, hrow, hfr, hbw, hsz⟩ := hob
          have him : i + j + 1 = m := by omega
          obtain ⟨sb, so, hA, hsb, hrr⟩ := hrow.at_ (by omega)
          subst hA
          obtain ⟨l, hl⟩ : ∃ l, cs[i]? = some l := ⟨_, List.getElem?_eq_getElem (by rw [← HM.out]; omega)⟩
          have hlr : cs.reverse[j]? = some l := by
            rw [List.getElem?_reverse (by rw [← HM.out]; exact hlt), ← HM.out, show m - 1 - j = i by omega]
            exact hl
          have hlok := HFN.out.ok l (List.mem_of_getElem? hl)
          obtain ⟨LC, hLC⟩ : ∃ L, L = l.cells := ⟨_, rfl⟩
          have hrw := hrr i l hl
          rw [← hLC] at hrw
          have hat := at_leaf sb so m oc i (by omega)
          have hadd := coAdd_tight hcb.1 (HTV.out wr hbw) l hlok
          have he0 := back_add HFN.out cs.reverse_perm hlr
          have hC : addC KS SS (cs.reverse.take j) l = cs.reverse.take (j + 1) := by
            unfold addC
            rw [if_pos he0, List.take_add_one, hlr]
            rfl
          rw [he0, hC, ← hLC] at hadd
          have SZC := Lib.hid (show (Tryz.prog.info? 32).map (·.size) = some LC.length by rw [hLC, LeafT.len hlok]; kernel_rfl)
          have HADD := Lib.hid hadd
          have HRW := Lib.hid hrw
          have HCA := Lib.hid hca
          have HCB := Lib.hid hcb
          have HDIS := Lib.hid hdis
          have HROW := Lib.hid hrow
          have HFR := Lib.hid hfr
          have HBW := Lib.hid hbw
          have HSZ := Lib.hid hsz
          have HIM := Lib.hid him
          clear hadd hrw hca hcb hdis hrow hfr hbw hsz hlok hLC hl hlr he0 hC hsb hrr hx hj hlt
          go_wp2_with (refine wpList_load_mid rfl 32 (.tmp 42) rfl sb (so + i * 99) rfl LC _ HRW.out Tryz.underlying32 rfl SZC.out ?_)
          refine HADD.out.mono ?_
          rintro _ V7 ⟨rfl, hcm7, hk7⟩
          have HRES := Lib.hid (show OrB w W1 ga gb cs (some ⟨sb, so, none⟩) m (j + 1) V7 from ⟨Sa, fun k => (Sb k ∨ wr.heap.size ≤ k) ∧ k < V7.heap.size, HCA.out.kept hk7 (fun k e1 e2 => HDIS.out k e1 e2), ⟨hcm7, fun k e => ⟨by
              rcases e.1 with e1 | e1
              · exact (HCB.out.2 k e1).1
              · exact Nat.le_trans HSZ.out e1, e.2⟩⟩, fun k e1 e2 => by
              rcases e2.1 with e3 | e3
              · exact HDIS.out k e1 e3
              · have := (HCA.out.2 k e1).2; omega, HROW.out.kept hk7 (fun A hA => (HFR.out A hA).2), fun A hA => ⟨(HFR.out A hA).1, fun e => by
              rcases e.1 with e3 | e3
              · exact (HFR.out A hA).2 e3
              · obtain ⟨b, o, e4, hlt, _⟩ := HROW.out.at_ (by have := HIM.out; omega)
                rw [hA] at e4
                injection e4 with e4
                rw [e4] at e3
                have e3' : wr.heap.size ≤ b := e3
                omega⟩, HBW.out.trans (hk7.below HBW.out.size (fun k e => Nat.le_trans HB1.out.size (HCB.out.2 k e).1)), Nat.le_trans HSZ.out hk7.size⟩)
          clear hcm7 hk7 HADD HRW
          have hi1 : (i : Int) + (j : Int) + 1 = (m : Int) := by have := HIM.out; omega
          go_wp2_with fail
          go_roundw
          case rel => exact ⟨j + 1, _, rfl, by push_cast; omega, by have := HIM.out; omega, HRES.out⟩
          case measure => first | (simp [intOf]; omega) | simp [intOf]
        · obtain rfl : j = m := by omega
          have hx0 : x = -1 := by omega
          subst hx0
          obtain ⟨Sa, Sb, hca, hcb, hdis, hrow, hfr, hbw, hsz⟩ := hob
          have hlow := (HTV.out W1 HB1.out).low
          have han := coAnch_is hca.1 (HTV.out wr hbw) (fun k e => Nat.le_trans hlow (hca.2 k e).1)
          obtain ⟨AN, hAN⟩ : ∃ y, y = anchorOf KS SS cs := ⟨_, rfl⟩
          obtain ⟨LAN, hLAN⟩ : ∃ y, y = bcells AN := ⟨_, rfl⟩
          rw [← hAN] at han
          unfold arr at han
          rw [← hLAN] at han
          have hANh : IsHash AN := by
            rw [hAN]
            unfold anchorOf
            by_cases e : cs = []
            · rw [if_pos e]; exact hZ_hash
            · rw [if_neg e]; exact anchorK_hash KS SS ss_len _
          have HEQ := Lib.hid (show ∀ v, (Op.equalIn 10000 27 (.agg LAN.toArray) (.agg LAN.toArray)).run Tryz.prog v = .ok true v from fun v => by rw [hLAN, hash_eqC AN AN hANh hANh v, decide_eq_true rfl])
          have HAN := Lib.hid han
          have HCB := Lib.hid hcb
          have HCA := Lib.hid hca
          have HDIS := Lib.hid hdis
          have HBW := Lib.hid hbw
          have HLA := Lib.hid hLAN
          have HEA := Lib.hid (show anchorOf KS SS (cs.reverse.take j) = AN by
            rw [List.take_of_length_le (by rw [List.length_reverse, ← HM.out]; exact Nat.le_refl _), hAN]
            exact anchor_perm ss_len HFN.out cs.reverse_perm)
          have HLO := Lib.hid hlow
          clear han hAN hLAN hANh hca hcb hdis hrow hfr hbw hsz hlow hx hj hlt
          go_wp2_with fail
          refine HAN.out.mono ?_
          rintro _ V3 ⟨rfl, -, hk3⟩
          have hbw3 : Below w.heap.size w V3 := HBW.out.trans (hk3.below HBW.out.size (fun k e => Nat.le_trans HB1.out.size (HCA.out.2 k e).1))
          have hb3 := HCB.out.kept hk3 (fun k e1 e2 => HDIS.out k e2 e1)
          have han := coAnch_is hb3.1 (HTV.out V3 hbw3) (fun k e => Nat.le_trans HLO.out (hb3.2 k e).1)
          rw [HEA.out] at han
          unfold arr at han
          rw [← HLA.out] at han
          have HAN2 := Lib.hid han
          have HZ := Lib.hid (fun k e => (hb3.2 k e).1)
          have HBW3 := Lib.hid hbw3
          clear hk3 hbw3 hb3 han HAN HCA HCB HDIS HBW
          go_wp2_with fail
          refine HAN2.out.mono ?_
          rintro _ V4 ⟨rfl, -, hk4⟩
          have HBW4 := Lib.hid (show Below w.heap.size w V4 from HBW3.out.trans (hk4.below HBW3.out.size (fun k e => Nat.le_trans HB1.out.size (HZ.out k e))))
          have heq := HEQ.out V4
          clear hk4 HAN2 HZ HBW3
          go_wp2
          go_ret
          exact ⟨rfl, HBW4.out⟩
 · have h8' : (8 : Int) < (n : Int) := by omega
   go_wp2
   go_ret
   exact ⟨rfl, HB1.out⟩
end Go.Proofs.YtknfbccbdiidjaaGreatDoor

