/- The walk of BookBack. -/
import Derived.Test.YtnddejgglbdkmaaDoorBook36
namespace Go.Proofs.YtnddejgglbdkmaaDoor
set_option linter.unusedVariables false
set_option linter.unusedSimpArgs false
open Go.ChangeShapes Go.WideShapes Go.ChangeAt Go.RowKit Go.Maps

/-- the steps of which BookBack makes use. -/
def stepF (K s0 : List Wd) (b : Bk) (s : Stp) : Bk := if s.K = 0 then fundN b s.side s.id s.n else if s.K = 1 then offN b (s.offer K s0) else b
theorem stepF_tidy (K s0 : List Wd) (hl : s0.length = 8) {b : Bk} (h : Tidy b) {s : Stp} (hs : s.ok) : Tidy (stepF K s0 b s) := by
  unfold stepF
  split
  · exact fund_tidy h _ _ _
  · split
    · exact offer_tidy h _ (stp_offer_ok K s0 hl s hs)
    · exact h
theorem stepF_small {b : Bk} {m : Nat} (h : Small b m) (K s0 : List Wd) (s : Stp) : Small (stepF K s0 b s) (m + 1) := by
  unfold stepF
  split
  · exact fund_small h _ _ _
  · split
    · exact offer_small h _
    · exact h.more (by omega)

theorem Lv.below' {S : Nat → Prop} {w w' : World} {g : Nat} {b : Bk} (h : Lv S w g b) (hb : Below w.heap.size w w') : Lv S w' g b := h.quiet hb
set_option maxRecDepth 100000 in
set_option maxHeartbeats 8000000 in
theorem back_walk (K s0 : List Wd) (k0 k1 : Nat) (A : Option Addr) (n c : Nat) (o : Off) (sec : List Nat) (w : World) (hT : Tabs K s0 w) (ss : List Stp) (hS : Steps w A n ss) (ho : o.ok) (hsec : IsHash sec) :
    Calls Tryd.prog 6 #[.agg #[.int .u64 (k0 : Int), .int .u64 (k1 : Int)], .slice A n c, .agg o.cells.toArray, arr sec] w fun e w' => e = .returned (.bool true) ∧ Below w.heap.size w w' := by
  obtain ⟨hn, hlen, hok, sb, so, hA, hrng⟩ := hS
  unfold maxLen at hn
  obtain ⟨Z, hz, hzs, hzn⟩ := zero_step
  have HHD := Lib.hid (fun W => head_is W)
  have HT := Lib.hid hT
  have HLEN := Lib.hid hlen
  have HOK := Lib.hid hok
  have HA := Lib.hid hA
  have HRNG := Lib.hid hrng
  have HO := Lib.hid ho
  have HSEC := Lib.hid hsec
  obtain ⟨LO, hLO⟩ : ∃ L, L = o.cells := ⟨_, rfl⟩
  obtain ⟨LS, hLS⟩ : ∃ L, L = bcells sec := ⟨_, rfl⟩
  unfold arr
  rw [← hLO, ← hLS]
  have EO := Lib.hid hLO
  have ES := Lib.hid hLS
  clear hT hlen hok hA hrng ho hsec hLO hLS
  go_enter Tryd.func6, Tryd.ntmps6
  go_upto_region 1 with (fail)
  have s1 : ∀ (x : World) o, (x.alloc o).heap.size = x.heap.size + 1 := fun x o => by simp
  have b1 := Has.new w 23 #[.int .u64 (k0 : Int), .int .u64 (k1 : Int)]
  have b2 := Has.new (w.alloc (.cells #[.int .u64 (k0 : Int), .int .u64 (k1 : Int)] 23)) 32 LO.toArray
  have b3 := Has.new ((w.alloc (.cells #[.int .u64 (k0 : Int), .int .u64 (k1 : Int)] 23)).alloc (.cells LO.toArray 32)) 30 LS.toArray
  have hk3 := (((Kept.refl (fun _ => False) w).alloc (.cells #[.int .u64 (k0 : Int), .int .u64 (k1 : Int)] 23)).alloc (.cells LO.toArray 32)).alloc (.cells LS.toArray 30)
  have b1' := (b1.alloc (.cells LO.toArray 32)).alloc (.cells LS.toArray 30)
  have b2' := b2.alloc (.cells LS.toArray 30)
  rw [s1] at b2'
  rw [s1, s1] at b3
  have HB1 := Lib.hid b1'
  have HB2 := Lib.hid b2'
  have HB3 := Lib.hid b3
  have HK3 := Lib.hid hk3
  clear s1 b1 b2 b3 hk3 b1' b2'
  generalize ((w.alloc (.cells #[.int .u64 (k0 : Int), .int .u64 (k1 : Int)] 23)).alloc (.cells LO.toArray 32)).alloc (.cells LS.toArray 30) = W0 at HB1 HB2 HB3 HK3 ⊢
  go_wp2_with fail
  refine (HHD.out _).mono ?_
  rintro _ w1 ⟨rfl, hh⟩
  have hb1 := HB1.out.below hh HB1.out.lt
  have d0 : w1.cell? ⟨w.heap.size, 0, none⟩ = some (.int .u64 (k0 : Int)) := hb1.cell_is rfl
  have d1 : w1.cell? ⟨w.heap.size, 1, none⟩ = some (.int .u64 (k1 : Int)) := hb1.cell_is rfl
  have HB2' := Lib.hid (HB2.out.below hh HB2.out.lt)
  have HB3' := Lib.hid (HB3.out.below hh HB3.out.lt)
  have HBW := Lib.hid ((HK3.out.below (Nat.le_refl _) (fun _ h => h.elim)).trans (hh.mono HK3.out.size))
  clear hh hb1 HB1 HB2 HB3 HK3 HHD
  go_wp2_with fail
  refine (lv_new w1 (fun k => w1.heap.size ≤ k) (fun _ h => h) k0 k1).mono ?_
  rintro _ w2 ⟨g, rfl, hlv, hb2, hg⟩
  have HLV := Lib.hid hlv
  have HBL := Lib.hid hb2
  clear hlv hb2 hg d0 d1
  go_wp2_with fail
  go_loopw [10] (fun i wr => ∃ (k : Nat) (b : Bk), i = .int .i64 (k : Int) ∧ k ≤ n ∧ k ≤ 40 ∧ Tidy b ∧ Small b k ∧ Lv (fun k => w1.heap.size ≤ k) wr g b ∧ Below w1.heap.size w1 wr) (fun i _ => n - (intOf i).toNat)
  case atStart => exact ⟨0, _, rfl, Nat.zero_le _, by decide, new_tidy k0 k1, fun f => by unfold Bk.side; split <;> exact Nat.zero_le _, HLV.out, HBL.out⟩
  case round =>
    obtain ⟨k, b, rfl, hk, hk40, htd, hsm, hlv, hbel⟩ := hrel
    have HTD := Lib.hid htd
    have HSM := Lib.hid hsm
    have HLR := Lib.hid hlv
    have HBR := Lib.hid hbel
    clear htd hsm hlv hbel HLV HBL
    by_cases hlt : k < n ∧ k < 40
    · obtain ⟨hlt, h40⟩ := hlt
      obtain ⟨s, hs⟩ : ∃ s, ss[k]? = some s := ⟨_, List.getElem?_eq_getElem (by rw [HLEN.out]; exact hlt)⟩
      have hsok := HOK.out s (List.mem_of_getElem? hs)
      obtain ⟨hA1, hA2⟩ := HA.out (by omega)
      subst hA1
      have hN1 : w.heap.size ≤ w1.heap.size := HBW.out.size
      have hbw : Below w.heap.size w wr := HBW.out.trans (HBR.out.mono hN1)
      have hrw := rangeAt_kept (HRNG.out k s hs) (Kept.of_below (S := fun _ => False) hbw) (fun h => h)
      have hl137 := s.length hsok
      have HRW := Lib.hid hrw
      have SZ := Lib.hid (show (Tryd.prog.info? 34).map (·.size) = some s.cells.length by rw [hl137]; kernel_rfl)
      have SZA := Lib.hid (show (Tryd.prog.info? 34).map (·.size) = some s.cells.toArray.size by rw [List.size_toArray]; exact SZ.out)
      have HZZ := Lib.hid (show Z.size = s.cells.toArray.size by rw [hzs, List.size_toArray, hl137])
      have HONE := Lib.hid (show s.cells.toArray.all (·.oneCell') = true from all_oneCell_toArray (stp_one s))
      have hnw : ∀ C, Has ((wr.alloc (.cells Z 34)).setRow wr.heap.size C) wr.heap.size 34 C ∧ Kept (fun _ => False) wr ((wr.alloc (.cells Z 34)).setRow wr.heap.size C) := fun C => by
        rw [World.setRow_alloc_new]
        exact ⟨Has.new wr _ _, (Kept.refl _ _).alloc _⟩
      have HNW := Lib.hid hnw
      have HSOK := Lib.hid hsok
      clear hrw hl137 hnw hsok hs hbw hN1
      go_upto_region 8 with (first
        | (refine wpList_load_mid rfl 34 (.tmp 30) rfl sb (so + k * 137) rfl s.cells _ HRW.out Tryd.underlying34 rfl SZ.out ?_)
        | (refine wpList_store_row rfl 34 (.tmp 11) (.tmp 31) rfl wr.heap.size s.cells.toArray rfl rfl 34 Z (heap_alloc_new wr _) SZA.out HZZ.out HONE.out ?_))
      obtain ⟨h3, hk3⟩ := HNW.out s.cells.toArray
      have hwN : w1.heap.size ≤ wr.heap.size := HBR.out.size
      have hlv3 : Lv (fun k => w1.heap.size ≤ k ∧ k ≠ wr.heap.size) ((wr.alloc (.cells Z 34)).setRow wr.heap.size s.cells.toArray) g b :=
        (HLR.out.zone (S' := fun k => w1.heap.size ≤ k ∧ k ≠ wr.heap.size) (fun k h1 h2 => ⟨h2, by omega⟩)).kept hk3 (fun _ _ _ h => h)
      have hb3 : Below w1.heap.size w1 ((wr.alloc (.cells Z 34)).setRow wr.heap.size s.cells.toArray) := HBR.out.trans (hk3.below hwN (fun _ h => h.elim))
      have hT3 : Tabs K s0 ((wr.alloc (.cells Z 34)).setRow wr.heap.size s.cells.toArray) := HT.out.below (HBW.out.trans (hb3.mono HBW.out.size)) HT.out.low
      have hn9 : ∀ k, ((wr.alloc (.cells Z 34)).setRow wr.heap.size s.cells.toArray).heap.size ≤ k → (w1.heap.size ≤ k ∧ k ≠ wr.heap.size) := fun k hk => by
        have h1 := h3.lt
        exact ⟨by omega, by omega⟩
      have HGN := Lib.hid hwN
      clear hk3 HNW HRW hwN
      generalize (wr.alloc (.cells Z 34)).setRow wr.heap.size s.cells.toArray = W9 at h3 hlv3 hT3 hb3 hn9 ⊢
      generalize wr.heap.size = G at h3 hlv3 HGN hn9 ⊢
      obtain ⟨g0, g1, g34, -, -⟩ := stp_get HSOK.out
      have c0 : W9.cell? ⟨G, 0, none⟩ = some (.int .i64 s.K) := h3.cell_is (by simpa using g0)
      have c1 : W9.cell? ⟨G, 1, none⟩ = some (.int .i64 s.side) := h3.cell_is (by simpa using g1)
      have c34 : W9.cell? ⟨G, 34, none⟩ = some (.int .u64 (s.n : Int)) := h3.cell_is (by rw [List.getElem?_toArray]; exact g34)
      have H3 := Lib.hid h3
      have HLV3 := Lib.hid hlv3
      have HT3 := Lib.hid hT3
      have HB3 := Lib.hid hb3
      have HN9 := Lib.hid hn9
      have HTDN := Lib.hid (stepF_tidy K s0 hT3.len HTD.out HSOK.out)
      have HSMN := Lib.hid (stepF_small HSM.out K s0 s)
      clear h3 hlv3 hT3 hb3 hn9 g0 g1 g34 HZZ HONE SZ
      obtain ⟨KK, hKK⟩ : ∃ x, x = s.K := ⟨_, rfl⟩
      obtain ⟨SD, hSD⟩ : ∃ x, x = s.side := ⟨_, rfl⟩
      obtain ⟨NN, hNN⟩ : ∃ x, x = s.n := ⟨_, rfl⟩
      rw [← hKK] at c0
      rw [← hSD] at c1
      rw [← hNN] at c34
      have EK := Lib.hid hKK
      have ESD := Lib.hid hSD
      have ENN := Lib.hid hNN
      clear hKK hSD hNN
      have hend : ∀ w5 b', stepF K s0 b s = b' → Lv (fun k => w1.heap.size ≤ k ∧ k ≠ G) w5 g b' → Kept (fun k => w1.heap.size ≤ k ∧ k ≠ G) W9 w5 → Tidy b' ∧ Small b' (k + 1) ∧ Lv (fun k => w1.heap.size ≤ k) w5 g b' ∧ Below w1.heap.size w1 w5 := fun w5 b' e h1 h2 => by
        subst e
        exact ⟨HTDN.out, HSMN.out, h1.zone (fun k _ e => e.1), HB3.out.trans (h2.below HB3.out.size (fun k e => e.1))⟩
      have HEND := Lib.hid hend
      clear hend
      by_cases hK0 : KK = 0
      · have EB := Lib.hid (show stepF K s0 b s = fundN b SD s.id NN by unfold stepF; rw [if_pos (by rw [← EK.out]; exact hK0), ← ESD.out, ← ENN.out])
        have hf := lv_fund HLV3.out HN9.out HTD.out.ok SD s.id NN HSOK.out.id (by rw [ENN.out]; exact HSOK.out.n)
        obtain ⟨L, hL⟩ : ∃ L, L = bcells s.id := ⟨_, rfl⟩
        have hL1 := stp_id H3.out
        unfold arr at hf
        rw [← hL] at hL1 hf
        have HL1 := Lib.hid hL1
        have HF := Lib.hid hf
        have SZL := Lib.hid (show (Tryd.prog.info? 30).map (·.size) = some L.length by rw [hL, bcells_length, HSOK.out.id.1]; kernel_rfl)
        subst hK0
        clear hf hL1 hL
        go_wp2_with (refine wpList_load_mid rfl 30 (.tmp 39) rfl G 2 rfl L _ HL1.out Tryd.underlying30 rfl SZL.out ?_)
        refine HF.out.mono ?_
        rintro _ w5 ⟨rfl, hlv5, hk5⟩
        have HE := Lib.hid (HEND.out w5 _ EB.out hlv5 hk5)
        clear hlv5 hk5 c0 c1 c34
        go_wp2
        go_roundw
        case rel => exact ⟨k + 1, _, by go_num, by omega, by omega, HE.out⟩
        case measure => simp [intOf]; omega
      · have HK0 := Lib.hid (show ¬ s.K = 0 from fun e => hK0 (by rw [EK.out]; exact e))
        by_cases hK1 : KK = 1
        · subst hK1
          have HBB := Lib.hid (show stepF K s0 b s = offN b (s.offer K s0) by unfold stepF; rw [if_neg HK0.out, if_pos EK.out.symm])
          have hso := stepOffer_is K s0 W9 HT3.out s HSOK.out
          obtain ⟨O, hO⟩ : ∃ O, O = s.offer K s0 := ⟨_, rfl⟩
          have hOok : O.ok := by rw [hO]; exact stp_offer_ok K s0 HT3.out.len s HSOK.out
          rw [← hO] at hso
          have HO2 := Lib.hid hO
          have HSO := Lib.hid hso
          have HOOK := Lib.hid hOok
          clear hO hso hOok c34 c1 hK0
          go_wp2_with (refine wpList_load_row rfl 34 (.tmp 11) rfl G rfl 34 s.cells.toArray (0, 0) _ H3.out Tryd.underlying34 rfl SZA.out ?_)
          refine HSO.out.mono ?_
          rintro _ w4 ⟨rfl, hb4⟩
          have hof := lv_offer (HLV3.out.quiet hb4) (fun k h => HN9.out k (Nat.le_trans hb4.size h)) HTD.out.ok O HOOK.out
          have HOF := Lib.hid hof
          have HB4 := Lib.hid hb4
          clear hof hb4
          go_wp2_with fail
          refine HOF.out.mono ?_
          rintro _ w5 ⟨rfl, hlv5, hk5⟩
          have HE := Lib.hid (HEND.out w5 _ (by rw [HBB.out, ← HO2.out]) hlv5 ((Kept.of_below HB4.out).trans hk5))
          clear hlv5 hk5 c0
          go_wp2
          go_roundw
          case rel => exact ⟨k + 1, _, by go_num, by omega, by omega, HE.out⟩
          case measure => simp [intOf]; omega
        · have HE := Lib.hid (HEND.out W9 b (by unfold stepF; rw [if_neg HK0.out, if_neg (by rw [← EK.out]; exact hK1)]) HLV3.out (Kept.refl _ _))
          clear c34 c1
          go_wp2
          go_roundw
          case rel => exact ⟨k + 1, _, by go_num, by omega, by omega, HE.out⟩
          case measure => simp [intOf]; omega
    · have hbw : Below w.heap.size w wr := HBW.out.trans (HBR.out.mono HBW.out.size)
      have hbo := HB2'.out.below HBR.out HB2'.out.lt
      have hbs := HB3'.out.below HBR.out HB3'.out.lt
      have hT4 : Tabs K s0 wr := HT.out.below hbw HT.out.low
      have hwo : w.heap.size + 1 < w1.heap.size := HB2'.out.lt
      have hws : w.heap.size + 1 + 1 < w1.heap.size := HB3'.out.lt
      rw [EO.out] at hbo
      rw [ES.out] at hbs
      obtain ⟨D, hD⟩ : ∃ D, D = digest K s0 sec := ⟨_, rfl⟩
      have hDh : IsHash D := by rw [hD]; exact digest_hash K s0 hT4.len sec
      have hsum := sum_one K s0 wr (w.heap.size + 1 + 1) 0 32 32 sec hT4 HSEC.out.1 (Nat.le_refl _) (by decide) HSEC.out.2 hbs.lt (fun i hi => by rw [Nat.zero_add]; exact hbs.cell_is (by rw [List.getElem?_toArray]; exact bcells_get _ _ (by rw [HSEC.out.1]; exact hi)))
      rw [← hD] at hsum
      unfold arr at hsum
      have hdone : (bcells D).toArray.all (·.oneCell') = true := all_oneCell_toArray (bcells_oneC D)
      have hds : (bcells D).toArray.size = 32 := by rw [List.size_toArray, bcells_length, hDh.1]
      obtain ⟨O, hO⟩ : ∃ O : Off, O = { o with lock := D } := ⟨_, rfl⟩
      have hOok : O.ok := by rw [hO]; exact ⟨HO.out.1, hDh, HO.out.2.2⟩
      have HSUM := Lib.hid hsum
      have HDH := Lib.hid hDh
      have HDONE := Lib.hid hdone
      have HDS := Lib.hid hds
      have EO2 := Lib.hid hO
      have HOOK := Lib.hid hOok
      have ED := Lib.hid hD
      have HBO := Lib.hid hbo
      have HBS := Lib.hid hbs
      have HWO := Lib.hid (And.intro hwo hws)
      have SZ32 := Lib.hid (show (Tryd.prog.info? 30).map (·.size) = some 32 by kernel_rfl)
      have SZO := Lib.hid (show (Tryd.prog.info? 32).map (·.size) = some O.cells.toArray.size by rw [List.size_toArray, O.length hOok]; kernel_rfl)
      clear hbw hbo hbs hT4 hwo hws hsum hDh hdone hds hO hOok hD
      by_cases hlt2 : k < n
      all_goals
        try have h80 : ¬ k < 40 := fun e => hlt ⟨hlt2, e⟩
        clear hlt
        go_wp2_with fail
        refine HSUM.out.mono ?_
        rintro _ w3 ⟨rfl, hb3⟩
        have hbo3 := HBO.out.below hb3 HBO.out.lt
        obtain ⟨q1, q2, q3⟩ := off_locked hbo3 HO.out HDH.out
        rw [← EO2.out] at q1
        have hlv4 : Lv (fun k => w1.heap.size ≤ k) (w3.setCells (w.heap.size + 1) 35 (bcells D)) g b := (HLR.out.quiet hb3).kept q2 (fun j _ h1 h2 => by have := HWO.out.1; omega)
        have hbs4 := (HBS.out.below hb3 HBS.out.lt).kept q2 (by omega)
        have hbel4 : Below w.heap.size w (w3.setCells (w.heap.size + 1) 35 (bcells D)) := ((HBW.out.trans (HBR.out.mono HBW.out.size)).trans (hb3.mono (by have h1 := HBR.out.size; have h2 := HBW.out.size; omega))).trans (q2.below (by have h1 := HBR.out.size; have h2 := HBW.out.size; have h3 := hb3.size; omega) (fun j e => by omega))
        have hsz4 : w1.heap.size ≤ (w3.setCells (w.heap.size + 1) 35 (bcells D)).heap.size := Nat.le_trans (Nat.le_trans HBR.out.size hb3.size) q2.size
        have Q1 := Lib.hid q1
        have Q3 := Lib.hid q3
        have HLV4 := Lib.hid hlv4
        have HBS4 := Lib.hid hbs4
        have HBE4 := Lib.hid hbel4
        have HSZ4 := Lib.hid hsz4
        clear hb3 hbo3 q1 q2 q3 hlv4 hbs4 hbel4 hsz4
        go_upto_region 14 with (refine wpList_store_mid rfl 30 (.tmp 53) (.tmp 52) rfl (w.heap.size + 1) 35 (bcells D).toArray rfl rfl (by rw [HDS.out]; exact Q3.out) (by rw [HDS.out]; exact SZ32.out) HDONE.out ?_)
        generalize w3.setCells (w.heap.size + 1) 35 (bcells D).toArray.toList = W4 at Q1 HLV4 HBS4 HBE4 HSZ4 ⊢
        go_wp2_with fail
        refine (lv_clone HLV4.out HTD.out.ok).mono ?_
        rintro _ W5 ⟨gw, bw, rfl, hlw, hqw, hb5⟩
        have hO5 := Q1.out.below hb5 Q1.out.lt
        have hS5 := HBS4.out.below hb5 HBS4.out.lt
        have hlv5 : Lv (fun k => w1.heap.size ≤ k ∧ ¬ (W4.heap.size ≤ k ∧ k < W5.heap.size)) W5 g b := (HLV4.out.zone (S' := fun k => w1.heap.size ≤ k ∧ ¬ (W4.heap.size ≤ k ∧ k < W5.heap.size)) (fun k h1 h2 => ⟨h2, by omega⟩)).quiet hb5
        have hof := lv_offer hlv5 (fun k h => ⟨by have h1 := HSZ4.out; have h2 := hb5.size; omega, by omega⟩) HTD.out.ok O HOOK.out
        have HO5 := Lib.hid hO5
        have HS5 := Lib.hid hS5
        have HLW := Lib.hid hlw
        have HQW := Lib.hid hqw
        have HB5 := Lib.hid hb5
        have HLV5 := Lib.hid hlv5
        have HSZ5 := Lib.hid (show w1.heap.size ≤ W5.heap.size from Nat.le_trans HSZ4.out hb5.size)
        have HBE5 := Lib.hid (HBE4.out.trans (hb5.mono (by have h1 := HSZ4.out; have h2 := HBW.out.size; omega)))
        have HGO := Lib.hid (show w.heap.size + 1 < w1.heap.size ∧ w.heap.size + 1 + 1 < w1.heap.size from HWO.out)
        obtain ⟨E, hE⟩ : ∃ E, E = offE b O := ⟨_, rfl⟩
        rw [← hE] at hof
        have HOF := Lib.hid hof
        have EE := Lib.hid hE
        clear hO5 hS5 hlw hqw hb5 hlv5 hof hE
        by_cases hE0 : E = 0
        · subst hE0
          go_wp2_with (refine wpList_load_row rfl 32 (.tmp 6) rfl (w.heap.size + 1) rfl 32 O.cells.toArray (0, 0) _ HO5.out Tryd.underlying32 rfl SZO.out ?_)
          refine HOF.out.mono ?_
          rintro _ W6 ⟨rfl, hlv6, hk6⟩
          have he0 : offE b O = 0 := EE.out.symm
          have ht6 := offer_tidy HTD.out O HOOK.out
          obtain ⟨hbk0, hbq⟩ := back_all HTD.out O he0
          have hO6 := HO5.out.kept hk6 (fun e => by have := HGO.out.1; have := e.1; omega)
          have hS6 := HS5.out.kept hk6 (fun e => by have := HGO.out.2; have := e.1; omega)
          have hlw6 := HLW.out.kept hk6 (fun k _ e1 e2 => e2.2 ⟨e1.1, e1.2⟩)
          have hbe6 : Below w.heap.size w W6 := HBE5.out.trans (hk6.below (by have h1 := HSZ5.out; have h2 := HBW.out.size; omega) (fun j e => by have h1 := e.1; have h2 := HBW.out.size; omega))
          have hfair : O.fair := (off_facts HTD.out O he0).1
          have HT6 := Lib.hid ht6
          have HLV6 := Lib.hid hlv6
          have HO6 := Lib.hid hO6
          have HS6 := Lib.hid hS6
          have HLW6 := Lib.hid hlw6
          have HBE6 := Lib.hid hbe6
          have HBQ := Lib.hid hbq
          have HBK0 := Lib.hid hbk0
          have HE0 := Lib.hid he0
          have HFA := Lib.hid hfair
          have HSZ6 := Lib.hid (show w1.heap.size ≤ W5.heap.size ∧ W5.heap.size ≤ W6.heap.size from ⟨HSZ5.out, hk6.size⟩)
          clear ht6 hlv6 hO6 hS6 hlw6 hbe6 hbk0 hbq hk6 he0 hfair
          go_wp2_with fail
          refine (lv_clone HLV6.out HT6.out.ok).mono ?_
          rintro _ W7 ⟨gc, cb, rfl, hlc, hqc, hb7⟩
          have hlv7 : Lv (fun k => (w1.heap.size ≤ k ∧ ¬ (W4.heap.size ≤ k ∧ k < W5.heap.size)) ∧ ¬ (W6.heap.size ≤ k ∧ k < W7.heap.size)) W7 g (offN b O) :=
            (HLV6.out.zone (S' := fun k => (w1.heap.size ≤ k ∧ ¬ (W4.heap.size ≤ k ∧ k < W5.heap.size)) ∧ ¬ (W6.heap.size ≤ k ∧ k < W7.heap.size)) (fun k h1 h2 => ⟨h2, by omega⟩)).quiet hb7
          have hO7 := HO6.out.below hb7 HO6.out.lt
          obtain ⟨d0, d1, d34, -⟩ := off_has hO7 HOOK.out
          have hbk := lv_back hlv7 (fun k h => by have h1 := HSZ6.out; have h2 := hb7.size; exact ⟨⟨by omega, by omega⟩, by omega⟩) HT6.out O.frm O.no
          rw [HBK0.out] at hbk
          have HLC := Lib.hid hlc
          have HQC := Lib.hid hqc
          have HB7 := Lib.hid hb7
          have HO7 := Lib.hid hO7
          have HBK := Lib.hid hbk
          obtain ⟨fr, hfr⟩ : ∃ x, x = O.frm := ⟨_, rfl⟩
          obtain ⟨nr, hnr⟩ : ∃ x, x = O.no := ⟨_, rfl⟩
          rw [← hfr] at d1 HBK
          rw [← hnr] at d0 HBK
          have EFR := Lib.hid hfr
          have ENR := Lib.hid hnr
          clear hlc hqc hb7 hO7 hbk hlv7 hfr hnr d34
          go_wp2_with fail
          refine HBK.out.mono ?_
          rintro _ W8 ⟨rfl, hlv8, hk8⟩
          rw [EFR.out, ENR.out] at hlv8
          have hlw8 := (HLW6.out.below' HB7.out).kept hk8 (fun k _ e1 e2 => e2.1.2 ⟨e1.1, e1.2⟩)
          have hlc8 := HLC.out.kept hk8 (fun k _ e1 e2 => e2.2 ⟨e1.1, e1.2⟩)
          have hO8 := HO7.out.kept hk8 (fun e => by have := HGO.out.1; have := e.1.1; omega)
          have hS8 := (HS6.out.below HB7.out HS6.out.lt).kept hk8 (fun e => by have := HGO.out.2; have := e.1.1; omega)
          have hbe8 : Below w.heap.size w W8 := (HBE6.out.trans (HB7.out.mono (by have h1 := HSZ6.out; have h2 := HBW.out.size; omega))).trans (hk8.below (by have h1 := HSZ6.out; have h2 := HBW.out.size; have h3 := HB7.out.size; omega) (fun j e => by have h1 := e.1.1; have h2 := HBW.out.size; omega))
          have htb : Tidy (backN (offN b O) O.frm O.no) := HBQ.out.tidy HTD.out
          have hsm : Small b 1000000 := HSM.out.more (by omega)
          have hsmb : Small (backN (offN b O) O.frm O.no) 1000000 := HBQ.out.small hsm
          have hsame := lv_same hlv8 hlw8 htb (HBQ.out.symm.trans HQW.out) hsmb (HQW.out.small hsm)
          have HSAME := Lib.hid hsame
          have HLC8 := Lib.hid hlc8
          have HLW8 := Lib.hid hlw8
          have HO8 := Lib.hid hO8
          have HS8 := Lib.hid hS8
          have HBE8 := Lib.hid hbe8
          have HSZ8 := Lib.hid (show W7.heap.size ≤ W8.heap.size ∧ W6.heap.size ≤ W7.heap.size from ⟨hk8.size, HB7.out.size⟩)
          clear hlv8 hk8 hlw8 hlc8 hO8 hS8 hbe8 htb hsm hsmb hsame d0 d1
          go_wp2_with fail
          refine HSAME.out.mono ?_
          rintro _ W9 ⟨rfl, hb9⟩
          have hO9 := HO8.out.below hb9 HO8.out.lt
          have hS9 := HS8.out.below hb9 HS8.out.lt
          obtain ⟨d0, d1, -, -⟩ := off_has hO9 HOOK.out
          rw [← EFR.out] at d1
          rw [← ENR.out] at d0
          have hbe9 : Below w.heap.size w W9 := HBE8.out.trans (hb9.mono (by have h1 := HSZ6.out; have h2 := HBW.out.size; have h3 := HSZ8.out; omega))
          have hT9 : Tabs K s0 W9 := HT.out.below hbe9 HT.out.low
          have hlc9 : Lv (fun k => W6.heap.size ≤ k) W9 gc cb := (HLC8.out.quiet hb9).zone (fun k _ e => e.1)
          have hlw9 := HLW8.out.quiet hb9
          have hse := lv_settle K s0 hT9 hlc9 (fun k h => by have h1 := HSZ8.out; have h2 := hb9.size; omega) (HQC.out.tidy HT6.out) O.frm O.no sec HSEC.out
          obtain ⟨hs0, hs1, hs2⟩ := settle_all HTD.out O HE0.out HQC.out K s0 sec (by rw [EO2.out]; exact ED.out)
          rw [hs0, ← EFR.out, ← ENR.out] at hse
          unfold arr at hse
          rw [← ES.out] at hse hS9
          have HSE := Lib.hid hse
          have HO9 := Lib.hid hO9
          have HS9 := Lib.hid hS9
          have HLW9 := Lib.hid hlw9
          have HBE9 := Lib.hid hbe9
          have HX := Lib.hid (And.intro hs1 hs2)
          have HSZ9 := Lib.hid (show W6.heap.size ≤ W9.heap.size by have h1 := HSZ8.out; have h2 := hb9.size; omega)
          have SZS := Lib.hid (show (Tryd.prog.info? 30).map (·.size) = some LS.toArray.size by rw [ES.out, List.size_toArray, bcells_length, HSEC.out.1]; kernel_rfl)
          clear hO9 hS9 hbe9 hT9 hlc9 hlw9 hse hs0 hs1 hs2 hb9
          go_wp2_with (refine wpList_load_rowG (by kernel_rfl) 30 (.tmp 7) rfl (w.heap.size + 1 + 1) rfl 30 LS.toArray (0, 0) _ HS9.out Tryd.underlying30 rfl SZS.out ?_)
          refine HSE.out.mono ?_
          rintro _ WA ⟨rfl, hlcA, hkA⟩
          have hlwA := HLW9.out.kept hkA (fun k _ e1 e2 => by have h1 := HSZ6.out.2; have h2 := e1.2; omega)
          have hOA := HO9.out.kept hkA (fun e => by have h1 := HGO.out.1; have h2 := HSZ6.out; omega)
          have hbeA : Below w.heap.size w WA := HBE9.out.trans (hkA.below (by have h1 := HSZ6.out; have h2 := HBW.out.size; have h3 := HSZ9.out; omega) (fun j e => by have h1 := HSZ6.out; have h2 := HBW.out.size; omega))
          have htA := (settle_tidy (HQC.out.tidy HT6.out) K s0 O.frm O.no sec).1
          have hfs := HFA.out.1
          have hfs1 : isSide (1 - O.frm) := by rcases hfs with e | e <;> rw [e] <;> decide
          rw [EFR.out, ENR.out] at hlcA
          have hle := (off_facts HTD.out O HE0.out).2.2.1
          obtain ⟨x1, hx1⟩ : ∃ x, x = (settleN K s0 cb O.frm O.no sec).has (1 - O.frm) O.id := ⟨_, rfl⟩
          obtain ⟨x2, hx2⟩ : ∃ x, x = (settleN K s0 cb O.frm O.no sec).has O.frm O.id := ⟨_, rfl⟩
          obtain ⟨y1, hy1⟩ : ∃ x, x = bw.has (1 - O.frm) O.id := ⟨_, rfl⟩
          obtain ⟨y2, hy2⟩ : ∃ x, x = bw.has O.frm O.id := ⟨_, rfl⟩
          obtain ⟨am, ham⟩ : ∃ x, x = O.am := ⟨_, rfl⟩
          obtain ⟨LI, hLI⟩ : ∃ L, L = bcells O.id := ⟨_, rfl⟩
          have l1 : x1 < 18446744073709551616 := by rw [hx1]; exact look_low (htA.ok.side _) _
          have l2 : y2 < 18446744073709551616 := by rw [hy2]; exact look_low ((HQW.out.tidy HTD.out).ok.side _) _
          have e1 : x1 = y1 + am := by rw [hx1, hy1, ham, HX.out.1, HQW.out.has]
          have e2 : x2 = y2 - am := by rw [hx2, hy2, ham, HX.out.2, HQW.out.has]
          have e3 : am ≤ y2 := by rw [hy2, ham, HQW.out.has]; exact hle
          have hSof : ∀ v, Below WA.heap.size WA v → (v.cell? ⟨w.heap.size + 1, 1, none⟩ = some (.int .i64 fr) ∧ v.cell? ⟨w.heap.size + 1, 34, none⟩ = some (.int .u64 (am : Int)) ∧ v.rangeAt (w.heap.size + 1) 2 LI ∧ Below WA.heap.size WA v) := fun v hb => by
            have hv := hOA.below hb hOA.lt
            obtain ⟨-, d1, d34, -⟩ := off_has hv HOOK.out
            exact ⟨by rw [EFR.out]; exact d1, by rw [ham]; exact d34, by rw [hLI]; exact off_id hv, hb⟩
          have hS20 := hSof WA.drew (Below.refl _ _).drew
          have hc1 : ∀ v, Below WA.heap.size WA v → Calls Tryd.prog 16 #[.pointer (some ⟨gc, 0, none⟩), .int .i64 (1 - fr), .agg LI.toArray] v fun e v' => e = .returned (.int .u64 (x1 : Int)) ∧ Below WA.heap.size WA v' := fun v hb => by
            have := lv_has (hlcA.quiet hb) htA.ok (1 - O.frm) O.id HOOK.out.1 hfs1
            unfold arr at this
            rw [← hLI, ← EFR.out] at this
            exact this.mono fun e v' h => ⟨by rw [h.1, hx1, EFR.out], hb.trans (h.2.mono hb.size)⟩
          have hc2 : ∀ v, Below WA.heap.size WA v → Calls Tryd.prog 16 #[.pointer (some ⟨gc, 0, none⟩), .int .i64 fr, .agg LI.toArray] v fun e v' => e = .returned (.int .u64 (x2 : Int)) ∧ Below WA.heap.size WA v' := fun v hb => by
            have := lv_has (hlcA.quiet hb) htA.ok O.frm O.id HOOK.out.1 hfs
            unfold arr at this
            rw [← hLI, ← EFR.out] at this
            exact this.mono fun e v' h => ⟨by rw [h.1, hx2, EFR.out], hb.trans (h.2.mono hb.size)⟩
          have hw1 : ∀ v, Below WA.heap.size WA v → Calls Tryd.prog 16 #[.pointer (some ⟨gw, 0, none⟩), .int .i64 (1 - fr), .agg LI.toArray] v fun e v' => e = .returned (.int .u64 (y1 : Int)) ∧ Below WA.heap.size WA v' := fun v hb => by
            have := lv_has (hlwA.quiet hb) (HQW.out.tidy HTD.out).ok (1 - O.frm) O.id HOOK.out.1 hfs1
            unfold arr at this
            rw [← hLI, ← EFR.out] at this
            exact this.mono fun e v' h => ⟨by rw [h.1, hy1, EFR.out], hb.trans (h.2.mono hb.size)⟩
          have hw2 : ∀ v, Below WA.heap.size WA v → Calls Tryd.prog 16 #[.pointer (some ⟨gw, 0, none⟩), .int .i64 fr, .agg LI.toArray] v fun e v' => e = .returned (.int .u64 (y2 : Int)) ∧ Below WA.heap.size WA v' := fun v hb => by
            have := lv_has (hlwA.quiet hb) (HQW.out.tidy HTD.out).ok O.frm O.id HOOK.out.1 hfs
            unfold arr at this
            rw [← hLI, ← EFR.out] at this
            exact this.mono fun e v' h => ⟨by rw [h.1, hy2, EFR.out], hb.trans (h.2.mono hb.size)⟩
          have hsf : fr = 0 ∨ fr = 1 := by rw [EFR.out]; exact hfs
          have hq3 : wrap64 (1 - fr) = 1 - fr := by unfold wrap64; omega
          have hq4 : IntKind.i64.wrap (1 - fr) = 1 - fr := by rw [IntKind.wrap_i64]; omega
          have hq5 : IntKind.u64.wrap ((y1 : Int) + (am : Int)) = (x1 : Int) := by rw [IntKind.wrap_u64]; omega
          have hq6 : IntKind.u64.wrap ((y2 : Int) - (am : Int)) = (x2 : Int) := by rw [IntKind.wrap_u64]; omega
          have HC1 := Lib.hid (fun v (h : v.cell? ⟨w.heap.size + 1, 1, none⟩ = some (.int .i64 fr) ∧ v.cell? ⟨w.heap.size + 1, 34, none⟩ = some (.int .u64 (am : Int)) ∧ v.rangeAt (w.heap.size + 1) 2 LI ∧ Below WA.heap.size WA v) => (hc1 v h.2.2.2).mono fun e v' k => And.intro k.1 (hSof v' k.2))
          have HC2 := Lib.hid (fun v (h : v.cell? ⟨w.heap.size + 1, 1, none⟩ = some (.int .i64 fr) ∧ v.cell? ⟨w.heap.size + 1, 34, none⟩ = some (.int .u64 (am : Int)) ∧ v.rangeAt (w.heap.size + 1) 2 LI ∧ Below WA.heap.size WA v) => (hc2 v h.2.2.2).mono fun e v' k => And.intro k.1 (hSof v' k.2))
          have HW1 := Lib.hid (fun v (h : v.cell? ⟨w.heap.size + 1, 1, none⟩ = some (.int .i64 fr) ∧ v.cell? ⟨w.heap.size + 1, 34, none⟩ = some (.int .u64 (am : Int)) ∧ v.rangeAt (w.heap.size + 1) 2 LI ∧ Below WA.heap.size WA v) => (hw1 v h.2.2.2).mono fun e v' k => And.intro k.1 (hSof v' k.2))
          have HW2 := Lib.hid (fun v (h : v.cell? ⟨w.heap.size + 1, 1, none⟩ = some (.int .i64 fr) ∧ v.cell? ⟨w.heap.size + 1, 34, none⟩ = some (.int .u64 (am : Int)) ∧ v.rangeAt (w.heap.size + 1) 2 LI ∧ Below WA.heap.size WA v) => (hw2 v h.2.2.2).mono fun e v' k => And.intro k.1 (hSof v' k.2))
          have SZI := Lib.hid (show (Tryd.prog.info? 30).map (·.size) = some LI.length by rw [hLI, bcells_length, HOOK.out.1.1]; kernel_rfl)
          have HBA := Lib.hid hbeA
          clear hlwA hOA hbeA htA hfs hfs1 hle hx1 hx2 hy1 hy2 ham hLI l1 l2 e1 e2 e3 hSof hc1 hc2 hw1 hw2 hsf hlcA hkA
          go_upto_region 20 with (fail)
          refine wp_region_noPanic ?_
          refine wp_region_held_drew (S := fun w' => w'.cell? ⟨w.heap.size + 1, 1, none⟩ = some (.int .i64 fr) ∧ w'.cell? ⟨w.heap.size + 1, 34, none⟩ = some (.int .u64 (am : Int)) ∧ w'.rangeAt (w.heap.size + 1) 2 LI ∧ Below WA.heap.size WA w') (by kernel_rfl) hS20 (fun hH0 => ?_)
          refine wpAnyH_take (i := 0) (v := (.pointer (some ⟨gc, 0, none⟩))) rfl (by kernel_rfl) (by kernel_rfl) (by kernel_rfl) (fun _ _ _ h => h) (Or.inl ⟨by kernel_rfl, by intro w' hS; obtain ⟨e0, e1, e2, e3⟩ := hS; go_simp⟩) hH0 ?_
          simp only [Act.put, List.getElem_toArray, List.getElem_cons_zero, List.getElem_cons_succ, List.setIfInBounds_toArray, List.set_cons_zero, List.set_cons_succ]
          refine wpAnyH_take (i := 1) (v := (.pointer (some ⟨w.heap.size + 1, 1, none⟩))) rfl (by kernel_rfl) (by kernel_rfl) (by kernel_rfl) (fun _ _ _ h => h) (Or.inl ⟨by kernel_rfl, by intro w' hS; obtain ⟨e0, e1, e2, e3⟩ := hS; go_simp⟩) hH0 ?_
          simp only [Act.put, List.getElem_toArray, List.getElem_cons_zero, List.getElem_cons_succ, List.setIfInBounds_toArray, List.set_cons_zero, List.set_cons_succ]
          refine wpAnyH_take (i := 2) (v := (.int .i64 fr)) rfl (by kernel_rfl) (by kernel_rfl) (by kernel_rfl) (fun _ _ _ h => h) (Or.inl ⟨by kernel_rfl, by intro w' hS; obtain ⟨e0, e1, e2, e3⟩ := hS; go_simp⟩) hH0 ?_
          simp only [Act.put, List.getElem_toArray, List.getElem_cons_zero, List.getElem_cons_succ, List.setIfInBounds_toArray, List.set_cons_zero, List.set_cons_succ]
          refine wpAnyH_take (i := 3) (v := (.int .i64 (1 - fr))) rfl (by kernel_rfl) (by kernel_rfl) (by kernel_rfl) (fun _ _ _ h => h) (Or.inl ⟨by kernel_rfl, by intro w' hS; obtain ⟨e0, e1, e2, e3⟩ := hS; go_simp⟩) hH0 ?_
          simp only [Act.put, List.getElem_toArray, List.getElem_cons_zero, List.getElem_cons_succ, List.setIfInBounds_toArray, List.set_cons_zero, List.set_cons_succ]
          refine wpAnyH_take (i := 4) (v := (.pointer (some ⟨w.heap.size + 1, 2, none⟩))) rfl (by kernel_rfl) (by kernel_rfl) (by kernel_rfl) (fun _ _ _ h => h) (Or.inl ⟨by kernel_rfl, by intro w' hS; obtain ⟨e0, e1, e2, e3⟩ := hS; go_simp⟩) hH0 ?_
          simp only [Act.put, List.getElem_toArray, List.getElem_cons_zero, List.getElem_cons_succ, List.setIfInBounds_toArray, List.set_cons_zero, List.set_cons_succ]
          refine wpAnyH_take (i := 5) (v := (.agg LI.toArray)) rfl (by kernel_rfl) (by kernel_rfl) (by kernel_rfl) (fun _ _ _ h => h) (yieldsIf_load_mid (by kernel_rfl) 30 (.tmp 92) rfl (w.heap.size + 1) 2 rfl LI _ (fun w' h => h.2.2.1) Tryd.underlying30 rfl SZI.out) hH0 ?_
          simp only [Act.put, List.getElem_toArray, List.getElem_cons_zero, List.getElem_cons_succ, List.setIfInBounds_toArray, List.set_cons_zero, List.set_cons_succ]
          refine wpAnyH_take (i := 7) (v := (.pointer (some ⟨gw, 0, none⟩))) rfl (by kernel_rfl) (by kernel_rfl) (by kernel_rfl) (fun _ _ _ h => h) (Or.inl ⟨by kernel_rfl, by intro w' hS; obtain ⟨e0, e1, e2, e3⟩ := hS; go_simp⟩) hH0 ?_
          simp only [Act.put, List.getElem_toArray, List.getElem_cons_zero, List.getElem_cons_succ, List.setIfInBounds_toArray, List.set_cons_zero, List.set_cons_succ]
          refine wpAnyH_take (i := 8) (v := (.pointer (some ⟨w.heap.size + 1, 1, none⟩))) rfl (by kernel_rfl) (by kernel_rfl) (by kernel_rfl) (fun _ _ _ h => h) (Or.inl ⟨by kernel_rfl, by intro w' hS; obtain ⟨e0, e1, e2, e3⟩ := hS; go_simp⟩) hH0 ?_
          simp only [Act.put, List.getElem_toArray, List.getElem_cons_zero, List.getElem_cons_succ, List.setIfInBounds_toArray, List.set_cons_zero, List.set_cons_succ]
          refine wpAnyH_take (i := 9) (v := (.int .i64 fr)) rfl (by kernel_rfl) (by kernel_rfl) (by kernel_rfl) (fun _ _ _ h => h) (Or.inl ⟨by kernel_rfl, by intro w' hS; obtain ⟨e0, e1, e2, e3⟩ := hS; go_simp⟩) hH0 ?_
          simp only [Act.put, List.getElem_toArray, List.getElem_cons_zero, List.getElem_cons_succ, List.setIfInBounds_toArray, List.set_cons_zero, List.set_cons_succ]
          refine wpAnyH_take (i := 10) (v := (.int .i64 (1 - fr))) rfl (by kernel_rfl) (by kernel_rfl) (by kernel_rfl) (fun _ _ _ h => h) (Or.inl ⟨by kernel_rfl, by intro w' hS; obtain ⟨e0, e1, e2, e3⟩ := hS; go_simp⟩) hH0 ?_
          simp only [Act.put, List.getElem_toArray, List.getElem_cons_zero, List.getElem_cons_succ, List.setIfInBounds_toArray, List.set_cons_zero, List.set_cons_succ]
          refine wpAnyH_take (i := 11) (v := (.pointer (some ⟨w.heap.size + 1, 2, none⟩))) rfl (by kernel_rfl) (by kernel_rfl) (by kernel_rfl) (fun _ _ _ h => h) (Or.inl ⟨by kernel_rfl, by intro w' hS; obtain ⟨e0, e1, e2, e3⟩ := hS; go_simp⟩) hH0 ?_
          simp only [Act.put, List.getElem_toArray, List.getElem_cons_zero, List.getElem_cons_succ, List.setIfInBounds_toArray, List.set_cons_zero, List.set_cons_succ]
          refine wpAnyH_take (i := 12) (v := (.agg LI.toArray)) rfl (by kernel_rfl) (by kernel_rfl) (by kernel_rfl) (fun _ _ _ h => h) (yieldsIf_load_mid (by kernel_rfl) 30 (.tmp 99) rfl (w.heap.size + 1) 2 rfl LI _ (fun w' h => h.2.2.1) Tryd.underlying30 rfl SZI.out) hH0 ?_
          simp only [Act.put, List.getElem_toArray, List.getElem_cons_zero, List.getElem_cons_succ, List.setIfInBounds_toArray, List.set_cons_zero, List.set_cons_succ]
          refine wpAnyH_take (i := 14) (v := (.pointer (some ⟨w.heap.size + 1, 34, none⟩))) rfl (by kernel_rfl) (by kernel_rfl) (by kernel_rfl) (fun _ _ _ h => h) (Or.inl ⟨by kernel_rfl, by intro w' hS; obtain ⟨e0, e1, e2, e3⟩ := hS; go_simp⟩) hH0 ?_
          simp only [Act.put, List.getElem_toArray, List.getElem_cons_zero, List.getElem_cons_succ, List.setIfInBounds_toArray, List.set_cons_zero, List.set_cons_succ]
          refine wpAnyH_take (i := 15) (v := (.int .u64 (am : Int))) rfl (by kernel_rfl) (by kernel_rfl) (by kernel_rfl) (fun _ _ _ h => h) (Or.inl ⟨by kernel_rfl, by intro w' hS; obtain ⟨e0, e1, e2, e3⟩ := hS; go_simp⟩) hH0 ?_
          simp only [Act.put, List.getElem_toArray, List.getElem_cons_zero, List.getElem_cons_succ, List.setIfInBounds_toArray, List.set_cons_zero, List.set_cons_succ]
          refine wpAnyH_ready (rs := [6]) (by kernel_rfl) (by simp) ?_
          refine AllReadyH.cons rfl (fun K hK => ?_) AllReadyH.nil
          go_simp
          refine (HC1.out _ hH0).mono ?_
          rintro _ v1 ⟨rfl, hs1⟩
          refine Shut.out hK _ _ hs1 (fun hH1 => ?_)
          clear hK K
          try simp only [Act.put, List.getElem_toArray, List.getElem_cons_zero, List.getElem_cons_succ, List.setIfInBounds_toArray, List.set_cons_zero, List.set_cons_succ]
          refine wpAnyH_ready (rs := [13]) (by kernel_rfl) (by simp) ?_
          refine AllReadyH.cons rfl (fun K hK => ?_) AllReadyH.nil
          go_simp
          refine (HW1.out _ hH1).mono ?_
          rintro _ v2 ⟨rfl, hs2⟩
          refine Shut.out hK _ _ hs2 (fun hH2 => ?_)
          clear hK K
          try simp only [Act.put, List.getElem_toArray, List.getElem_cons_zero, List.getElem_cons_succ, List.setIfInBounds_toArray, List.set_cons_zero, List.set_cons_succ]
          refine wpAnyH_take (i := 16) (v := (.int .u64 (x1 : Int))) rfl (by kernel_rfl) (by kernel_rfl) (by kernel_rfl) (fun _ _ _ h => h) (Or.inl ⟨by kernel_rfl, by intro w' hS; obtain ⟨e0, e1, e2, e3⟩ := hS; go_simp⟩) hH2 ?_
          simp only [Act.put, List.getElem_toArray, List.getElem_cons_zero, List.getElem_cons_succ, List.setIfInBounds_toArray, List.set_cons_zero, List.set_cons_succ]
          refine wpAnyH_take (i := 17) (v := (.bool true)) rfl (by kernel_rfl) (by kernel_rfl) (by kernel_rfl) (fun _ _ _ h => h) (Or.inl ⟨by kernel_rfl, by intro w' hS; obtain ⟨e0, e1, e2, e3⟩ := hS; go_simp⟩) hH2 ?_
          simp only [Act.put, List.getElem_toArray, List.getElem_cons_zero, List.getElem_cons_succ, List.setIfInBounds_toArray, List.set_cons_zero, List.set_cons_succ]
          refine wpAnyH_take (i := 18) (v := (.bool true)) rfl (by kernel_rfl) (by kernel_rfl) (by kernel_rfl) (fun _ _ _ h => h) (Or.inl ⟨by kernel_rfl, by intro w' hS; obtain ⟨e0, e1, e2, e3⟩ := hS; go_simp⟩) hH2 ?_
          simp only [Act.put, List.getElem_toArray, List.getElem_cons_zero, List.getElem_cons_succ, List.setIfInBounds_toArray, List.set_cons_zero, List.set_cons_succ]
          refine wpAnyH_take (i := 19) (v := (.pointer (some ⟨gc, 0, none⟩))) rfl (by kernel_rfl) (by kernel_rfl) (by kernel_rfl) (fun _ _ _ h => h) (Or.inl ⟨by kernel_rfl, by intro w' hS; obtain ⟨e0, e1, e2, e3⟩ := hS; go_simp⟩) hH2 ?_
          simp only [Act.put, List.getElem_toArray, List.getElem_cons_zero, List.getElem_cons_succ, List.setIfInBounds_toArray, List.set_cons_zero, List.set_cons_succ]
          refine wpAnyH_take (i := 20) (v := (.pointer (some ⟨w.heap.size + 1, 1, none⟩))) rfl (by kernel_rfl) (by kernel_rfl) (by kernel_rfl) (fun _ _ _ h => h) (Or.inl ⟨by kernel_rfl, by intro w' hS; obtain ⟨e0, e1, e2, e3⟩ := hS; go_simp⟩) hH2 ?_
          simp only [Act.put, List.getElem_toArray, List.getElem_cons_zero, List.getElem_cons_succ, List.setIfInBounds_toArray, List.set_cons_zero, List.set_cons_succ]
          refine wpAnyH_take (i := 21) (v := (.int .i64 fr)) rfl (by kernel_rfl) (by kernel_rfl) (by kernel_rfl) (fun _ _ _ h => h) (Or.inl ⟨by kernel_rfl, by intro w' hS; obtain ⟨e0, e1, e2, e3⟩ := hS; go_simp⟩) hH2 ?_
          simp only [Act.put, List.getElem_toArray, List.getElem_cons_zero, List.getElem_cons_succ, List.setIfInBounds_toArray, List.set_cons_zero, List.set_cons_succ]
          refine wpAnyH_take (i := 22) (v := (.pointer (some ⟨w.heap.size + 1, 2, none⟩))) rfl (by kernel_rfl) (by kernel_rfl) (by kernel_rfl) (fun _ _ _ h => h) (Or.inl ⟨by kernel_rfl, by intro w' hS; obtain ⟨e0, e1, e2, e3⟩ := hS; go_simp⟩) hH2 ?_
          simp only [Act.put, List.getElem_toArray, List.getElem_cons_zero, List.getElem_cons_succ, List.setIfInBounds_toArray, List.set_cons_zero, List.set_cons_succ]
          refine wpAnyH_take (i := 23) (v := (.agg LI.toArray)) rfl (by kernel_rfl) (by kernel_rfl) (by kernel_rfl) (fun _ _ _ h => h) (yieldsIf_load_mid (by kernel_rfl) 30 (.tmp 110) rfl (w.heap.size + 1) 2 rfl LI _ (fun w' h => h.2.2.1) Tryd.underlying30 rfl SZI.out) hH2 ?_
          simp only [Act.put, List.getElem_toArray, List.getElem_cons_zero, List.getElem_cons_succ, List.setIfInBounds_toArray, List.set_cons_zero, List.set_cons_succ]
          refine wpAnyH_take (i := 25) (v := (.pointer (some ⟨gw, 0, none⟩))) rfl (by kernel_rfl) (by kernel_rfl) (by kernel_rfl) (fun _ _ _ h => h) (Or.inl ⟨by kernel_rfl, by intro w' hS; obtain ⟨e0, e1, e2, e3⟩ := hS; go_simp⟩) hH2 ?_
          simp only [Act.put, List.getElem_toArray, List.getElem_cons_zero, List.getElem_cons_succ, List.setIfInBounds_toArray, List.set_cons_zero, List.set_cons_succ]
          refine wpAnyH_take (i := 26) (v := (.pointer (some ⟨w.heap.size + 1, 1, none⟩))) rfl (by kernel_rfl) (by kernel_rfl) (by kernel_rfl) (fun _ _ _ h => h) (Or.inl ⟨by kernel_rfl, by intro w' hS; obtain ⟨e0, e1, e2, e3⟩ := hS; go_simp⟩) hH2 ?_
          simp only [Act.put, List.getElem_toArray, List.getElem_cons_zero, List.getElem_cons_succ, List.setIfInBounds_toArray, List.set_cons_zero, List.set_cons_succ]
          refine wpAnyH_take (i := 27) (v := (.int .i64 fr)) rfl (by kernel_rfl) (by kernel_rfl) (by kernel_rfl) (fun _ _ _ h => h) (Or.inl ⟨by kernel_rfl, by intro w' hS; obtain ⟨e0, e1, e2, e3⟩ := hS; go_simp⟩) hH2 ?_
          simp only [Act.put, List.getElem_toArray, List.getElem_cons_zero, List.getElem_cons_succ, List.setIfInBounds_toArray, List.set_cons_zero, List.set_cons_succ]
          refine wpAnyH_take (i := 28) (v := (.pointer (some ⟨w.heap.size + 1, 2, none⟩))) rfl (by kernel_rfl) (by kernel_rfl) (by kernel_rfl) (fun _ _ _ h => h) (Or.inl ⟨by kernel_rfl, by intro w' hS; obtain ⟨e0, e1, e2, e3⟩ := hS; go_simp⟩) hH2 ?_
          simp only [Act.put, List.getElem_toArray, List.getElem_cons_zero, List.getElem_cons_succ, List.setIfInBounds_toArray, List.set_cons_zero, List.set_cons_succ]
          refine wpAnyH_take (i := 29) (v := (.agg LI.toArray)) rfl (by kernel_rfl) (by kernel_rfl) (by kernel_rfl) (fun _ _ _ h => h) (yieldsIf_load_mid (by kernel_rfl) 30 (.tmp 116) rfl (w.heap.size + 1) 2 rfl LI _ (fun w' h => h.2.2.1) Tryd.underlying30 rfl SZI.out) hH2 ?_
          simp only [Act.put, List.getElem_toArray, List.getElem_cons_zero, List.getElem_cons_succ, List.setIfInBounds_toArray, List.set_cons_zero, List.set_cons_succ]
          refine wpAnyH_take (i := 31) (v := (.pointer (some ⟨w.heap.size + 1, 34, none⟩))) rfl (by kernel_rfl) (by kernel_rfl) (by kernel_rfl) (fun _ _ _ h => h) (Or.inl ⟨by kernel_rfl, by intro w' hS; obtain ⟨e0, e1, e2, e3⟩ := hS; go_simp⟩) hH2 ?_
          simp only [Act.put, List.getElem_toArray, List.getElem_cons_zero, List.getElem_cons_succ, List.setIfInBounds_toArray, List.set_cons_zero, List.set_cons_succ]
          refine wpAnyH_take (i := 32) (v := (.int .u64 (am : Int))) rfl (by kernel_rfl) (by kernel_rfl) (by kernel_rfl) (fun _ _ _ h => h) (Or.inl ⟨by kernel_rfl, by intro w' hS; obtain ⟨e0, e1, e2, e3⟩ := hS; go_simp⟩) hH2 ?_
          simp only [Act.put, List.getElem_toArray, List.getElem_cons_zero, List.getElem_cons_succ, List.setIfInBounds_toArray, List.set_cons_zero, List.set_cons_succ]
          refine wpAnyH_ready (rs := [24]) (by kernel_rfl) (by simp) ?_
          refine AllReadyH.cons rfl (fun K hK => ?_) AllReadyH.nil
          go_simp
          refine (HC2.out _ hH2).mono ?_
          rintro _ v3 ⟨rfl, hs3⟩
          refine Shut.out hK _ _ hs3 (fun hH3 => ?_)
          clear hK K
          try simp only [Act.put, List.getElem_toArray, List.getElem_cons_zero, List.getElem_cons_succ, List.setIfInBounds_toArray, List.set_cons_zero, List.set_cons_succ]
          refine wpAnyH_ready (rs := [30]) (by kernel_rfl) (by simp) ?_
          refine AllReadyH.cons rfl (fun K hK => ?_) AllReadyH.nil
          go_simp
          refine (HW2.out _ hH3).mono ?_
          rintro _ v4 ⟨rfl, hs4⟩
          refine Shut.out hK _ _ hs4 (fun hH4 => ?_)
          clear hK K
          try simp only [Act.put, List.getElem_toArray, List.getElem_cons_zero, List.getElem_cons_succ, List.setIfInBounds_toArray, List.set_cons_zero, List.set_cons_succ]
          refine wpAnyH_take (i := 33) (v := (.int .u64 (x2 : Int))) rfl (by kernel_rfl) (by kernel_rfl) (by kernel_rfl) (fun _ _ _ h => h) (Or.inl ⟨by kernel_rfl, by intro w' hS; obtain ⟨e0, e1, e2, e3⟩ := hS; go_simp⟩) hH4 ?_
          simp only [Act.put, List.getElem_toArray, List.getElem_cons_zero, List.getElem_cons_succ, List.setIfInBounds_toArray, List.set_cons_zero, List.set_cons_succ]
          refine wpAnyH_take (i := 34) (v := (.bool true)) rfl (by kernel_rfl) (by kernel_rfl) (by kernel_rfl) (fun _ _ _ h => h) (Or.inl ⟨by kernel_rfl, by intro w' hS; obtain ⟨e0, e1, e2, e3⟩ := hS; go_simp⟩) hH4 ?_
          simp only [Act.put, List.getElem_toArray, List.getElem_cons_zero, List.getElem_cons_succ, List.setIfInBounds_toArray, List.set_cons_zero, List.set_cons_succ]
          refine wpAnyH_take (i := 35) (v := (.bool true)) rfl (by kernel_rfl) (by kernel_rfl) (by kernel_rfl) (fun _ _ _ h => h) (Or.inl ⟨by kernel_rfl, by intro w' hS; obtain ⟨e0, e1, e2, e3⟩ := hS; go_simp⟩) hH4 ?_
          simp only [Act.put, List.getElem_toArray, List.getElem_cons_zero, List.getElem_cons_succ, List.setIfInBounds_toArray, List.set_cons_zero, List.set_cons_succ]
          refine wpAnyH_take (i := 36) (v := (.bool true)) rfl (by kernel_rfl) (by kernel_rfl) (by kernel_rfl) (fun _ _ _ h => h) (Or.inl ⟨by kernel_rfl, by intro w' hS; obtain ⟨e0, e1, e2, e3⟩ := hS; go_simp⟩) hH4 ?_
          simp only [Act.put, List.getElem_toArray, List.getElem_cons_zero, List.getElem_cons_succ, List.setIfInBounds_toArray, List.set_cons_zero, List.set_cons_succ]
          refine wpAnyH_done (by kernel_rfl) ?_ _
          refine NoPanic.normal ?_
          go_wp2
          go_ret
          exact ⟨rfl, HBA.out.trans (hH4.2.2.2.mono (by have := HBA.out.size; omega))⟩
        · have hN : offN b O = b := by unfold offN; rw [if_neg (by rw [← EE.out]; exact hE0)]
          have HN := Lib.hid hN
          clear hN
          go_wp2_with (refine wpList_load_row rfl 32 (.tmp 6) rfl (w.heap.size + 1) rfl 32 O.cells.toArray (0, 0) _ HO5.out Tryd.underlying32 rfl SZO.out ?_)
          refine HOF.out.mono ?_
          rintro _ W6 ⟨rfl, hlv6, hk6⟩
          rw [HN.out] at hlv6
          have hlw6 := HLW.out.kept hk6 (fun k _ e1 e2 => e2.2 ⟨e1.1, e1.2⟩)
          have hsm : Small b 1000000 := HSM.out.more (by omega)
          have hsame := lv_same hlv6 hlw6 HTD.out HQW.out hsm (HQW.out.small hsm)
          have HSAME := Lib.hid hsame
          have HBE6 := Lib.hid (HBE5.out.trans (hk6.below (by have h1 := HSZ5.out; have h2 := HBW.out.size; omega) (fun j e => by have h1 := e.1; have h2 := HBW.out.size; omega)))
          have HS6 := Lib.hid hk6.size
          clear hlw6 hsm hsame hlv6 hk6
          go_wp2_with fail
          refine HSAME.out.mono ?_
          rintro _ W7 ⟨rfl, hb7⟩
          have HB7 := Lib.hid (HBE6.out.trans (hb7.mono (by have h1 := HSZ5.out; have h2 := HBW.out.size; have h3 := HS6.out; omega)))
          clear hb7
          go_wp2
          go_ret
          exact ⟨rfl, HB7.out⟩
end Go.Proofs.YtnddejgglbdkmaaDoor
