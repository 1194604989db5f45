/- The walk of BookSums. -/
import Derived.Test.YtnddejgglbdkmaaDoorBook24
import Derived.Deep.CutRange
namespace Go.Proofs.YtnddejgglbdkmaaDoor
set_option linter.unusedVariables false
set_option linter.unusedSimpArgs false
open Go.ChangeShapes Go.WideShapes Go.ChangeAt Go.RowKit Go.Maps

/-- the zone of the law's book: behind N, not the map. -/
def zoneM (N M : Nat) : Nat → Prop := fun k => N ≤ k ∧ k ≠ M
/-- what holds between two steps. -/
def SumsAt (N M : Nat) (W : World) (g : Nat) (b : Bk) (la : List Ent) (wr : World) : Prop :=
  Lv (zoneM N M) wr g b ∧ MapIs wr M la ∧ Below N W wr ∧ N ≤ M ∧ N ≤ wr.heap.size
theorem SumsAt.step {N M g G : Nat} {W w w' : World} {b b' : Bk} {la : List Ent} (h : SumsAt N M W g b la w) (hl : Lv (fun k => zoneM N M k ∧ k ≠ G) w' g b') (hk : Kept (fun k => zoneM N M k ∧ k ≠ G) w w') : SumsAt N M W g b' la w' := by
  obtain ⟨a1, a2, a3, a4, a5⟩ := h
  exact ⟨hl.zone (fun k _ e => e.1), a2.kept hk (fun e => e.1.2 rfl), a3.trans (hk.below a5 (fun k e => e.1.1)), a4, Nat.le_trans a5 hk.size⟩
theorem SumsAt.put {N M g : Nat} {W w w' : World} {b : Bk} {la la' : List Ent} (h : SumsAt N M W g b la w) (hm : MapIs w' M la') (hk : Kept (· = M) w.drew w') : SumsAt N M W g b la' w' := by
  obtain ⟨a1, a2, a3, a4, a5⟩ := h
  exact ⟨a1.kept hk.undrew (fun k _ e1 e2 => e1.2 e2), hm, a3.trans (hk.undrew.below a5 (fun k e => by rw [e]; exact a4)), a4, Nat.le_trans a5 hk.size⟩
theorem SumsAt.same {N M g : Nat} {W w w' : World} {b : Bk} {la : List Ent} (h : SumsAt N M W g b la w) (hb : Below w.heap.size w w') : SumsAt N M W g b la w' := by
  obtain ⟨a1, a2, a3, a4, a5⟩ := h
  exact ⟨a1.quiet hb, a2.kept (Kept.of_below (S := fun _ => False) hb) (fun h => h), a3.trans (hb.mono a5), a4, Nat.le_trans a5 hb.size⟩
theorem zero_hash : ∃ Z : Array Value, (∀ w, (zeroValue 30).run Tryd.prog w = .ok (.agg Z) w) ∧ Z.size = 32 ∧ ¬ Z = #[] := by
  have hs : (bcells Z32).toArray.size = 32 := by kernel_rfl
  exact ⟨_, fun w => by kernel_rfl, hs, fun e => by rw [e] at hs; cases hs⟩
theorem zero_step : ∃ Z : Array Value, (∀ w, (zeroValue 34).run Tryd.prog w = .ok (.agg Z) w) ∧ Z.size = 137 ∧ ¬ Z = #[] := by
  have hs : (Stp.cells ⟨0, 0, List.replicate 32 0, 0, ⟨0, 0, List.replicate 32 0, 0, List.replicate 32 0, 0⟩, 0, List.replicate 32 0, false⟩).toArray.size = 137 := by kernel_rfl
  exact ⟨_, fun w => by kernel_rfl, hs, fun e => by rw [e] at hs; cases hs⟩

set_option maxRecDepth 100000 in
set_option maxHeartbeats 4000000 in
theorem sums_walk (K s0 : List Wd) (k0 k1 : Nat) (A : Option Addr) (n c : Nat) (w : World) (hT : Tabs K s0 w) (ss : List Stp) (hS : Steps w A n ss) :
    Calls Tryd.prog 3 #[.agg #[.int .u64 (k0 : Int), .int .u64 (k1 : Int)], .slice A n c] w fun e w' => e = .returned (.bool true) ∧ Below w.heap.size w w' := by
  obtain ⟨hn, hlen, hok, sb, so, hA, hrng⟩ := hS
  unfold maxLen at hn
  have hmm := @run_makeMap Tryd.prog
  obtain ⟨Z, hz, hzs, hzn⟩ := zero_step
  have HHD := Lib.hid (fun W => head_is W)
  have HT := Lib.hid hT
  have HLEN := Lib.hid hlen
  have HOK := Lib.hid hok
  have HA := Lib.hid hA
  have HRNG := Lib.hid hrng
  clear hT hlen hok hA hrng
  go_enter Tryd.func3, Tryd.ntmps3
  go_wp2_with fail
  have hk1 := (Kept.refl (fun _ => False) w).alloc (.cells #[.int .u64 (k0 : Int), .int .u64 (k1 : Int)] 23)
  have hbx := Has.new w 23 #[.int .u64 (k0 : Int), .int .u64 (k1 : Int)]
  refine (HHD.out _).mono ?_
  rintro _ w1 ⟨rfl, hh⟩
  have hk2 := hk1.trans (Kept.of_below (S := fun _ => False) hh)
  have hbx2 := hbx.kept (Kept.of_below (S := fun _ => False) hh) (fun h => h)
  have HK2 := Lib.hid hk2
  have HBX2 := Lib.hid hbx2
  have d0 : w1.cell? ⟨w.heap.size, 0, none⟩ = some (.int .u64 (k0 : Int)) := hbx2.cell_is rfl
  have d1 : w1.cell? ⟨w.heap.size, 1, none⟩ = some (.int .u64 (k1 : Int)) := hbx2.cell_is rfl
  clear hk1 hbx hh hk2 hbx2 HHD
  go_wp2_with fail
  refine (lv_new w1 (fun k => w1.heap.size ≤ k) (fun _ h => h) k0 k1).mono ?_
  rintro _ w2 ⟨g, rfl, hlv, hb2, hg⟩
  have hk3 := HK2.out.trans (Kept.of_below (S := fun _ => False) hb2)
  have hsums : SumsAt w.heap.size w2.heap.size w g ⟨[], [], [], k0, k1⟩ [] (w2.alloc (.map #[] 0)) := by
    have s1 := HK2.out.size
    have s2 := hb2.size
    refine ⟨(hlv.zone (S' := zoneM w.heap.size w2.heap.size) (fun k h1 h2 => ⟨by omega, by omega⟩)).kept ((Kept.refl (fun _ => False) w2).alloc _) (fun _ _ _ h => h), MapIs.new w2, (hk3.alloc _).below (Nat.le_refl _) (fun _ h => h.elim), by omega, by simp; omega⟩
  have HSU := Lib.hid hsums
  clear hlv hb2 hg hk3 hsums d0 d1 HK2 HBX2
  go_upto_region 5 with (fail)
  generalize hM : w2.heap.size = M at HSU ⊢
  generalize w2.alloc (.map #[] 0) = W3 at HSU ⊢
  clear hM
  go_wp2
  go_loopw [7] (fun i wr => ∃ (k : Nat) (b : Bk) (la : List Ent), i = .int .i64 (k : Int) ∧ k ≤ n ∧ k ≤ 80 ∧ Tidy b ∧ AllIs la b ∧ SumsAt w.heap.size M w g b la wr) (fun i _ => n - (intOf i).toNat)
  case atStart => exact ⟨0, _, [], rfl, Nat.zero_le _, by decide, new_tidy k0 k1, ⟨fun p hp => (by cases hp), List.nodup_nil, fun id => rfl⟩, HSU.out⟩
  case round =>
    obtain ⟨k, b, la, rfl, hk, hk80, htd, hall, hsu⟩ := hrel
    have HTD := Lib.hid htd
    have HALL := Lib.hid hall
    have HSW := Lib.hid hsu
    clear htd hall hsu HSU
    by_cases hlt : k < n ∧ k < 80
    · obtain ⟨hlt, h80⟩ := hlt
      obtain ⟨s, hs⟩ : ∃ s, ss[k]? = some s := ⟨_, List.getElem?_eq_getElem (by rw [HLEN.out]; exact hlt)⟩
      have hsok := HOK.out s (List.mem_of_getElem? hs)
      obtain ⟨hA1, hA2⟩ := HA.out (by omega)
      subst hA1
      obtain ⟨hlv, hmp, hbel, hNM, hNw⟩ := HSW.out
      have hsz := hbel.size
      have hrw := rangeAt_kept (HRNG.out k s hs) (Kept.of_below (S := fun _ => False) hbel) (fun h => h)
      have hl137 := s.length hsok
      have HRW := Lib.hid hrw
      have SZ := Lib.hid (show (Tryd.prog.info? 34).map (·.size) = some s.cells.length by rw [hl137]; kernel_rfl)
      have SZA := Lib.hid (show (Tryd.prog.info? 34).map (·.size) = some s.cells.toArray.size by rw [List.size_toArray]; exact SZ.out)
      have HZZ := Lib.hid (show Z.size = s.cells.toArray.size by rw [hzs, List.size_toArray, hl137])
      have HONE := Lib.hid (show s.cells.toArray.all (·.oneCell') = true from all_oneCell_toArray (stp_one s))
      have hnw : ∀ C, Has ((wr.alloc (.cells Z 34)).setRow wr.heap.size C) wr.heap.size 34 C ∧ Kept (fun _ => False) wr ((wr.alloc (.cells Z 34)).setRow wr.heap.size C) := fun C => by
        rw [World.setRow_alloc_new]
        exact ⟨Has.new wr _ _, (Kept.refl _ _).alloc _⟩
      have HNW := Lib.hid hnw
      have HSOK := Lib.hid hsok
      clear hlv hmp hbel hNM hNw hsz hrw hl137 hnw hsok hs
      go_upto_region 9 with (first
        | (refine wpList_load_mid rfl 34 (.tmp 28) rfl sb (so + k * 137) rfl s.cells _ HRW.out Tryd.underlying34 rfl SZ.out ?_)
        | (refine wpList_store_row rfl 34 (.tmp 8) (.tmp 29) rfl wr.heap.size s.cells.toArray rfl rfl 34 Z (heap_alloc_new wr _) SZA.out HZZ.out HONE.out ?_))
      obtain ⟨h3, hk3⟩ := HNW.out s.cells.toArray
      have hsu3 : SumsAt w.heap.size M w g b la ((wr.alloc (.cells Z 34)).setRow wr.heap.size s.cells.toArray) := by
        obtain ⟨a1, a2, a3, a4, a5⟩ := HSW.out
        exact ⟨a1.kept hk3 (fun _ _ _ h => h), a2.kept hk3 (fun h => h), a3.trans (hk3.below a5 (fun _ h => h.elim)), a4, Nat.le_trans a5 hk3.size⟩
      have hGM : wr.heap.size ≠ M := fun e => by have := HSW.out.2.1.lt; omega
      have hGl : ∀ b', Lv (zoneM w.heap.size M) ((wr.alloc (.cells Z 34)).setRow wr.heap.size s.cells.toArray) g b' → Lv (fun k => zoneM w.heap.size M k ∧ k ≠ wr.heap.size) wr g b → True := fun _ _ _ => trivial
      have hlv3 : Lv (fun k => zoneM w.heap.size M k ∧ k ≠ wr.heap.size) ((wr.alloc (.cells Z 34)).setRow wr.heap.size s.cells.toArray) g b :=
        (HSW.out.1.zone (S' := fun k => zoneM w.heap.size M k ∧ k ≠ wr.heap.size) (fun k h1 h2 => ⟨h2, by omega⟩)).kept hk3 (fun _ _ _ h => h)
      have hT3 : Tabs K s0 ((wr.alloc (.cells Z 34)).setRow wr.heap.size s.cells.toArray) := HT.out.below hsu3.2.2.1 HT.out.low
      have HGM := Lib.hid hGM
      have HG9 := Lib.hid (show wr.heap.size < ((wr.alloc (.cells Z 34)).setRow wr.heap.size s.cells.toArray).heap.size from h3.lt)
      have HGN := Lib.hid (show w.heap.size ≤ wr.heap.size from HSW.out.2.2.2.2)
      clear hk3 hGM hGl HNW HRW
      generalize (wr.alloc (.cells Z 34)).setRow wr.heap.size s.cells.toArray = W9 at h3 hsu3 hlv3 hT3 HG9 ⊢
      generalize wr.heap.size = G at h3 hlv3 HGM HG9 HGN ⊢
      obtain ⟨g0, g1, g34, g103, -⟩ := stp_get HSOK.out
      have c0 : W9.cell? ⟨G, 0, none⟩ = some (.int .i64 s.K) := h3.cell_is (by simpa using g0)
      have c1 : W9.cell? ⟨G, 1, none⟩ = some (.int .i64 s.side) := h3.cell_is (by simpa using g1)
      have c34 : W9.cell? ⟨G, 34, none⟩ = some (.int .u64 (s.n : Int)) := h3.cell_is (by rw [List.getElem?_toArray]; exact g34)
      have c103 : W9.cell? ⟨G, 103, none⟩ = some (.int .i64 s.no) := h3.cell_is (by rw [List.getElem?_toArray]; exact g103)
      have H3 := Lib.hid h3
      have HSU3 := Lib.hid hsu3
      have HLV3 := Lib.hid hlv3
      have HT3 := Lib.hid hT3
      clear h3 hsu3 hlv3 hT3 g0 g1 g34 g103 HSW HZZ HONE SZ
      obtain ⟨KK, hKK⟩ : ∃ x, x = s.K := ⟨_, rfl⟩
      obtain ⟨SD, hSD⟩ : ∃ x, x = s.side := ⟨_, rfl⟩
      obtain ⟨NN, hNN⟩ : ∃ x, x = s.n := ⟨_, rfl⟩
      obtain ⟨NO, hNO⟩ : ∃ x, x = s.no := ⟨_, rfl⟩
      rw [← hKK] at c0
      rw [← hSD] at c1
      rw [← hNN] at c34
      rw [← hNO] at c103
      have EK := Lib.hid hKK
      have ESD := Lib.hid hSD
      have ENN := Lib.hid hNN
      have ENO := Lib.hid hNO
      clear hKK hSD hNN hNO
      go_upto_block 2 with (fail)
      go_cut [5] from 16 to 105 (fun r wr => r = .pointer (some ⟨g, 0, none⟩) ∧ SumsAt w.heap.size M w g (stepB K s0 b s) (stepA la b s) wr)
      case first =>
        have hn9 : ∀ k, W9.heap.size ≤ k → (zoneM w.heap.size M k ∧ k ≠ G) := fun k h => by
          have h1 := HG9.out
          have h2 := HGN.out
          have h4 := HSU3.out.2.1.lt
          exact ⟨⟨by omega, by omega⟩, by omega⟩
        have HN9 := Lib.hid hn9
        obtain ⟨L, hL⟩ : ∃ L, L = bcells s.id := ⟨_, rfl⟩
        have hL1 := stp_id H3.out
        rw [← hL] at hL1
        have HL1 := Lib.hid hL1
        have HL := Lib.hid hL
        have hu30 := hash_under
        have szl : (Tryd.prog.info? 30).map (·.size) = some L.length := by rw [hL, bcells_length, HSOK.out.id.1]; kernel_rfl
        have SZL := Lib.hid szl
        clear hn9 hL hL1
        by_cases hK0 : KK = 0
        · have eB : stepB K s0 b s = fundN b SD s.id NN := by unfold stepB; rw [if_pos (by rw [← EK.out]; exact hK0), ← ESD.out, ← ENN.out]
          have EB := Lib.hid eB
          have hf := lv_fund HLV3.out HN9.out HTD.out.ok SD s.id NN HSOK.out.id (by rw [ENN.out]; exact HSOK.out.n)
          unfold arr at hf
          rw [← HL.out] at hf
          obtain ⟨FE, hFE⟩ : ∃ x, x = fundE b SD s.id NN := ⟨_, rfl⟩
          rw [← hFE] at hf
          have HF := Lib.hid hf
          have EFE := Lib.hid hFE
          subst hK0
          clear hf hFE eB c103
          by_cases hE : FE = 0
          · subst hE
            have HE := EFE
            go_wp2_with (refine wpList_load_mid rfl 30 (.tmp 37) rfl G 2 rfl L _ HL1.out Tryd.underlying30 rfl SZL.out ?_)
            refine HF.out.mono ?_
            rintro _ w5 ⟨rfl, hlv5, hk5⟩
            have hsu5 := HSU3.out.step hlv5 hk5
            have h5 := H3.out.kept hk5 (fun e => e.2 rfl)
            have r5 := rangeAt_kept HL1.out hk5 (fun e => e.2 rfl)
            have c5 := cell_held hk5 c34 (fun e => e.2 rfl)
            have hm5 : MapIs w5.drew M la := hsu5.2.1.drew
            have q := lookup_is (T := 28) Tryd.underlying28 zero_u64 hm5 HSOK.out.id
            obtain ⟨w1, v0, st, q1, hk1, ⟨hm1, hv0⟩, hst⟩ := entry_is (T := 28) Tryd.underlying28 zero_u64 hm5 HSOK.out.id
            rw [look_num HALL.out.nums] at q hv0
            have q3 := lookup_is (T := 28) Tryd.underlying28 zero_u64 hm1 HSOK.out.id
            rw [look_putL, Option.getD_some] at q3
            obtain ⟨x, hx⟩ : ∃ x, x = numOf (look la s.id) := ⟨_, rfl⟩
            rw [← hx] at q hv0
            subst hv0
            obtain ⟨w2, q2, hm2, hk2⟩ := hst (.int .u64 (IntKind.u64.wrap ((x : Int) + (NN : Int))))
            unfold arr at q q1 q3
            rw [← HL.out] at q q1 q3
            have r1 := rangeAt_kept (show w5.drew.rangeAt G 2 L from r5) hk1 HGM.out
            have r2 := rangeAt_kept (show w5.drew.rangeAt G 2 L from r5) hk2 HGM.out
            have e1 := cell_held hk1 (show w5.drew.cell? ⟨G, 34, none⟩ = some (.int .u64 (NN : Int)) from c5) HGM.out
            have e2 := cell_held hk2 (show w5.drew.cell? ⟨G, 34, none⟩ = some (.int .u64 (NN : Int)) from c5) HGM.out
            have hfin : SumsAt w.heap.size M w g (stepB K s0 b s) (stepA la b s) w2 := by
              have hK : s.K = 0 := EK.out.symm
              have hE2 : fundE b s.side s.id s.n = 0 := by rw [← ESD.out, ← ENN.out]; exact HE.out.symm
              have hA : stepA la b s = addL la s.id s.n := if_pos ⟨hK, hE2⟩
              rw [EB.out, hA]
              refine hsu5.put ?_ hk2
              have hlt : x + NN < 18446744073709551616 := by
                rcases fundE_cases b s.side s.id s.n with ⟨_, _, _, hs⟩ | he
                · rw [hx, HALL.out.val, ENN.out]; exact hs
                · exact absurd hE2 he
              have hwr : IntKind.u64.wrap ((x : Int) + (NN : Int)) = ((x + NN : Nat) : Int) := by rw [IntKind.wrap_u64]; omega
              unfold addL
              rw [← hx, ← ENN.out, ← hwr]
              exact hm2
            have HFIN := Lib.hid hfin
            clear hm1 hk1 hst hm2 hk2 hsu5 h5 hlv5 hk5 hm5 hx hfin
            have rd : w5.drew.rangeAt G 2 L := r5
            have cd : w5.drew.cell? ⟨G, 34, none⟩ = some (.int .u64 (NN : Int)) := c5
            go_upto_region 12 with (fail)
            have szl := SZL.out
            go_region_held3 (fun w' => w'.cell? ⟨G, 34, none⟩ = some (.int .u64 (NN : Int)) ∧ w'.rangeAt G 2 L) (first | exact ⟨cd, rd⟩ | exact ⟨e1, r1⟩ | exact ⟨e2, r2⟩) (fail)
            all_goals
              go_wp2
              go_meet
              case rel => exact ⟨rfl, HFIN.out⟩
          · have hfin : ∀ w5, Lv (fun k => zoneM w.heap.size M k ∧ k ≠ G) w5 g (fundN b SD s.id NN) → Kept (fun k => zoneM w.heap.size M k ∧ k ≠ G) W9 w5 → SumsAt w.heap.size M w g (stepB K s0 b s) (stepA la b s) w5 := fun w5 h1 h2 => by
              have hA : stepA la b s = la := if_neg (fun e => hE (by rw [EFE.out, ESD.out, ENN.out]; exact e.2))
              rw [EB.out, hA]
              exact HSU3.out.step h1 h2
            have HFIN := Lib.hid hfin
            clear hfin
            go_wp2_with (refine wpList_load_mid rfl 30 (.tmp 37) rfl G 2 rfl L _ HL1.out Tryd.underlying30 rfl SZL.out ?_)
            refine HF.out.mono ?_
            rintro _ w5 ⟨rfl, hlv5, hk5⟩
            have hend := HFIN.out w5 hlv5 hk5
            have HEND := Lib.hid hend
            clear hend hlv5 hk5
            go_wp2
            go_meet
            case rel => exact ⟨rfl, HEND.out⟩
        · have eA : stepA la b s = la := if_neg (fun e => hK0 (by rw [EK.out]; exact e.1))
          have hK0' : ¬ s.K = 0 := fun e => hK0 (by rw [EK.out]; exact e)
          have hfin : ∀ w5 b', stepB K s0 b s = b' → Lv (fun k => zoneM w.heap.size M k ∧ k ≠ G) w5 g b' → Kept (fun k => zoneM w.heap.size M k ∧ k ≠ G) W9 w5 → SumsAt w.heap.size M w g (stepB K s0 b s) (stepA la b s) w5 := fun w5 b' hb h1 h2 => by
            rw [eA, hb]
            exact HSU3.out.step h1 h2
          have HFIN := Lib.hid hfin
          have HK0 := Lib.hid hK0'
          clear hfin eA hK0'
          by_cases hK1 : KK = 1
          · subst hK1
            have HBB := Lib.hid (show stepB K s0 b s = offN b (s.offer K s0) by unfold stepB; rw [if_neg HK0.out, if_pos EK.out.symm])
            have hso := stepOffer_is K s0 W9 HT3.out s HSOK.out
            obtain ⟨O, hO⟩ : ∃ O, O = s.offer K s0 := ⟨_, rfl⟩
            have hOok : O.ok := by rw [hO]; exact stp_offer_ok K s0 HT3.out.len s HSOK.out
            rw [← hO] at hso
            have HO := Lib.hid hO
            have HSO := Lib.hid hso
            have HOOK := Lib.hid hOok
            clear hO hso hOok c103 c34 c1 hK0
            go_wp2_with (refine wpList_load_row rfl 34 (.tmp 8) rfl G rfl 34 s.cells.toArray (0, 0) _ H3.out Tryd.underlying34 rfl SZA.out ?_)
            refine HSO.out.mono ?_
            rintro _ w4 ⟨rfl, hb4⟩
            have hof := lv_offer (HLV3.out.quiet hb4) (fun k h => HN9.out k (Nat.le_trans hb4.size h)) HTD.out.ok O HOOK.out
            have HOF := Lib.hid hof
            have HB4 := Lib.hid hb4
            clear hof hb4
            go_wp2_with fail
            refine HOF.out.mono ?_
            rintro _ w5 ⟨rfl, hlv5, hk5⟩
            have hend := HFIN.out w5 _ (by rw [HBB.out, ← HO.out]) hlv5 ((Kept.of_below HB4.out).trans hk5)
            have HEND := Lib.hid hend
            clear hend hlv5 hk5
            go_wp2
            go_meet
            case rel => exact ⟨rfl, HEND.out⟩
          · by_cases hK2 : KK = 2
            · subst hK2
              have HBB := Lib.hid (show stepB K s0 b s = settleN K s0 b SD NO s.sec by unfold stepB; rw [if_neg HK0.out, if_neg (by rw [← EK.out]; decide), if_pos EK.out.symm, ← ESD.out, ← ENO.out])
              have hse := lv_settle K s0 HT3.out HLV3.out HN9.out HTD.out SD NO s.sec HSOK.out.sec
              obtain ⟨X, hX⟩ : ∃ X, X = bcells s.sec := ⟨_, rfl⟩
              have hX1 := stp_sec HSOK.out H3.out
              have szx : (Tryd.prog.info? 30).map (·.size) = some X.length := by rw [hX, bcells_length, HSOK.out.sec.1]; kernel_rfl
              unfold arr at hse
              rw [← hX] at hX1 hse
              have HSE := Lib.hid hse
              have HX1 := Lib.hid hX1
              have SZX := Lib.hid szx
              clear hse hX hX1 szx szl c34 hK0 hK1
              go_wp2_with (refine wpList_load_mid rfl 30 (.tmp 65) rfl G 104 rfl X _ HX1.out Tryd.underlying30 rfl SZX.out ?_)
              refine HSE.out.mono ?_
              rintro _ w5 ⟨rfl, hlv5, hk5⟩
              have hend := HFIN.out w5 _ HBB.out hlv5 hk5
              have HEND := Lib.hid hend
              clear hend hlv5 hk5
              go_wp2
              go_meet
              case rel => exact ⟨rfl, HEND.out⟩
            · by_cases hK3 : KK = 3
              · subst hK3
                have HBB := Lib.hid (show stepB K s0 b s = backN b SD NO by unfold stepB; rw [if_neg HK0.out, if_neg (by rw [← EK.out]; decide), if_neg (by rw [← EK.out]; decide), if_pos EK.out.symm, ← ESD.out, ← ENO.out])
                have hba := lv_back HLV3.out HN9.out HTD.out SD NO
                have HBA := Lib.hid hba
                clear hba szl c34 hK0 hK1 hK2
                go_wp2_with fail
                refine HBA.out.mono ?_
                rintro _ w5 ⟨rfl, hlv5, hk5⟩
                have hend := HFIN.out w5 _ HBB.out hlv5 hk5
                have HEND := Lib.hid hend
                clear hend hlv5 hk5
                go_wp2
                go_meet
                case rel => exact ⟨rfl, HEND.out⟩
              · have HBB := Lib.hid (show stepB K s0 b s = b by unfold stepB; rw [if_neg HK0.out, if_neg (by rw [← EK.out]; exact hK1), if_neg (by rw [← EK.out]; exact hK2), if_neg (by rw [← EK.out]; exact hK3)])
                have hend := HFIN.out W9 _ HBB.out HLV3.out (Kept.refl _ _)
                have HEND := Lib.hid hend
                clear hend szl c34 c103 c1
                go_wp2
                go_meet
                case rel => exact ⟨rfl, HEND.out⟩
      case rest =>
        obtain ⟨rfl, hcut⟩ := hcut
        have htd' := step_tidy K s0 HT3.out.len HTD.out HSOK.out
        have hall' := step_all K s0 HTD.out HALL.out (s := s)
        obtain ⟨b', hb'⟩ : ∃ x, x = stepB K s0 b s := ⟨_, rfl⟩
        obtain ⟨la', hla'⟩ : ∃ x, x = stepA la b s := ⟨_, rfl⟩
        rw [← hb'] at hcut htd' hall'
        rw [← hla'] at hcut hall'
        have HTD' := Lib.hid htd'
        have HALL' := Lib.hid hall'
        have HC := Lib.hid hcut
        obtain ⟨w0, hrun, hit, hk0, hsz0⟩ := range_is (T := 28) Tryd.underlying28 hcut.2.1
        have hsu0 : SumsAt w.heap.size M w g b' la' w0 := hcut.same (hk0.below (Nat.le_refl _) (fun _ h => h.elim))
        have hlv0 : Lv (fun k => zoneM w.heap.size M k ∧ k ≠ wc.heap.size) w0 g b' := (hcut.1.zone (S' := fun k => zoneM w.heap.size M k ∧ k ≠ wc.heap.size) (fun k h1 h2 => ⟨h2, by omega⟩)).kept hk0 (fun _ _ _ h => h)
        have HIT := Lib.hid hit
        have HSU0 := Lib.hid hsu0
        have HLV0 := Lib.hid hlv0
        have HNr := Lib.hid (show w.heap.size ≤ wc.heap.size from hcut.2.2.2.2)
        have HMr := Lib.hid (show M < wc.heap.size from hcut.2.1.lt)
        have HS0 := Lib.hid hsz0
        clear hcut htd' hall' hb' hla' hit hk0 hsz0 hsu0 hlv0 HSU3 HLV3 HT3 H3 c0 c1 c34 c103 HTD HALL EK ESD ENN ENO
        go_wp2_with fail
        generalize wc.heap.size = r at HIT HLV0 HNr HMr HS0 hrun ⊢
        go_loopw [10] (fun _ wr => ∃ done, Iter wr M r la' done ∧ Lv (fun k => zoneM w.heap.size M k ∧ k ≠ r) wr g b' ∧ Below w.heap.size w wr ∧ r < wr.heap.size) (fun _ wr => wr.rangeLeft M r)
        case atStart => exact ⟨[], HIT.out, HLV0.out, HSU0.out.2.2.1, by rw [HS0.out]; omega⟩
        case round =>
          obtain ⟨done, hit, hlv, hbel, hr⟩ := hrel
          rcases next_is hit 0 with ⟨hd, hnx⟩ | ⟨key, v, w1, hmem, hnd, hkh, hnx, hit1, hk1, hsz1, hlt1, hen⟩
          · have hfin : SumsAt w.heap.size M w g b' la' wr := ⟨hlv.zone (fun k _ e => e.1), hit.map, hbel, HSU0.out.2.2.2.1, by have := HNr.out; omega⟩
            have HFIN := Lib.hid hfin
            clear hfin hd hit hlv hbel hr HIT HLV0 hrun
            go_wp2
            go_roundw
            case rel => exact ⟨k + 1, b', la', by go_num, by omega, by omega, HTD'.out, HALL'.out, HFIN.out⟩
            case measure => simp [intOf]; omega
          · have hv := HALL'.out.ent hmem
            subst hv
            obtain ⟨ZH, hzh, hzhs, hzhn⟩ := zero_hash
            have hnw : ∀ C, Has ((w1.alloc (.cells ZH 30)).setRow w1.heap.size C) w1.heap.size 30 C ∧ Kept (fun _ => False) w1 ((w1.alloc (.cells ZH 30)).setRow w1.heap.size C) := fun C => by
              rw [World.setRow_alloc_new]
              exact ⟨Has.new w1 _ _, (Kept.refl _ _).alloc _⟩
            have hlv1 := hlv.kept hk1 (fun k _ e e2 => e.2 e2)
            have hbel1 : Below w.heap.size w w1 := hbel.trans (hk1.below (by have := HNr.out; omega) (fun k e => by rw [e]; exact HNr.out))
            obtain ⟨L, hL⟩ : ∃ L, L = bcells key := ⟨_, rfl⟩
            have hLl : L.length = 32 := by rw [hL, bcells_length, hkh.1]
            have szk : (Tryd.prog.info? 30).map (·.size) = some L.toArray.size := by rw [List.size_toArray, hLl]; kernel_rfl
            have hone : L.toArray.all (·.oneCell') = true := by rw [hL]; exact all_oneCell_toArray (bcells_oneC key)
            have hzL : ZH.size = L.toArray.size := by rw [hzhs, List.size_toArray, hLl]
            unfold arr at hnx hen
            rw [← hL] at hnx hen
            have HNW := Lib.hid hnw
            have HLV1 := Lib.hid hlv1
            have HBEL1 := Lib.hid hbel1
            have HIT1 := Lib.hid hit1
            have HLT1 := Lib.hid hlt1
            have HKH := Lib.hid hkh
            have HL := Lib.hid hL
            have SZK := Lib.hid szk
            have HONE := Lib.hid hone
            have HZL := Lib.hid hzL
            have HSZ1 := Lib.hid (show r < w1.heap.size by rw [hsz1]; exact hr)
            clear hnw hlv1 hbel1 hit1 hlt1 hkh hL szk hone hzL hmem hnd hk1 hsz1 hit hlv hbel hr HIT HLV0 hrun hLl
            obtain ⟨T, hTT⟩ : ∃ T : Int, T = (tot b' key : Nat) := ⟨_, rfl⟩
            rw [← hTT] at hnx hen
            have HTT := Lib.hid hTT
            clear hTT
            go_upto_region 22 with (refine wpList_store_row rfl 30 (.tmp 9) (.tmp 81) rfl w1.heap.size L.toArray rfl rfl 30 ZH (heap_alloc_new w1 _) SZK.out HZL.out HONE.out ?_)
            obtain ⟨h9, hk9⟩ := HNW.out L.toArray
            generalize (w1.alloc (.cells ZH 30)).setRow w1.heap.size L.toArray = W5 at h9 hk9 ⊢
            have hit5 := HIT1.out.kept hk9 (fun h => h) (fun h => h)
            have hlf5 := HIT1.out.left_kept hk9 (fun h => h) (fun h => h)
            have hlv5 := HLV1.out.kept hk9 (fun _ _ _ h => h)
            have hbel5 : Below w.heap.size w W5 := HBEL1.out.trans (hk9.below (by have := HBEL1.out.size; exact this) (fun _ h => h.elim))
            have hr5 : r < W5.heap.size := Nat.lt_of_lt_of_le HSZ1.out hk9.size
            obtain ⟨HX, hHX⟩ : ∃ HX : Int → Int, ∀ f, HX f = (b'.has f key : Nat) := ⟨_, fun _ => rfl⟩
            have hr0 : W5.rangeAt w1.heap.size 0 L := h9.range
            have hG : w1.heap.size < W5.heap.size := h9.lt
            generalize w1.heap.size = G5 at h9 hr0 hG ⊢
            have htot : ∀ W', W'.rangeAt G5 0 L → Below W5.heap.size W5 W' → Calls Tryd.prog 15 #[.pointer (some ⟨g, 0, none⟩), .agg L.toArray] W' fun e w' => e = .returned (.int .u64 T) ∧ w'.rangeAt G5 0 L ∧ Below W5.heap.size W5 w' := fun W' hr' hb' => by
              have := lv_total (hlv5.quiet hb') HTD'.out.ok key HKH.out (HTD'.out.fit key)
              unfold arr at this
              rw [← HL.out] at this
              exact this.mono fun e w' he => ⟨by rw [he.1, HTT.out], rangeAt_kept hr' (Kept.of_below (S := fun _ => False) he.2) (fun h => h), hb'.trans (he.2.mono hb'.size)⟩
            have hhas : ∀ W' (f : Int), isSide f → W'.rangeAt G5 0 L → Below W5.heap.size W5 W' → Calls Tryd.prog 16 #[.pointer (some ⟨g, 0, none⟩), .int .i64 f, .agg L.toArray] W' fun e w' => e = .returned (.int .u64 (HX f)) ∧ w'.rangeAt G5 0 L ∧ Below W5.heap.size W5 w' := fun W' f hf hr' hb' => by
              have := lv_has (hlv5.quiet hb') HTD'.out.ok f key HKH.out hf
              unfold arr at this
              rw [← HL.out] at this
              exact this.mono fun e w' he => ⟨by rw [he.1, hHX], rangeAt_kept hr' (Kept.of_below (S := fun _ => False) he.2) (fun h => h), hb'.trans (he.2.mono hb'.size)⟩
            have hth := tot_has b' key
            have hx0 := hHX 0
            have hx1 := hHX 1
            have hfit := HTD'.out.fit key
            have hTT := HTT.out
            have g0 : ¬ T < HX 0 := by omega
            obtain ⟨D, hD⟩ : ∃ D, D = T - HX 0 := ⟨_, rfl⟩
            have gw : IntKind.u64.wrap (T - HX 0) = D := by rw [IntKind.wrap_u64]; omega
            have g1 : ¬ D < HX 1 := by omega
            have hend : ∀ W', Below W5.heap.size W5 W' → (∃ done, Iter W' M r la' done ∧ Lv (fun k => zoneM w.heap.size M k ∧ k ≠ r) W' g b' ∧ Below w.heap.size w W' ∧ r < W'.heap.size) ∧ W'.rangeLeft M r < wr.rangeLeft M r := fun W' hb' => by
              have hk' := Kept.of_below (S := fun _ => False) hb'
              refine ⟨⟨_, hit5.kept hk' (fun h => h) (fun h => h), hlv5.quiet hb', hbel5.trans (hb'.mono hbel5.size), Nat.lt_of_lt_of_le hr5 hb'.size⟩, ?_⟩
              rw [hit5.left_kept hk' (fun h => h) (fun h => h), hlf5]
              exact HLT1.out
            have HTOT := Lib.hid htot
            have HHAS := Lib.hid hhas
            have HEND := Lib.hid hend
            have rd : W5.drew.rangeAt G5 0 L := hr0
            have bd : Below W5.heap.size W5 W5.drew := (Below.refl _ _).drew
            have hu30 := hash_under
            have szl : (Tryd.prog.info? 30).map (·.size) = some L.length := by rw [← List.size_toArray]; exact SZK.out
            clear htot hhas hend hth hx0 hx1 hfit hTT hD hHX h9 hk9 hit5 hlf5 hlv5 hbel5 hr5 hr0 hG hnx hen
            refine wp_region_noPanic ?_
            refine wp_region_held_drew (S := fun w' => w'.rangeAt G5 0 L ∧ Below W5.heap.size W5 w') (by kernel_rfl) ⟨rd, bd⟩ (fun hH0 => ?_)
            refine wpAnyH_take (i := 0) (v := (.pointer (some ⟨g, 0, none⟩))) rfl (by kernel_rfl) (by kernel_rfl) (by kernel_rfl) (fun _ _ _ h => h) (Or.inl ⟨by kernel_rfl, by intro w' hS; go_simp⟩) hH0 ?_
            simp only [Act.put, List.setIfInBounds_toArray, List.set_cons_zero, List.set_cons_succ]
            refine wpAnyH_take (i := 1) (v := (.agg L.toArray)) rfl (by kernel_rfl) (by kernel_rfl) (by kernel_rfl) (fun _ _ _ h => h) (yieldsIf_load_mid (by kernel_rfl) 30 (.tmp 9) rfl G5 0 rfl L _ (fun w' h => h.1) Tryd.underlying30 rfl szl) hH0 ?_
            simp only [Act.put, List.setIfInBounds_toArray, List.set_cons_zero, List.set_cons_succ]
            refine wpAnyH_take (i := 3) (v := (.int .u64 T)) rfl (by kernel_rfl) (by kernel_rfl) (by kernel_rfl) (fun _ _ _ h => h) (Or.inl ⟨by kernel_rfl, by intro w' hS; go_simp⟩) hH0 ?_
            simp only [Act.put, List.setIfInBounds_toArray, List.set_cons_zero, List.set_cons_succ]
            refine wpAnyH_ready (rs := [2]) (by kernel_rfl) (by simp) ?_
            refine AllReadyH.cons rfl (fun K hK => ?_) AllReadyH.nil
            go_simp
            refine (HTOT.out _ hH0.1 hH0.2).mono ?_
            rintro _ w5 ⟨rfl, r5, b5⟩
            refine Shut.out hK _ _ ⟨r5, b5⟩ (fun hH1 => ?_)
            clear hK K
            try simp only [Act.put, List.setIfInBounds_toArray, List.set_cons_zero, List.set_cons_succ]
            refine wpAnyH_take (i := 4) (v := (.bool false)) rfl (by kernel_rfl) (by kernel_rfl) (by kernel_rfl) (fun _ _ _ h => h) (Or.inl ⟨by kernel_rfl, by intro w' hS; go_simp⟩) hH1 ?_
            simp only [Act.put, List.setIfInBounds_toArray, List.set_cons_zero, List.set_cons_succ]
            refine wpAnyH_take (i := 5) (v := (.bool false)) rfl (by kernel_rfl) (by kernel_rfl) (by kernel_rfl) (fun _ _ _ h => h) (Or.inl ⟨by kernel_rfl, by intro w' hS; go_simp⟩) hH1 ?_
            simp only [Act.put, List.setIfInBounds_toArray, List.set_cons_zero, List.set_cons_succ]
            refine wpAnyH_take (i := 6) (v := (.pointer (some ⟨g, 0, none⟩))) rfl (by kernel_rfl) (by kernel_rfl) (by kernel_rfl) (fun _ _ _ h => h) (Or.inl ⟨by kernel_rfl, by intro w' hS; go_simp⟩) hH1 ?_
            simp only [Act.put, List.setIfInBounds_toArray, List.set_cons_zero, List.set_cons_succ]
            refine wpAnyH_take (i := 7) (v := (.agg L.toArray)) rfl (by kernel_rfl) (by kernel_rfl) (by kernel_rfl) (fun _ _ _ h => h) (yieldsIf_load_mid (by kernel_rfl) 30 (.tmp 9) rfl G5 0 rfl L _ (fun w' h => h.1) Tryd.underlying30 rfl szl) hH1 ?_
            simp only [Act.put, List.setIfInBounds_toArray, List.set_cons_zero, List.set_cons_succ]
            refine wpAnyH_take (i := 9) (v := (.int .u64 T)) rfl (by kernel_rfl) (by kernel_rfl) (by kernel_rfl) (fun _ _ _ h => h) (Or.inl ⟨by kernel_rfl, by intro w' hS; go_simp⟩) hH1 ?_
            simp only [Act.put, List.setIfInBounds_toArray, List.set_cons_zero, List.set_cons_succ]
            refine wpAnyH_ready (rs := [8]) (by kernel_rfl) (by simp) ?_
            refine AllReadyH.cons rfl (fun K hK => ?_) AllReadyH.nil
            go_simp
            refine (HHAS.out _ 0 (.inl rfl) hH1.1 hH1.2).mono ?_
            rintro _ w5 ⟨rfl, r5, b5⟩
            refine Shut.out hK _ _ ⟨r5, b5⟩ (fun hH2 => ?_)
            clear hK K
            try simp only [Act.put, List.setIfInBounds_toArray, List.set_cons_zero, List.set_cons_succ]
            refine wpAnyH_take (i := 10) (v := (.bool false)) rfl (by kernel_rfl) (by kernel_rfl) (by kernel_rfl) (fun _ _ _ h => h) (Or.inl ⟨by kernel_rfl, by intro w' hS; go_simp⟩) hH2 ?_
            simp only [Act.put, List.setIfInBounds_toArray, List.set_cons_zero, List.set_cons_succ]
            refine wpAnyH_take (i := 11) (v := (.bool false)) rfl (by kernel_rfl) (by kernel_rfl) (by kernel_rfl) (fun _ _ _ h => h) (Or.inl ⟨by kernel_rfl, by intro w' hS; go_simp⟩) hH2 ?_
            simp only [Act.put, List.setIfInBounds_toArray, List.set_cons_zero, List.set_cons_succ]
            refine wpAnyH_take (i := 12) (v := (.bool false)) rfl (by kernel_rfl) (by kernel_rfl) (by kernel_rfl) (fun _ _ _ h => h) (Or.inl ⟨by kernel_rfl, by intro w' hS; go_simp⟩) hH2 ?_
            simp only [Act.put, List.setIfInBounds_toArray, List.set_cons_zero, List.set_cons_succ]
            refine wpAnyH_take (i := 13) (v := (.pointer (some ⟨g, 0, none⟩))) rfl (by kernel_rfl) (by kernel_rfl) (by kernel_rfl) (fun _ _ _ h => h) (Or.inl ⟨by kernel_rfl, by intro w' hS; go_simp⟩) hH2 ?_
            simp only [Act.put, List.setIfInBounds_toArray, List.set_cons_zero, List.set_cons_succ]
            refine wpAnyH_take (i := 14) (v := (.agg L.toArray)) rfl (by kernel_rfl) (by kernel_rfl) (by kernel_rfl) (fun _ _ _ h => h) (yieldsIf_load_mid (by kernel_rfl) 30 (.tmp 9) rfl G5 0 rfl L _ (fun w' h => h.1) Tryd.underlying30 rfl szl) hH2 ?_
            simp only [Act.put, List.setIfInBounds_toArray, List.set_cons_zero, List.set_cons_succ]
            refine wpAnyH_take (i := 16) (v := (.int .u64 T)) rfl (by kernel_rfl) (by kernel_rfl) (by kernel_rfl) (fun _ _ _ h => h) (Or.inl ⟨by kernel_rfl, by intro w' hS; go_simp⟩) hH2 ?_
            simp only [Act.put, List.setIfInBounds_toArray, List.set_cons_zero, List.set_cons_succ]
            refine wpAnyH_take (i := 17) (v := (.pointer (some ⟨g, 0, none⟩))) rfl (by kernel_rfl) (by kernel_rfl) (by kernel_rfl) (fun _ _ _ h => h) (Or.inl ⟨by kernel_rfl, by intro w' hS; go_simp⟩) hH2 ?_
            simp only [Act.put, List.setIfInBounds_toArray, List.set_cons_zero, List.set_cons_succ]
            refine wpAnyH_take (i := 18) (v := (.agg L.toArray)) rfl (by kernel_rfl) (by kernel_rfl) (by kernel_rfl) (fun _ _ _ h => h) (yieldsIf_load_mid (by kernel_rfl) 30 (.tmp 9) rfl G5 0 rfl L _ (fun w' h => h.1) Tryd.underlying30 rfl szl) hH2 ?_
            simp only [Act.put, List.setIfInBounds_toArray, List.set_cons_zero, List.set_cons_succ]
            refine wpAnyH_ready (rs := [15]) (by kernel_rfl) (by simp) ?_
            refine AllReadyH.cons rfl (fun K hK => ?_) AllReadyH.nil
            go_simp
            refine (HHAS.out _ 1 (.inr rfl) hH2.1 hH2.2).mono ?_
            rintro _ w5 ⟨rfl, r5, b5⟩
            refine Shut.out hK _ _ ⟨r5, b5⟩ (fun hH3 => ?_)
            clear hK K
            try simp only [Act.put, List.setIfInBounds_toArray, List.set_cons_zero, List.set_cons_succ]
            refine wpAnyH_ready (rs := [19]) (by kernel_rfl) (by simp) ?_
            refine AllReadyH.cons rfl (fun K hK => ?_) AllReadyH.nil
            go_simp
            refine (HHAS.out _ 0 (.inl rfl) hH3.1 hH3.2).mono ?_
            rintro _ w5 ⟨rfl, r5, b5⟩
            refine Shut.out hK _ _ ⟨r5, b5⟩ (fun hH4 => ?_)
            clear hK K
            try simp only [Act.put, List.setIfInBounds_toArray, List.set_cons_zero, List.set_cons_succ]
            refine wpAnyH_take (i := 20) (v := (.int .u64 D)) rfl (by kernel_rfl) (by kernel_rfl) (by kernel_rfl) (fun _ _ _ h => h) (Or.inl ⟨by kernel_rfl, by intro w' hS; go_simp⟩) hH4 ?_
            simp only [Act.put, List.setIfInBounds_toArray, List.set_cons_zero, List.set_cons_succ]
            refine wpAnyH_take (i := 21) (v := (.bool false)) rfl (by kernel_rfl) (by kernel_rfl) (by kernel_rfl) (fun _ _ _ h => h) (Or.inl ⟨by kernel_rfl, by intro w' hS; go_simp⟩) hH4 ?_
            simp only [Act.put, List.setIfInBounds_toArray, List.set_cons_zero, List.set_cons_succ]
            refine wpAnyH_take (i := 22) (v := (.bool false)) rfl (by kernel_rfl) (by kernel_rfl) (by kernel_rfl) (fun _ _ _ h => h) (Or.inl ⟨by kernel_rfl, by intro w' hS; go_simp⟩) hH4 ?_
            simp only [Act.put, List.setIfInBounds_toArray, List.set_cons_zero, List.set_cons_succ]
            refine wpAnyH_done (by kernel_rfl) ?_ _
            refine NoPanic.normal ?_
            go_wp2
            go_roundw
            case rel =>
              obtain ⟨dn, e1, e2, e3, e4⟩ := (HEND.out _ (by assumption)).1
              exact ⟨⟨dn, e1⟩, e2, e3, e4⟩
            case measure => exact (HEND.out _ (by assumption)).2
    · have hfin : Below w.heap.size w wr := HSW.out.2.2.1
      have HFIN := Lib.hid hfin
      clear hfin
      by_cases hlt2 : k < n
      · have h80 : ¬ k < 80 := fun e => hlt ⟨hlt2, e⟩
        clear hlt
        go_wp2
        go_ret
        exact ⟨rfl, HFIN.out⟩
      · clear hlt
        go_wp2
        go_ret
        exact ⟨rfl, HFIN.out⟩
end Go.Proofs.YtnddejgglbdkmaaDoor
