/- The plain law of BookClones: a step that is done shows; Same's answer at two books that differ. -/
import Derived.Test.YtnddejgglbdkmaaDoorBook36
namespace Go.Proofs.YtnddejgglbdkmaaDoor
set_option linter.unusedVariables false
set_option linter.unusedSimpArgs false
open Go.ChangeShapes Go.WideShapes Go.ChangeAt Go.RowKit Go.Maps

def stepE (K s0 : List Wd) (b : Bk) (s : Stp) : Int :=
  if s.K = 0 then fundE b s.side s.id s.n else if s.K = 1 then offE b (s.offer K s0) else if s.K = 2 then settleE K s0 b s.side s.no s.sec else if s.K = 3 then backE b s.side s.no else 0
/-- two books of which Same says no. -/
def Differ (b b' : Bk) : Prop := b.offers.length ≠ b'.offers.length ∨ ∃ f, (f = 0 ∨ f = 1) ∧ ¬ ∀ k, look (b.side f) k = look (b'.side f) k
theorem lv_differ {S S' : Nat → Prop} {w : World} {g g' : Nat} {b b' : Bk} (h : Lv S w g b) (h' : Lv S' w g' b') (ht : Tidy b) (ht' : Tidy b') (hs : Small b 1000000) (hs' : Small b' 1000000) (k0 : b'.k0 = b.k0) (k1 : b'.k1 = b.k1) (hd : Differ b b') :
    Calls Tryd.prog 20 #[.pointer (some ⟨g, 0, none⟩), .pointer (some ⟨g', 0, none⟩)] w fun e w' => e = .returned (.bool false) ∧ Below w.heap.size w w' := by
  obtain ⟨m0, m1, v, hat, _⟩ := h
  obtain ⟨m0', m1', v', hat', _⟩ := h'
  have hp : Pair2 w g g' b b' m0 m1 v m0' m1' v' := ⟨hat, hat', ht.ok, ht'.ok, hs, hs', k0, k1⟩
  by_cases hl : b.offers.length = b'.offers.length
  · rcases hd with e | ⟨f, hf, hne⟩
    · exact absurd hl e
    · by_cases h0 : ∀ k, look (b.side 0) k = look (b'.side 0) k
      · rcases hf with rfl | rfl
        · exact absurd h0 hne
        · exact same_s1 w g g' b b' m0 m1 v m0' m1' v' hp hl h0 hne
      · exact same_s0 w g g' b b' m0 m1 v m0' m1' v' hp hl h0
  · exact same_len w g g' b b' m0 m1 v m0' m1' v' hp hl
theorem side_put (b : Bk) (f : Int) (l : List Ent) : (b.put f l).side f = l := by
  unfold Bk.side Bk.put
  split <;> rfl
theorem fund_differ {b : Bk} (f : Int) (id : List Nat) (n : Nat) (h : fundE b f id n = 0) : Differ b (fundN b f id n) := by
  rcases fundE_cases b f id n with ⟨_, hf, h0, _⟩ | he
  · refine .inr ⟨f, hf, fun hall => ?_⟩
    have e : fundN b f id n = b.put f (addL (b.side f) id n) := by unfold fundN; rw [if_pos h]
    have := hall id
    rw [e, side_put] at this
    have h2 := num_addL (b.side f) id id n
    rw [if_pos rfl, ← this] at h2
    omega
  · exact absurd h he
theorem give_differ {b : Bk} {k : Nat} {o : Off} (hk : b.offers[k]? = some o) (f : Int) (p : Off) : Differ b (giveB b k f p) := by
  refine .inl ?_
  have hl := (List.getElem?_eq_some_iff.1 hk).1
  show b.offers.length ≠ (b.offers.eraseIdx k).length
  rw [List.length_eraseIdx, if_pos hl]
  omega
theorem step_differ (K s0 : List Wd) {b : Bk} (h : Tidy b) (s : Stp) (he : stepE K s0 b s = 0) (hK : s.K = 0 ∨ s.K = 1 ∨ s.K = 2 ∨ s.K = 3) : Differ b (stepB K s0 b s) := by
  unfold stepE at he
  unfold stepB
  by_cases h0 : s.K = 0
  · rw [if_pos h0] at he ⊢
    exact fund_differ _ _ _ he
  rw [if_neg h0] at he ⊢
  by_cases h1 : s.K = 1
  · rw [if_pos h1] at he ⊢
    refine .inl ?_
    rw [(off_facts h _ he).2.2.2.1]
    simp
  rw [if_neg h1] at he ⊢
  by_cases h2 : s.K = 2
  · rw [if_pos h2] at he ⊢
    rcases find_cases b.offers s.side s.no with hf | ⟨k, o, hk, hf⟩
    · unfold settleE at he
      rw [hf, if_pos (by decide)] at he
      cases he
    · unfold settleN
      rw [if_pos he, hf, Int.toNat_natCast]
      exact give_differ hk _ _
  rw [if_neg h2] at he ⊢
  by_cases h3 : s.K = 3
  · rw [if_pos h3] at he ⊢
    rcases find_cases b.offers s.side s.no with hf | ⟨k, o, hk, hf⟩
    · unfold backE at he
      rw [hf, if_pos (by decide)] at he
      cases he
    · unfold backN
      rw [hf, if_neg (by omega), Int.toNat_natCast]
      exact give_differ hk _ _
  · rcases hK with e | e | e | e <;> contradiction
theorem step_still (K s0 : List Wd) (b : Bk) (s : Stp) (h : stepE K s0 b s ≠ 0 ∨ ¬ (s.K = 0 ∨ s.K = 1 ∨ s.K = 2 ∨ s.K = 3)) : stepB K s0 b s = b := by
  unfold stepE at h
  unfold stepB
  by_cases h0 : s.K = 0
  · rw [if_pos h0] at h ⊢
    rcases h with h | h
    · unfold fundN; rw [if_neg h]
    · exact absurd (.inl h0) h
  rw [if_neg h0] at h ⊢
  by_cases h1 : s.K = 1
  · rw [if_pos h1] at h ⊢
    rcases h with h | h
    · unfold offN; rw [if_neg h]
    · exact absurd (.inr (.inl h1)) h
  rw [if_neg h1] at h ⊢
  by_cases h2 : s.K = 2
  · rw [if_pos h2] at h ⊢
    rcases h with h | h
    · unfold settleN; rw [if_neg h]
    · exact absurd (.inr (.inr (.inl h2))) h
  rw [if_neg h2] at h ⊢
  by_cases h3 : s.K = 3
  · rw [if_pos h3] at h ⊢
    rcases h with h | h
    · unfold backE at h
      unfold backN
      split
      · rfl
      · next e => rw [if_neg e] at h; exact absurd rfl h
    · exact absurd (.inr (.inr (.inr h3))) h
  · rw [if_neg h3]
theorem put_keep (b : Bk) (f : Int) (l : List Ent) : (b.put f l).k0 = b.k0 ∧ (b.put f l).k1 = b.k1 := by
  unfold Bk.put; split <;> exact ⟨rfl, rfl⟩
theorem step_keep (K s0 : List Wd) (b : Bk) (s : Stp) : (stepB K s0 b s).k0 = b.k0 ∧ (stepB K s0 b s).k1 = b.k1 := by
  unfold stepB
  split
  · unfold fundN; split
    · exact put_keep _ _ _
    · exact ⟨rfl, rfl⟩
  · split
    · unfold offN; split
      · exact put_keep _ _ _
      · exact ⟨rfl, rfl⟩
    · split
      · unfold settleN; split
        · exact put_keep _ _ _
        · exact ⟨rfl, rfl⟩
      · split
        · unfold backN; split
          · exact ⟨rfl, rfl⟩
          · exact put_keep _ _ _
        · exact ⟨rfl, rfl⟩
theorem fund_keep (b : Bk) (f : Int) (id : List Nat) (n : Nat) : (fundN b f id n).k0 = b.k0 ∧ (fundN b f id n).k1 = b.k1 := by
  unfold fundN; split
  · exact put_keep _ _ _
  · exact ⟨rfl, rfl⟩
theorem BkEqv.look {b c : Bk} (h : BkEqv b c) (f : Int) (k : List Nat) : look (c.side f) k = look (b.side f) k := by
  unfold Bk.side; split
  · exact (h.e0.same k).symm
  · exact (h.e1.same k).symm
theorem Differ.left {b c d : Bk} (h : BkEqv b c) (hd : Differ c d) : Differ b d := by
  rcases hd with e | ⟨f, hf, e⟩
  · exact .inl (by rw [← h.os]; exact e)
  · exact .inr ⟨f, hf, fun hall => e fun k => by rw [h.look f k]; exact hall k⟩
theorem Differ.symm {b c : Bk} (h : Differ b c) : Differ c b := by
  rcases h with e | ⟨f, hf, e⟩
  · exact .inl (Ne.symm e)
  · exact .inr ⟨f, hf, fun hall => e fun k => (hall k).symm⟩
theorem Differ.right {b c d : Bk} (h : BkEqv c d) (hd : Differ b c) : Differ b d := (Differ.left h.symm hd.symm).symm
end Go.Proofs.YtnddejgglbdkmaaDoor

/- The closure of BookClones: one step, done to a book. -/
namespace Go.Proofs.YtnddejgglbdkmaaDoor
set_option linter.unusedVariables false
set_option linter.unusedSimpArgs false
open Go.ChangeShapes Go.WideShapes Go.ChangeAt Go.RowKit Go.Maps

set_option maxRecDepth 100000 in
set_option maxHeartbeats 4000000 in
theorem run_is (K s0 : List Wd) (w : World) (hT : Tabs K s0 w) (S : Nat → Prop) (g : Nat) (b : Bk) (hlv : Lv S w g b) (hn : ∀ k, w.heap.size ≤ k → S k) (htd : Tidy b) (s : Stp) (hok : s.ok) :
    Calls Tryd.prog 18 #[.pointer (some ⟨g, 0, none⟩), .agg s.cells.toArray] w fun e w' => e = .returned (.int .i64 (stepE K s0 b s)) ∧ Lv S w' g (stepB K s0 b s) ∧ Kept S w w' := by
  have hl137 := s.length hok
  obtain ⟨L, hL⟩ : ∃ L, L = s.cells := ⟨_, rfl⟩
  have hglt := hlv.lt
  rw [← hL]
  have SZA := Lib.hid (show (Tryd.prog.info? 34).map (·.size) = some L.toArray.size by rw [List.size_toArray, hL, hl137]; kernel_rfl)
  have h3 : Has (w.alloc (.cells L.toArray 34)) w.heap.size 34 L.toArray := Has.new w _ _
  have hk3 : Kept (fun _ => False) w (w.alloc (.cells L.toArray 34)) := (Kept.refl _ _).alloc _
  have hlv3 : Lv (fun k => S k ∧ k ≠ w.heap.size) (w.alloc (.cells L.toArray 34)) g b := (hlv.zone (S' := fun k => S k ∧ k ≠ w.heap.size) (fun k h1 h2 => ⟨h2, by omega⟩)).kept hk3 (fun _ _ _ h => h)
  have hT3 : Tabs K s0 (w.alloc (.cells L.toArray 34)) := hT.below (hk3.below (Nat.le_refl _) (fun _ h => h.elim)) hT.low
  have hn9 : ∀ k, (w.alloc (.cells L.toArray 34)).heap.size ≤ k → (S k ∧ k ≠ w.heap.size) := fun k hk => by
    have h1 := h3.lt
    have h2 := hk3.size
    exact ⟨hn k (by omega), by omega⟩
  have EL := Lib.hid hL
  have HSOK := Lib.hid hok
  have HTD := Lib.hid htd
  have HSg := Lib.hid (hn w.heap.size (Nat.le_refl _))
  clear hlv hn hok hl137 hT hglt hL htd
  go_enter Tryd.func18, Tryd.ntmps18
  go_upto_region 1 with (fail)
  generalize w.alloc (.cells L.toArray 34) = W9 at h3 hk3 hlv3 hT3 hn9 ⊢
  generalize w.heap.size = G at h3 hlv3 hn9 HSg ⊢
  rw [EL.out] at h3
  obtain ⟨g0, g1, g34, g103, -⟩ := stp_get HSOK.out
  have c0 : W9.cell? ⟨G, 0, none⟩ = some (.int .i64 s.K) := h3.cell_is (by simpa using g0)
  have c1 : W9.cell? ⟨G, 1, none⟩ = some (.int .i64 s.side) := h3.cell_is (by simpa using g1)
  have c34 : W9.cell? ⟨G, 34, none⟩ = some (.int .u64 (s.n : Int)) := h3.cell_is (by rw [List.getElem?_toArray]; exact g34)
  have c103 : W9.cell? ⟨G, 103, none⟩ = some (.int .i64 s.no) := h3.cell_is (by rw [List.getElem?_toArray]; exact g103)
  have H3 := Lib.hid h3
  have HLV3 := Lib.hid hlv3
  have HT3 := Lib.hid hT3
  have HN9 := Lib.hid hn9
  clear h3 hlv3 hT3 hn9 g0 g1 g34 g103
  obtain ⟨KK, hKK⟩ : ∃ x, x = s.K := ⟨_, rfl⟩
  obtain ⟨SD, hSD⟩ : ∃ x, x = s.side := ⟨_, rfl⟩
  obtain ⟨NN, hNN⟩ : ∃ x, x = s.n := ⟨_, rfl⟩
  obtain ⟨NO, hNO⟩ : ∃ x, x = s.no := ⟨_, rfl⟩
  rw [← hKK] at c0
  rw [← hSD] at c1
  rw [← hNN] at c34
  rw [← hNO] at c103
  have EK := Lib.hid hKK
  have ESD := Lib.hid hSD
  have ENN := Lib.hid hNN
  have ENO := Lib.hid hNO
  clear hKK hSD hNN hNO
  have hend : ∀ (w5 : World) (b' : Bk), stepB K s0 b s = b' → Lv (fun k => S k ∧ k ≠ G) w5 g b' → Kept (fun k => S k ∧ k ≠ G) W9 w5 → Lv S w5 g (stepB K s0 b s) ∧ Kept S w w5 := fun w5 b' e h1 h2 => by
    rw [e]
    exact ⟨h1.zone (fun k _ e => e.1), (hk3.mono (fun _ _ h => h.elim)).trans (h2.mono fun k _ e => e.1)⟩
  have HEND := Lib.hid hend
  clear hend hk3
  by_cases hK0 : KK = 0
  · have EB := Lib.hid (show stepB K s0 b s = fundN b SD s.id NN by unfold stepB; rw [if_pos (by rw [← EK.out]; exact hK0), ← ESD.out, ← ENN.out])
    have EE := Lib.hid (show stepE K s0 b s = fundE b SD s.id NN by unfold stepE; rw [if_pos (by rw [← EK.out]; exact hK0), ← ESD.out, ← ENN.out])
    have hf := lv_fund HLV3.out HN9.out HTD.out.ok SD s.id NN HSOK.out.id (by rw [ENN.out]; exact HSOK.out.n)
    obtain ⟨LI, hLI⟩ : ∃ L, L = bcells s.id := ⟨_, rfl⟩
    have hL1 := stp_id H3.out
    unfold arr at hf
    rw [← hLI] at hL1 hf
    have HL1 := Lib.hid hL1
    have HF := Lib.hid hf
    have SZL := Lib.hid (show (Tryd.prog.info? 30).map (·.size) = some LI.length by rw [hLI, bcells_length, HSOK.out.id.1]; kernel_rfl)
    subst hK0
    clear hf hL1 hLI
    go_wp2_with (refine wpList_load_mid rfl 30 (.tmp 12) rfl G 2 rfl LI _ HL1.out Tryd.underlying30 rfl SZL.out ?_)
    refine HF.out.mono ?_
    rintro _ w5 ⟨rfl, hlv5, hk5⟩
    have HE := Lib.hid (HEND.out w5 _ EB.out hlv5 hk5)
    clear hlv5 hk5 c0 c1 c34
    go_wp2
    go_ret
    exact ⟨by rw [EE.out]; rfl, HE.out⟩
  · have HK0 := Lib.hid (show ¬ s.K = 0 from fun e => hK0 (by rw [EK.out]; exact e))
    by_cases hK1 : KK = 1
    · subst hK1
      have HBB := Lib.hid (show stepB K s0 b s = offN b (s.offer K s0) by unfold stepB; rw [if_neg HK0.out, if_pos EK.out.symm])
      have HEE := Lib.hid (show stepE K s0 b s = offE b (s.offer K s0) by unfold stepE; rw [if_neg HK0.out, if_pos EK.out.symm])
      have hso := stepOffer_is K s0 W9 HT3.out s HSOK.out
      obtain ⟨O, hO⟩ : ∃ O, O = s.offer K s0 := ⟨_, rfl⟩
      have hOok : O.ok := by rw [hO]; exact stp_offer_ok K s0 HT3.out.len s HSOK.out
      rw [← hO, ← EL.out] at hso
      have H3' := Lib.hid (show Has W9 G 34 L.toArray by rw [EL.out]; exact H3.out)
      have HO := Lib.hid hO
      have HSO := Lib.hid hso
      have HOOK := Lib.hid hOok
      clear hO hso hOok c103 c34 c1 hK0
      go_wp2_with (refine wpList_load_row rfl 34 (.tmp 3) rfl G rfl 34 L.toArray (0, 0) _ H3'.out Tryd.underlying34 rfl SZA.out ?_)
      refine HSO.out.mono ?_
      rintro _ w4 ⟨rfl, hb4⟩
      have hof := lv_offer (HLV3.out.quiet hb4) (fun k h => HN9.out k (Nat.le_trans hb4.size h)) HTD.out.ok O HOOK.out
      have HOF := Lib.hid hof
      have HB4 := Lib.hid hb4
      clear hof hb4
      go_wp2_with fail
      refine HOF.out.mono ?_
      rintro _ w5 ⟨rfl, hlv5, hk5⟩
      have HE := Lib.hid (HEND.out w5 _ (by rw [HBB.out, ← HO.out]) hlv5 ((Kept.of_below HB4.out).trans hk5))
      clear hlv5 hk5
      go_wp2
      go_ret
      exact ⟨by rw [HEE.out, ← HO.out]; rfl, HE.out⟩
    · by_cases hK2 : KK = 2
      · subst hK2
        have HBB := Lib.hid (show stepB K s0 b s = settleN K s0 b SD NO s.sec by unfold stepB; rw [if_neg HK0.out, if_neg (by rw [← EK.out]; decide), if_pos EK.out.symm, ← ESD.out, ← ENO.out])
        have HEE := Lib.hid (show stepE K s0 b s = settleE K s0 b SD NO s.sec by unfold stepE; rw [if_neg HK0.out, if_neg (by rw [← EK.out]; decide), if_pos EK.out.symm, ← ESD.out, ← ENO.out])
        have hse := lv_settle K s0 HT3.out HLV3.out HN9.out HTD.out SD NO s.sec HSOK.out.sec
        obtain ⟨X, hX⟩ : ∃ X, X = bcells s.sec := ⟨_, rfl⟩
        have hX1 := stp_sec HSOK.out H3.out
        have szx : (Tryd.prog.info? 30).map (·.size) = some X.length := by rw [hX, bcells_length, HSOK.out.sec.1]; kernel_rfl
        unfold arr at hse
        rw [← hX] at hX1 hse
        have HSE := Lib.hid hse
        have HX1 := Lib.hid hX1
        have SZX := Lib.hid szx
        clear hse hX hX1 szx c34 hK0 hK1
        go_wp2_with (refine wpList_load_mid rfl 30 (.tmp 30) rfl G 104 rfl X _ HX1.out Tryd.underlying30 rfl SZX.out ?_)
        refine HSE.out.mono ?_
        rintro _ w5 ⟨rfl, hlv5, hk5⟩
        have HE := Lib.hid (HEND.out w5 _ HBB.out hlv5 hk5)
        clear hlv5 hk5
        go_wp2
        go_ret
        exact ⟨by rw [HEE.out]; rfl, HE.out⟩
      · by_cases hK3 : KK = 3
        · subst hK3
          have HBB := Lib.hid (show stepB K s0 b s = backN b SD NO by unfold stepB; rw [if_neg HK0.out, if_neg (by rw [← EK.out]; decide), if_neg (by rw [← EK.out]; decide), if_pos EK.out.symm, ← ESD.out, ← ENO.out])
          have HEE := Lib.hid (show stepE K s0 b s = backE b SD NO by unfold stepE; rw [if_neg HK0.out, if_neg (by rw [← EK.out]; decide), if_neg (by rw [← EK.out]; decide), if_pos EK.out.symm, ← ESD.out, ← ENO.out])
          have hba := lv_back HLV3.out HN9.out HTD.out SD NO
          have HBA := Lib.hid hba
          clear hba c34 hK0 hK1 hK2
          go_wp2_with fail
          refine HBA.out.mono ?_
          rintro _ w5 ⟨rfl, hlv5, hk5⟩
          have HE := Lib.hid (HEND.out w5 _ HBB.out hlv5 hk5)
          clear hlv5 hk5
          go_wp2
          go_ret
          exact ⟨by rw [HEE.out]; rfl, HE.out⟩
        · have HBB := Lib.hid (show stepB K s0 b s = b by unfold stepB; rw [if_neg HK0.out, if_neg (by rw [← EK.out]; exact hK1), if_neg (by rw [← EK.out]; exact hK2), if_neg (by rw [← EK.out]; exact hK3)])
          have HEE := Lib.hid (show stepE K s0 b s = 0 by unfold stepE; rw [if_neg HK0.out, if_neg (by rw [← EK.out]; exact hK1), if_neg (by rw [← EK.out]; exact hK2), if_neg (by rw [← EK.out]; exact hK3)])
          have HE := Lib.hid (HEND.out W9 _ HBB.out HLV3.out (Kept.refl _ _))
          clear c34 c103 c1
          go_wp2
          go_ret
          exact ⟨by rw [HEE.out]; rfl, HE.out⟩
end Go.Proofs.YtnddejgglbdkmaaDoor
