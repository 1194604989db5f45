/- The walk of Clone. -/
import Derived.Test.YtnddejgglbdkmaaDoorBook26
namespace Go.Proofs.YtnddejgglbdkmaaDoor
set_option linter.unusedVariables false
set_option linter.unusedSimpArgs false
open Go.ChangeShapes Go.WideShapes Go.ChangeAt Go.RowKit Go.Maps

/-- a copy under way: the book copied, its copy so far. -/
structure CopyAt (w : World) (g m0 m1 : Nat) (v : Value) (b : Bk) (g' m0' m1' : Nat) (v' : Value) (cb : Bk) (wr : World) : Prop where
  src : BookAt wr g m0 m1 v b
  dst : BookAt wr g' m0' m1' v' cb
  bel : Below w.heap.size w wr
  off : cb.offers = []
  k0 : cb.k0 = b.k0
  k1 : cb.k1 = b.k1
theorem CopyAt.kept {w : World} {g m0 m1 : Nat} {v : Value} {b : Bk} {g' m0' m1' : Nat} {v' : Value} {cb : Bk} {wr w2 : World} {S : Nat → Prop} (h : CopyAt w g m0 m1 v b g' m0' m1' v' cb wr) (hk : Kept S wr w2)
    (h1 : ∀ k, bset g m0 m1 v k → ¬ S k) (h2 : ∀ k, bset g' m0' m1' v' k → ¬ S k) (h3 : ∀ k, S k → w.heap.size ≤ k) : CopyAt w g m0 m1 v b g' m0' m1' v' cb w2 :=
  ⟨h.src.kept hk h1, h.dst.kept hk h2, h.bel.trans (hk.below h.bel.size h3), h.off, h.k0, h.k1⟩
/-- what is done when k sides are. -/
def Sides (b cb : Bk) (k : Nat) : Prop := ∀ f : Nat, f < 2 → (f < k → Eqv (b.side f) (cb.side f)) ∧ (¬ f < k → cb.side f = [])
theorem put_side (b : Bk) {f : Int} (hf : isSide f) (l : List Ent) : (b.put f l).side f = l := by
  rcases hf with rfl | rfl <;> rfl
theorem put_side_ne (b : Bk) {f f' : Int} (hf : isSide f) (hf' : isSide f') (hne : f ≠ f') (l : List Ent) : (b.put f l).side f' = b.side f' := by
  rcases hf with rfl | rfl <;> rcases hf' with rfl | rfl
  · exact absurd rfl hne
  · rfl
  · rfl
  · exact absurd rfl hne
theorem put_put (b : Bk) {f : Int} (hf : isSide f) (l l' : List Ent) : (b.put f l).put f l' = b.put f l' := by
  rcases hf with rfl | rfl <;> rfl
theorem put_same (b : Bk) {f : Int} (hf : isSide f) : b.put f (b.side f) = b := by
  rcases hf with rfl | rfl <;> rfl
theorem put_k (b : Bk) (f : Int) (l : List Ent) : (b.put f l).k0 = b.k0 ∧ (b.put f l).k1 = b.k1 := by unfold Bk.put; split <;> exact ⟨rfl, rfl⟩

set_option maxRecDepth 100000 in
set_option maxHeartbeats 4000000 in
theorem clone_is (w : World) (g m0 m1 : Nat) (v : Value) (b : Bk) (h : BookAt w g m0 m1 v b) (hb : b.ok) :
    Calls Tryd.prog 19 #[.pointer (some ⟨g, 0, none⟩)] w fun e w' => ∃ g' b', e = .returned (.pointer (some ⟨g', 0, none⟩)) ∧ Lv (fun k => w.heap.size ≤ k) w' g' b' ∧ BkEqv b b' ∧ Below w.heap.size w w' := by
  have c3 : w.cell? ⟨g, 3, none⟩ = some (.int .u64 (b.k0 : Int)) := h.obj.cell_is rfl
  have c4 : w.cell? ⟨g, 4, none⟩ = some (.int .u64 (b.k1 : Int)) := h.obj.cell_is rfl
  have HN := Lib.hid (new_is w b.k0 b.k1)
  have HAT := Lib.hid h
  have HB := Lib.hid hb
  obtain ⟨K0, hK0⟩ : ∃ x, x = b.k0 := ⟨_, rfl⟩
  obtain ⟨K1, hK1⟩ : ∃ x, x = b.k1 := ⟨_, rfl⟩
  rw [← hK0] at c3 HN
  rw [← hK1] at c4 HN
  have EK0 := Lib.hid hK0
  have EK1 := Lib.hid hK1
  clear h hb hK0 hK1
  go_enter Tryd.func19, Tryd.ntmps19
  go_wp2_with fail
  refine HN.out.mono ?_
  rintro _ w1 ⟨g', m0', m1', rfl, hB, hbel⟩
  obtain ⟨v', hg', hown'⟩ := hB.obj
  have hlow := hB.low
  have hnew : ∀ k, bset g' m0' m1' v' k → w.heap.size ≤ k := fun k e => by
    rcases e with rfl | rfl | rfl | e
    · omega
    · omega
    · omega
    · rcases hown'.2 with ⟨rfl, _⟩ | ⟨g2, cap, cur, rfl, hg2, _⟩
      · simp [Value.ownBlock] at e
      · simp [Value.ownBlock] at e
        omega
  have hcp : CopyAt w g m0 m1 v b g' m0' m1' v' ⟨[], [], [], K0, K1⟩ w1 :=
    ⟨HAT.out.kept (Kept.of_below (S := fun _ => False) hbel) (fun _ _ h => h), ⟨hg', own_base hown' (Nat.zero_le _), hB.map0, hB.map1, hB.ne⟩, hbel, rfl, EK0.out, EK1.out⟩
  have hold := HAT.out.lt
  have HNEW := Lib.hid hnew
  have HCP := Lib.hid hcp
  have HOLD := Lib.hid hold
  clear hB hbel hg' hown' hlow hnew hcp hold c3 c4 HN HAT EK0 EK1
  go_wp2_with fail
  go_loopw [14] (fun i wr => ∃ (k : Nat) (cb : Bk), i = .int .i64 (k : Int) ∧ k ≤ 2 ∧ CopyAt w g m0 m1 v b g' m0' m1' v' cb wr ∧ Sides b cb k) (fun i _ => 2 - (intOf i).toNat)
  case atStart => exact ⟨0, _, rfl, by decide, HCP.out, fun f hf => ⟨fun h => absurd h (by omega), fun _ => by unfold Bk.side; split <;> rfl⟩⟩
  case round =>
    obtain ⟨k, cb, rfl, hk, hcp, hsd⟩ := hrel
    have HC := Lib.hid hcp
    have HSD := Lib.hid hsd
    clear hcp hsd HCP
    by_cases hlt : k < 2
    · have hks : isSide (k : Int) := by unfold isSide; omega
      have hdt : decide ((k : Int) < 2) = true := by simp; omega
      obtain ⟨m, c, hm, hmm⟩ := HC.out.src.sided (k : Int) hks
      rw [Int.toNat_natCast] at c
      obtain ⟨m', c', hm', hmm'⟩ := HC.out.dst.sided (k : Int) hks
      rw [Int.toNat_natCast] at c'
      have hmo : bset g m0 m1 v m := by rw [hmm]; split; exact .inr (.inl rfl); exact .inr (.inr (.inl rfl))
      have hmn : bset g' m0' m1' v' m' := by rw [hmm']; split; exact .inr (.inl rfl); exact .inr (.inr (.inl rfl))
      have hmlt := HOLD.out m hmo
      have hmge := HNEW.out m' hmn
      obtain ⟨w0, hrun, hit, hk0, hsz0⟩ := range_is (T := 28) Tryd.underlying28 hm
      obtain ⟨hf1, hf2⟩ := HC.out.dst.far (k : Int) m' hmm'
      have hnl : ∀ j, bset g' m0' m1' v' j → j < wr.heap.size := HC.out.dst.lt
      have hol : ∀ j, bset g m0 m1 v j → j < wr.heap.size := HC.out.src.lt
      have hcp0 : CopyAt w g m0 m1 v b g' m0' m1' v' cb w0 := HC.out.kept hk0 (fun _ _ h => h) (fun _ _ h => h) (fun _ h => h.elim)
      have hWr := HC.out.bel.size
      have HIT := Lib.hid hit
      have HCP0 := Lib.hid hcp0
      have HS0 := Lib.hid hsz0
      have HNL := Lib.hid hnl
      have HOL := Lib.hid hol
      have HF := Lib.hid (And.intro hf1 hf2)
      have HMM := Lib.hid (And.intro hmm hmm')
      have HML := Lib.hid (And.intro hmlt hmge)
      have HWR := Lib.hid hWr
      have HKS := Lib.hid hks
      have hd0 : cb.side k = [] := (HSD.out k hlt).2 (by omega)
      have HD0 := Lib.hid hd0
      clear hit hcp0 hsz0 hnl hol hf1 hf2 hmm hmm' hmlt hmge hm hm' hmo hmn hk0 hWr hks hd0
      go_wp2_with fail
      generalize wr.heap.size = r at HIT HNL HOL HS0 HWR hrun ⊢
      go_loopw [6] (fun _ w2 => ∃ done la, Iter w2 m r (b.side k) done ∧ CopyAt w g m0 m1 v b g' m0' m1' v' (cb.put k la) w2 ∧ Copied (b.side k) la done ∧ r < w2.heap.size) (fun _ w2 => w2.rangeLeft m r)
      case atStart =>
        refine ⟨[], [], HIT.out, ?_, Copied.start _, by rw [HS0.out]; omega⟩
        have := put_same cb HKS.out
        rw [HD0.out] at this
        rw [this]; exact HCP0.out
      case round =>
        obtain ⟨done, la, hit, hcp, hco, hr⟩ := hrel
        rcases next_is hit 0 with ⟨hd, hnx⟩ | ⟨key, vv, w2, hmem, hnd, hkh, hnx, hit1, hk1, hsz1, hlt1, hen⟩
        · have hfin : Sides b (cb.put k la) (k + 1) := fun f hf => by
            by_cases hfk : f = k
            · subst hfk
              refine ⟨fun _ => ?_, fun e => absurd e (by omega)⟩
              rw [put_side cb HKS.out]
              have hms : MapIs wr (if (f : Int) = 0 then m0' else m1') la := by
                have := (hcp.dst.sided (f : Int) HKS.out)
                obtain ⟨mm, _, hmm2, hmm3⟩ := this
                rw [put_side cb HKS.out] at hmm2
                rw [← hmm3]; exact hmm2
              exact hco.all hit.nodup.2.1 hms.nodup hd
            · have hsf : isSide (f : Int) := by unfold isSide; omega
              rw [put_side_ne cb HKS.out hsf (by omega)]
              obtain ⟨p1, p2⟩ := HSD.out f hf
              exact ⟨fun e => p1 (by omega), fun e => p2 (by omega)⟩
          have HFIN := Lib.hid hfin
          have HCC := Lib.hid hcp
          clear hfin hd hit hcp hco hr hrun c c'
          go_wp2
          go_roundw
          case rel => exact ⟨k + 1, cb.put k la, by go_num, by omega, HCC.out, HFIN.out⟩
          case measure => simp [intOf]; omega
        · obtain ⟨ZH, hzh, hzhs, hzhn⟩ := zero_hash
          have hnw : ∀ C, Has ((w2.alloc (.cells ZH 30)).setRow w2.heap.size C) w2.heap.size 30 C ∧ Kept (fun _ => False) w2 ((w2.alloc (.cells ZH 30)).setRow w2.heap.size C) := fun C => by
            rw [World.setRow_alloc_new]
            exact ⟨Has.new w2 _ _, (Kept.refl _ _).alloc _⟩
          have hcp1 := hcp.kept hk1 (fun k e e2 => by have := HOL.out k e; omega) (fun k e e2 => by have := HNL.out k e; omega) (fun k e => by rw [e]; exact HWR.out)
          obtain ⟨L, hL⟩ : ∃ L, L = bcells key := ⟨_, rfl⟩
          have hLl : L.length = 32 := by rw [hL, bcells_length, hkh.1]
          have szk : (Tryd.prog.info? 30).map (·.size) = some L.toArray.size := by rw [List.size_toArray, hLl]; kernel_rfl
          have hone : L.toArray.all (·.oneCell') = true := by rw [hL]; exact all_oneCell_toArray (bcells_oneC key)
          have hzL : ZH.size = L.toArray.size := by rw [hzhs, List.size_toArray, hLl]
          unfold arr at hnx hen
          rw [← hL] at hnx hen
          have HNW := Lib.hid hnw
          have HCP1 := Lib.hid hcp1
          have HIT1 := Lib.hid hit1
          have HLT1 := Lib.hid hlt1
          have HKH := Lib.hid hkh
          have HL := Lib.hid hL
          have SZK := Lib.hid szk
          have HONE := Lib.hid hone
          have HZL := Lib.hid hzL
          have HMEM := Lib.hid hmem
          have HCO := Lib.hid hco
          have HND := Lib.hid hit.nodup.2.1
          have HSZ1 := Lib.hid (show r < w2.heap.size by rw [hsz1]; exact hr)
          clear hnw hcp1 hit1 hlt1 hkh hL szk hone hzL hmem hnd hk1 hsz1 hit hcp hco hr hrun hLl c c'
          go_upto_region 10 with (refine wpList_store_row rfl 30 (.tmp 5) (.tmp 27) rfl w2.heap.size L.toArray rfl rfl 30 ZH (heap_alloc_new w2 _) SZK.out HZL.out HONE.out ?_)
          obtain ⟨h9, hk9⟩ := HNW.out L.toArray
          generalize (w2.alloc (.cells ZH 30)).setRow w2.heap.size L.toArray = W5 at h9 hk9 ⊢
          have hit5 := HIT1.out.kept hk9 (fun h => h) (fun h => h)
          have hlf5 := HIT1.out.left_kept hk9 (fun h => h) (fun h => h)
          have hcp5 := HCP1.out.kept hk9 (fun _ _ h => h) (fun _ _ h => h) (fun _ h => h.elim)
          have hr5 : r < W5.heap.size := Nat.lt_of_lt_of_le HSZ1.out hk9.size
          obtain ⟨mm, c5, hm5, hmm5⟩ := hcp5.dst.sided (k : Int) HKS.out
          obtain rfl : mm = m' := hmm5.trans HMM.out.2.symm
          rw [Int.toNat_natCast] at c5
          rw [put_side cb HKS.out] at hm5
          obtain ⟨w3, q3, hm3, hk3⟩ := update_is (T := 28) Tryd.underlying28 hm5.drew HKH.out vv
          unfold arr at q3
          rw [← HL.out] at q3
          obtain ⟨hf1, hf2⟩ := HF.out
          obtain ⟨hml, hmg⟩ := HML.out
          have hGm : w2.heap.size ≠ mm := by
            have := HNL.out mm (by rw [HMM.out.2]; split; exact .inr (.inl rfl); exact .inr (.inr (.inl rfl)))
            have := HSZ1.out
            omega
          have rd : W5.drew.rangeAt w2.heap.size 0 L := h9.range
          have cd : W5.drew.cell? ⟨g', k, none⟩ = some (.map (some mm)) := c5
          have r3 := rangeAt_kept rd hk3 hGm
          have e3 := cell_held hk3 cd hf2
          have hk3' := hk3.undrew
          have hend : ∃ done la, Iter w3 m r (b.side k) done ∧ CopyAt w g m0 m1 v b g' m0' m1' v' (cb.put k la) w3 ∧ Copied (b.side k) la done ∧ r < w3.heap.size := by
            have hrm : r ≠ mm := by
              have := HNL.out mm (by rw [HMM.out.2]; split; exact .inr (.inl rfl); exact .inr (.inr (.inl rfl)))
              omega
            refine ⟨_, putL la key vv, hit5.kept hk3' (fun e => by omega) hrm, ⟨hcp5.src.kept hk3' (fun j hj e => by have := HOLD.out j hj; omega), ?_, hcp5.bel.trans (hk3'.below hcp5.bel.size (fun j e => by omega)), (put_offers _ _ _).trans ((put_offers _ _ _).symm.trans hcp5.off), (put_k _ _ _).1.trans ((put_k _ _ _).1.symm.trans hcp5.k0), (put_k _ _ _).2.trans ((put_k _ _ _).2.symm.trans hcp5.k1)⟩, HCO.out.step HND.out HMEM.out, Nat.lt_of_lt_of_le hr5 hk3'.size⟩
            have := hcp5.dst.put (k : Int) HKS.out mm HMM.out.2 (putL la key vv) hm3 hk3' hf1 hf2
            rw [put_put cb HKS.out] at this
            exact this
          have hmea : w3.rangeLeft m r < wr.rangeLeft m r := by
            have hrm : r ≠ mm := by
              have := HNL.out mm (by rw [HMM.out.2]; split; exact .inr (.inl rfl); exact .inr (.inr (.inl rfl)))
              omega
            rw [hit5.left_kept hk3' (fun e => by omega) hrm, hlf5]
            exact HLT1.out
          have HEND := Lib.hid hend
          have HMEA := Lib.hid hmea
          have hu30 := hash_under
          have szl : (Tryd.prog.info? 30).map (·.size) = some L.length := by rw [← List.size_toArray]; exact SZK.out
          generalize w2.heap.size = G5 at rd r3 ⊢
          clear hend hmea hit5 hlf5 hcp5 hm5 hmm5 hm3 hk3 hk3' hf1 hf2 hml hmg hGm h9 hk9 hr5 c5 hnx hen
          clear hdt
          have hk0i : (0 : Int) ≤ (k : Int) := by omega
          have hk1i : (k : Int) < 2 := by omega
          have hk2i : (k : Int) < (2 : Nat) := by omega
          have hk3i : ((k : Int)).toNat = k := by omega
          go_region_held3 (fun w' => w'.cell? ⟨g', k, none⟩ = some (.map (some mm)) ∧ w'.rangeAt G5 0 L) (first | exact ⟨cd, rd⟩ | exact ⟨e3, r3⟩) (fail)
          all_goals
            go_wp2
            go_roundw
            case rel =>
              obtain ⟨dn, lb, e1, e2, e3, e4⟩ := HEND.out
              exact ⟨dn, lb, e1, e2, e3, e4⟩
            case measure => exact HMEA.out
    · have hk2 : k = 2 := by omega
      subst hk2
      have hcl := clone_off wr v b.offers HB.out.off HB.out.len HC.out.src.row
      have HCL := Lib.hid hcl
      have c2 : wr.cell? ⟨g, 2, none⟩ = some v := HC.out.src.obj.cell_is rfl
      clear hcl hlt
      go_wp2_with fail
      refine HCL.out.mono ?_
      rintro _ w6 ⟨v6, rfl, hown6, hb6⟩
      obtain ⟨va, vn, vc, rfl⟩ : ∃ va vn vc, v6 = .slice va vn vc := by
        rcases hown6.2 with ⟨rfl, _⟩ | ⟨g2, cap, cur, rfl, _⟩
        · exact ⟨_, _, _, rfl⟩
        · exact ⟨_, _, _, rfl⟩
      have hk6 : Kept (fun _ => False) wr w6 := Kept.of_below hb6
      have hd6 := HC.out.dst.kept hk6 (fun _ _ h => h)
      have d2 : w6.cell? ⟨g', 2, none⟩ = some v' := hd6.obj.cell_is rfl
      have f2 : w6.frozen? ⟨g', 2, none⟩ = false := hd6.obj.free 2
      obtain ⟨hat, hkk⟩ := hd6.relaid (Kept.refl _ w6) b.offers (own_base hown6 (Nat.zero_le _))
      have hbel : Below w.heap.size w (w6.setCell ⟨g', 2, none⟩ (.slice va vn vc)) := (HC.out.bel.trans (hb6.mono HC.out.bel.size)).trans (hkk.below (Nat.le_trans HC.out.bel.size hb6.size) HNEW.out)
      have hlv : Lv (fun k => w.heap.size ≤ k) (w6.setCell ⟨g', 2, none⟩ (.slice va vn vc)) g' { cb with offers := b.offers } := ⟨m0', m1', .slice va vn vc, hat, fun j e => by
        rcases e with e | e | e | e
        · exact HNEW.out j (.inl e)
        · exact HNEW.out j (.inr (.inl e))
        · exact HNEW.out j (.inr (.inr (.inl e)))
        · rcases hown6.2 with ⟨e2, _⟩ | ⟨g2, cap, cur, e2, hg2, _⟩
          · rw [e2] at e; simp [Value.ownBlock] at e
          · rw [e2] at e
            simp [Value.ownBlock] at e
            have := HC.out.bel.size
            omega⟩
      have heq : BkEqv b { cb with offers := b.offers } := ⟨(HSD.out 0 (by decide)).1 (by decide), (HSD.out 1 (by decide)).1 (by decide), rfl, HC.out.k0, HC.out.k1⟩
      have HE := Lib.hid (And.intro hlv (And.intro heq hbel))
      clear hk6 hd6 hat hkk hbel hlv heq hown6 hb6 c2
      go_wp2
      go_ret
      exact ⟨g', _, rfl, HE.out⟩
end Go.Proofs.YtnddejgglbdkmaaDoor
