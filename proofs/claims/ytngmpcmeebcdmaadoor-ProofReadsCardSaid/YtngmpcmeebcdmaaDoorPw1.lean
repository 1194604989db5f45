/- The walk of ProofWrites. -/
import Derived.Test.YtngmpcmeebcdmaaDoorRsm
import Derived.Test.YtngmpcmeebcdmaaDoorDec1
import Derived.Test.YtngmpcmeebcdmaaDoorRp1
import Derived.Test.YtngmpcmeebcdmaaDoorPf8
import Derived.Test.YtngmpcmeebcdmaaDoorSameO
import Derived.Test.YtngmpcmeebcdmaaDoorOpenR
namespace Go.Proofs.YtngmpcmeebcdmaaDoor
set_option linter.unusedVariables false
set_option linter.unusedSimpArgs false
open Go.ChangeShapes Go.WideShapes Go.ChangeAt Go.RowKit Go.Maps

theorem field_bare (f : Nat → Bool) (a : Option Addr) (n c : Nat) (w : World) : (Instr.field 74 (.agg (rpcells f a n c).toArray) 0).run Tryd.prog w = .ok (.agg (blist f).toArray) w := by
  have h := part_agg (P := Tryd.prog) Tryd.underlying71 (k := 256) (by kernel_rfl) (rpcells f a n c).toArray 0 w
  have e : (rpcells f a n c).toArray.extract 0 (0 + 256) = (blist f).toArray := by
    rw [extract_list, List.drop_zero, rpcells, List.take_append_of_le_length (by rw [blist_len]; exact Nat.le_refl _), List.take_of_length_le (by rw [blist_len]; exact Nat.le_refl _)]
  rw [e] at h
  unfold Instr.field
  rw [Sem.run_bind, run_underlying Tryd.underlying74, Result.andThen_ok]
  exact h
theorem index_bare (f : Nat → Bool) (k : Nat) (hk : k < 256) (w : World) : (Instr.index 71 (.agg (blist f).toArray) (.int .i64 (k : Int))).run Tryd.prog w = .ok (.bool (f k)) w := by
  obtain ⟨i0, hi, -⟩ := info_parts (show (Tryd.prog.info? 4).map (fun i => (i.zero, i.size, i.bytes)) = some (some (.bool false), 1, 1) by kernel_rfl)
  exact index_row Tryd.underlying71 i0 hi (by kernel_rfl) (by kernel_rfl) hk (by rw [List.getElem?_toArray]; exact blist_get f k hk) w
theorem dec_said {bb : List Nat} (hbb : bb.length = 32) {xs : List Nd} (hh : ∀ x ∈ xs, IsHash x.h) (hs : ∀ x ∈ xs, x.s < 18446744073709551616) :
    (xs.length < cntF (bareB bb) 256 → decE (pbytes bb xs) = 20) ∧ (cntF (bareB bb) 256 < xs.length → decE (pbytes bb xs) = 24) ∧ (cntF (bareB bb) 256 = xs.length → decE (pbytes bb xs) = 0 ∧ decB (pbytes bb xs) = bb ∧ decX (pbytes bb xs) = xs) := by
  have h := dec_written hbb hh hs
  refine ⟨fun e => ?_, fun e => ?_, fun e => ?_⟩
  · rw [if_pos e] at h; exact (dec_err h).1
  · rw [if_neg (by omega), if_pos e] at h; exact (dec_err h).1
  · rw [if_neg (by omega), if_neg (by omega)] at h
    obtain ⟨h1, h2, h3⟩ := dec_okE h
    exact ⟨h1, by rw [h2, pbytes_head hbb], h3⟩
theorem decB_hash {bs : List Nat} (hb : ∀ x ∈ bs, x < 256) (h : bs.length < 32 → False) : IsHash (decB bs) := by
  unfold decB
  split
  · exact zNd_hash
  · have h2 : ¬ bs.length < 32 := h
    exact ⟨by rw [List.length_take]; omega, fun x hx => hb x (List.mem_of_mem_take hx)⟩
set_option maxRecDepth 100000 in
set_option maxHeartbeats 8000000 in
theorem writes_walk (K s0 : List Wd) (w : World) (hT : Tabs K s0 w) (bb : List Nat) (hbb : IsHash bb) (a : Option Addr) (n c : Nat) (xs : List Nd) (hxs : NodesAt w a n xs) (hnm : n ≤ 9223372036854775807) :
    Calls Tryd.prog 8 #[.agg (pcells bb a n c).toArray] w fun e w' => e = .returned (.bool true) ∧ Below w.heap.size w w' := by
  obtain ⟨Zp, hzp, hbp, hZps, hZpn, -⟩ := zero_proofC
  have hlow := hT.low
  have hhead := fun W (hW : Below w.heap.size w W) => headP_is K s0 W (hT.below hW hlow)
  have SZP := Lib.hid (show ∀ (bb : List Nat), IsHash bb → ∀ (a : Option Addr) (n c : Nat), (Tryd.prog.info? 56).map (·.size) = some (pcells bb a n c).toArray.size ∧ Zp.size = (pcells bb a n c).toArray.size from fun bb hb a n c => by rw [List.size_toArray, pcells_len hb, hZps]; exact ⟨by kernel_rfl, rfl⟩)
  obtain ⟨LP, hLP⟩ : ∃ L, L = pcells bb a n c := ⟨_, rfl⟩
  have hrow : LP[32]? = some (.slice a n c) := by rw [hLP]; exact pcells_row hbb a n c
  have SZL := Lib.hid (show (Tryd.prog.info? 56).map (·.size) = some LP.toArray.size by rw [hLP]; exact (SZP.out bb hbb a n c).1)
  have SZLL := Lib.hid (show (Tryd.prog.info? 56).map (·.size) = some LP.length by rw [← List.size_toArray]; exact SZL.out)
  rw [← hLP]
  have ELP := Lib.hid hLP
  have HHEAD := Lib.hid hhead
  have h1 := Has.new w 56 LP.toArray
  have hb1 : Below w.heap.size w (w.alloc (.cells LP.toArray 56)) := (Below.refl _ _).alloc (Nat.le_refl _) _
  have HXS := Lib.hid hxs
  have HBB := Lib.hid hbb
  have HROW := Lib.hid hrow
  have H1 := Lib.hid h1
  have HB1 := Lib.hid hb1
  clear hhead hxs hbb hrow h1 hb1 hLP hZps hbp
  by_cases hn : n > 300
  · have hn' : (n : Int) > 300 := by omega
    go_enter Tryd.func8, Tryd.ntmps8
    go_upto_region 1 with (fail)
    generalize w.alloc (.cells LP.toArray 56) = W1 at H1 HB1 ⊢
    generalize w.heap.size = B1 at H1 ⊢
    go_wp2_with fail
    refine (HHEAD.out _ HB1.out).mono ?_
    rintro _ w2 ⟨rfl, hb2⟩
    have c32 := (H1.out.below hb2 H1.out.lt).cell_is (i := 32) (by rw [List.getElem?_toArray]; exact HROW.out)
    have HF := Lib.hid (HB1.out.trans (hb2.mono HB1.out.size))
    clear hb2 hn
    go_wp2_with fail
    go_ret
    exact ⟨rfl, HF.out⟩
  have hn' : ¬ (n : Int) > 300 := by omega
  have hn3 : n ≤ 300 := by omega
  go_enter Tryd.func8, Tryd.ntmps8
  go_upto_region 1 with (fail)
  generalize w.alloc (.cells LP.toArray 56) = W1 at H1 HB1 ⊢
  obtain ⟨B1, hB1⟩ : ∃ b, b = w.heap.size := ⟨_, rfl⟩
  rw [← hB1] at H1 ⊢
  clear hB1
  go_wp2_with fail
  refine (HHEAD.out _ HB1.out).mono ?_
  rintro _ w2 ⟨rfl, hb2⟩
  have H2 := Lib.hid (H1.out.below hb2 H1.out.lt)
  have HB2 := Lib.hid (HB1.out.trans (hb2.mono HB1.out.size))
  clear hb2 HHEAD H1 HB1
  have c32 := H2.out.cell_is (i := 32) (by rw [List.getElem?_toArray]; exact HROW.out)
  go_wp2_with (refine wpList_load_row rfl 56 (.tmp 1) rfl B1 rfl 56 LP.toArray (0, 0) _ H2.out Tryd.underlying56 rfl SZL.out ?_)
  rw [ELP.out]
  refine (encode_is w2 bb HBB.out a n c xs (HXS.out.below HB2.out) (by omega)).mono ?_
  rintro _ w3 ⟨oa, oc, rfl, hown3, hb3⟩
  rw [← ELP.out]
  have H3 := Lib.hid (H2.out.below hb3 H2.out.lt)
  have HB3 := Lib.hid (HB2.out.trans (hb3.mono HB2.out.size))
  have hpl : (pbytes bb xs).length = 32 + 40 * n := by rw [pbytes_len HBB.out.1 _ HXS.out.hash, HXS.out.len]
  have HY3 := Lib.hid (own_bytes hown3 hpl (pbytes_lt HBB.out _ HXS.out.hash) (Nat.le_refl _))
  have HPL := Lib.hid hpl
  clear hb3 hown3 hpl c32 H2
  go_wp2_with (refine wpList_load_row rfl 56 (.tmp 1) rfl B1 rfl 56 LP.toArray (0, 0) _ H3.out Tryd.underlying56 rfl SZL.out ?_)
  rw [ELP.out]
  refine (plainP_is w3 bb HBB.out a n c xs (HXS.out.below HB3.out) (by omega)).mono ?_
  rintro _ w4 ⟨ra, rc, rfl, hnod4, hnew4, hb4⟩
  rw [← ELP.out]
  go_wp2_with fail
  refine (rbytes_is w4 bb HBB.out ra n rc xs hnod4 (by omega)).mono ?_
  rintro _ w5 ⟨ob, od, rfl, hy5, hb5⟩
  have hb35 := hb4.trans (hb5.mono hb4.size)
  have H5 := Lib.hid (H3.out.below hb35 H3.out.lt)
  have HB5 := Lib.hid (HB3.out.trans (hb35.mono HB3.out.size))
  have HY5 := Lib.hid (HY3.out.alive hb35 hb35.size)
  have HZ5 := Lib.hid hy5
  clear hb4 hb5 hb35 hnod4 hnew4 hy5 HY3 H3 HB3
  go_wp2_with fail
  refine (same_is w5 _ _ _ _ HY5.out HZ5.out).mono ?_
  rintro _ w6 ⟨rfl, rfl⟩
  rw [decide_eq_true (rfl : pbytes bb xs = pbytes bb xs)]
  clear HZ5
  go_upto_region 9 with (fail)
  go_wp2_with (refine wpList_load_row rfl 56 (.tmp 1) rfl B1 rfl 56 LP.toArray (0, 0) _ H5.out Tryd.underlying56 rfl SZL.out ?_)
  rw [ELP.out]
  refine (plainP_is w6 bb HBB.out a n c xs (HXS.out.below HB5.out) (by omega)).mono ?_
  rintro _ w7 ⟨rb, rd, rfl, hnod7, hnew7, hb7⟩
  rw [← ELP.out]
  have H7 := Lib.hid (H5.out.below hb7 H5.out.lt)
  have HB7 := Lib.hid (HB5.out.trans (hb7.mono HB5.out.size))
  have HY7 := Lib.hid (HY5.out.alive hb7 hb7.size)
  have hfld := field_bare (bareB bb) rb n rd
  have HIX := Lib.hid (index_bare (bareB bb))
  obtain ⟨LR, hLR⟩ : ∃ l, l = rpcells (bareB bb) rb n rd := ⟨_, rfl⟩
  obtain ⟨LB, hLB⟩ : ∃ l, l = blist (bareB bb) := ⟨_, rfl⟩
  rw [← hLR, ← hLB] at hfld
  rw [← hLB] at HIX
  rw [← hLR]
  clear hb7 hnod7 hnew7 hLR hLB H5 HB5 HY5
  go_wp2_with fail
  clear hfld
  go_loopw [4, 26] (fun nv iv wr => ∃ h m : Nat, iv = .int .i64 (h : Int) ∧ nv = .int .i64 (m : Int) ∧ h ≤ 256 ∧ m = cntF (bareB bb) h ∧ Below w7.heap.size w7 wr) (fun _ iv _ => 256 - (intOf iv).toNat)
  case atStart => exact ⟨0, 0, rfl, rfl, Nat.zero_le _, rfl, Below.refl _ _⟩
  case round =>
    obtain ⟨h, m, rfl, rfl, hh, hm, hbr⟩ := hrel
    have HBR := Lib.hid hbr
    have HM := Lib.hid hm
    have hm256 : m ≤ 256 := by rw [hm]; exact Nat.le_trans (cnt_le _ _) hh
    clear hbr hm
    by_cases hlt : h < 256
    · have hlt' : (h : Int) < 256 := by omega
      have hix := HIX.out h hlt
      obtain ⟨bt, hbt⟩ : ∃ b, b = bareB bb h := ⟨_, rfl⟩
      rw [← hbt] at hix
      have HBT := Lib.hid hbt
      clear hbt
      cases bt with
      | true =>
        go_wp2_with fail
        go_roundw
        case rel => exact ⟨h + 1, m, by go_num, rfl, by omega, by rw [cnt_bare HBT.out.symm]; exact HM.out, HBR.out⟩
        case measure => simp [intOf]; omega
      | false =>
        go_wp2_with fail
        go_roundw
        case rel => exact ⟨h + 1, m + 1, by go_num, by go_num, by omega, by rw [cnt_node HBT.out.symm, ← HM.out], HBR.out⟩
        case measure => simp [intOf]; omega
    · obtain rfl : h = 256 := by omega
      have hlt' : ¬ ((256 : Nat) : Int) < 256 := by omega
      have H8 := Lib.hid (H7.out.below HBR.out H7.out.lt)
      have HB8 := Lib.hid (HB7.out.trans (HBR.out.mono HB7.out.size))
      have HY8 := Lib.hid (HY7.out.alive HBR.out HBR.out.size)
      have HDS := Lib.hid (dec_said HBB.out.1 HXS.out.hash HXS.out.fits)
      have HXL := Lib.hid HXS.out.len
      obtain ⟨wv, hwv⟩ : ∃ x, x = wr := ⟨_, rfl⟩
      subst hwv
      clear H7 HB7 HY7 HBR hlt
      go_wp2_with fail
      refine (decode_is wv _ _ HY8.out (by rw [HPL.out]; omega)).mono ?_
      rintro _ w9 ⟨da, dc, rfl, hnod9, hnew9, hb9⟩
      obtain ⟨db, hdb⟩ : ∃ l, l = decB (pbytes bb xs) := ⟨_, rfl⟩
      obtain ⟨de, hde⟩ : ∃ l, l = decE (pbytes bb xs) := ⟨_, rfl⟩
      obtain ⟨dx, hdx⟩ : ∃ l, l = decX (pbytes bb xs) := ⟨_, rfl⟩
      have hdh : IsHash db := by
        rw [hdb]
        exact decB_hash (pbytes_lt HBB.out _ HXS.out.hash) (by rw [HPL.out]; omega)
      have hds := HDS.out
      rw [← HM.out, HXL.out, ← hdb, ← hde, ← hdx] at hds
      rw [← hdx] at hnod9
      rw [← hdb, ← hde, ← hdx]
      have HDS2 := Lib.hid hds
      have HDH := Lib.hid hdh
      obtain ⟨LD, hLD⟩ : ∃ l, l = pcells db da dx.length dc := ⟨_, rfl⟩
      have ELD := Lib.hid hLD
      have HSZ := Lib.hid (show (Tryd.prog.info? 56).map (·.size) = some LD.toArray.size ∧ Zp.size = LD.toArray.size by rw [hLD]; exact SZP.out db hdh da dx.length dc)
      have HONE := Lib.hid (show LD.toArray.all (·.oneCell') = true by rw [hLD]; exact pcells_one _ _ _ _)
      have hnw : Has ((w9.alloc (.cells Zp 56)).setRow w9.heap.size LD.toArray) w9.heap.size 56 LD.toArray ∧ Below w9.heap.size w9 ((w9.alloc (.cells Zp 56)).setRow w9.heap.size LD.toArray) := by
        rw [World.setRow_alloc_new]
        exact ⟨Has.new _ _ _, (Below.refl _ _).alloc (Nat.le_refl _) _⟩
      have HNW := Lib.hid hnw
      have HND := Lib.hid hnod9
      have hb8 := hb9.trans (hnw.2.mono hb9.size)
      have H10 := Lib.hid (H8.out.below hb8 H8.out.lt)
      have HB10 := Lib.hid (HB8.out.trans (hb8.mono HB8.out.size))
      rw [← hLD]
      clear hnw hnod9 hnew9 hds hdh hdb hde hdx hLD hb8 hb9 HDS HY8 H8 HB8
      go_upto_region 16 with (refine wpList_store_row rfl 56 (.tmp 7) (.tmp 37) rfl w9.heap.size LD.toArray rfl rfl 56 Zp (heap_alloc_new w9 _) HSZ.out.1 HSZ.out.2 HONE.out ?_)
      have HND10 := Lib.hid (HND.out.below HNW.out.2)
      generalize (w9.alloc (.cells Zp 56)).setRow w9.heap.size LD.toArray = W10 at HNW H10 HB10 HND10 ⊢
      generalize w9.heap.size = B7 at HNW ⊢
      have H7 := Lib.hid HNW.out.1
      clear HNW HND
      have c32 := H10.out.cell_is (i := 32) (by rw [List.getElem?_toArray]; exact HROW.out)
      by_cases hm1 : m > n
      · have hm1' : (m : Int) > (n : Int) := by omega
        obtain rfl : de = 20 := HDS2.out.1 (by omega)
        clear hm1
        go_wp2_with fail
        go_ret
        exact ⟨rfl, HB10.out⟩
      · have hm1' : ¬ (m : Int) > (n : Int) := by omega
        by_cases hm2 : m < n
        · have hm2' : (m : Int) < (n : Int) := by omega
          obtain rfl : de = 24 := HDS2.out.2.1 (by omega)
          clear hm1 hm2
          go_wp2_with fail
          go_ret
          exact ⟨rfl, HB10.out⟩
        · have hm2' : ¬ (m : Int) < (n : Int) := by omega
          obtain ⟨rfl, rfl, rfl⟩ := HDS2.out.2.2 (by omega)
          clear hm1 hm2
          go_upto_region 20 with (fail)
          have HXN := Lib.hid HXS.out.len
          have HRP := Lib.hid (show ∀ V, Below W10.heap.size W10 V → V.rangeAt B1 0 LP ∧ V.rangeAt B7 0 LD from fun V hV => ⟨(H10.out.below hV H10.out.lt).row0, (H7.out.below hV H7.out.lt).row0⟩)
          have HSZ2 := Lib.hid (show (Tryd.prog.info? 56).map (·.size) = some LD.length by rw [← List.size_toArray]; exact HSZ.out.1)
          have hS0 : Below W10.heap.size W10 W10.drew := (Below.refl _ _).drew
          clear c32 H7 H10 hm1' hm2'
          refine wp_region_noPanic ?_
          refine wp_region_held_drew (S := (fun v => Below W10.heap.size W10 v)) (by kernel_rfl) hS0 (fun hH0 => ?_)
          refine wpAnyH_take (i := 0) (v := ((.int .i64 ((0 : Nat) : Int)))) rfl (by kernel_rfl) (by kernel_rfl) (by kernel_rfl) (fun _ _ _ h => h) (Or.inl ⟨by kernel_rfl, by intro w' hS; go_simp⟩) hH0 ?_
          simp only [Act.put, List.getElem_toArray, List.getElem_cons_zero, List.getElem_cons_succ, List.setIfInBounds_toArray, List.set_cons_zero, List.set_cons_succ]
          refine wpAnyH_take (i := 1) (v := ((.bool true))) rfl (by kernel_rfl) (by kernel_rfl) (by kernel_rfl) (fun _ _ _ h => h) (Or.inl ⟨by kernel_rfl, by intro w' hS; go_simp⟩) hH0 ?_
          simp only [Act.put, List.getElem_toArray, List.getElem_cons_zero, List.getElem_cons_succ, List.setIfInBounds_toArray, List.set_cons_zero, List.set_cons_succ]
          refine wpAnyH_take (i := 2) (v := ((.bool true))) rfl (by kernel_rfl) (by kernel_rfl) (by kernel_rfl) (fun _ _ _ h => h) (Or.inl ⟨by kernel_rfl, by intro w' hS; go_simp⟩) hH0 ?_
          simp only [Act.put, List.getElem_toArray, List.getElem_cons_zero, List.getElem_cons_succ, List.setIfInBounds_toArray, List.set_cons_zero, List.set_cons_succ]
          refine wpAnyH_take (i := 3) (v := (.agg LD.toArray)) rfl (by kernel_rfl) (by kernel_rfl) (by kernel_rfl) (fun _ _ _ h => h) (yieldsIf_load_mid (by kernel_rfl) 56 (.tmp 7) rfl B7 0 rfl LD _ (fun w' h => (HRP.out _ h).2) Tryd.underlying56 rfl HSZ2.out) hH0 ?_
          simp only [Act.put, List.getElem_toArray, List.getElem_cons_zero, List.getElem_cons_succ, List.setIfInBounds_toArray, List.set_cons_zero, List.set_cons_succ]
          refine wpAnyH_take (i := 5) (v := (.agg LP.toArray)) rfl (by kernel_rfl) (by kernel_rfl) (by kernel_rfl) (fun _ _ _ h => h) (yieldsIf_load_mid (by kernel_rfl) 56 (.tmp 1) rfl B1 0 rfl LP _ (fun w' h => (HRP.out _ h).1) Tryd.underlying56 rfl SZLL.out) hH0 ?_
          simp only [Act.put, List.getElem_toArray, List.getElem_cons_zero, List.getElem_cons_succ, List.setIfInBounds_toArray, List.set_cons_zero, List.set_cons_succ]
          refine wpAnyH_ready (rs := [4]) (by kernel_rfl) (by simp) ?_
          refine AllReadyH.cons rfl (fun K hK => ?_) AllReadyH.nil
          go_simp
          rw [ELD.out]
          refine (plainP_is _ _ HDH.out da _ dc _ (HND10.out.below hH0) (by rw [HXN.out]; omega)).mono ?_
          rintro _ x4 ⟨ea, ec, rfl, hnod4, -, hc4⟩
          have HN4 := Lib.hid hnod4
          clear hnod4
          refine Shut.out hK _ _ (hH0.trans (hc4.mono hH0.size)) (fun hH1 => ?_)
          clear hK K
          try simp only [Act.put, List.getElem_toArray, List.getElem_cons_zero, List.getElem_cons_succ, List.setIfInBounds_toArray, List.set_cons_zero, List.set_cons_succ]
          refine wpAnyH_ready (rs := [6]) (by kernel_rfl) (by simp) ?_
          refine AllReadyH.cons rfl (fun K hK => ?_) AllReadyH.nil
          go_simp
          rw [ELP.out]
          refine (plainP_is _ _ HBB.out a n c _ ((HXS.out.below HB10.out).below hH1) (by omega)).mono ?_
          rintro _ x6 ⟨fa, fc, rfl, hnod6, -, hc6⟩
          have HN6 := Lib.hid hnod6
          have HN46 := Lib.hid (HN4.out.below hc6)
          clear hnod6
          refine Shut.out hK _ _ (hH1.trans (hc6.mono hH1.size)) (fun hH2 => ?_)
          clear hK K
          try simp only [Act.put, List.getElem_toArray, List.getElem_cons_zero, List.getElem_cons_succ, List.setIfInBounds_toArray, List.set_cons_zero, List.set_cons_succ]
          refine wpAnyH_ready (rs := [7]) (by kernel_rfl) (by simp) ?_
          refine AllReadyH.cons rfl (fun K hK => ?_) AllReadyH.nil
          go_simp
          rw [HXN.out]
          refine (rsame_true _ _ _ (fun _ _ => rfl) ea fa n ec fc _ (by have h46 := HN46.out; rwa [HXN.out] at h46) HN6.out (by omega)).mono ?_
          rintro _ x7 ⟨rfl, hc7⟩
          refine Shut.out hK _ _ (hH2.trans (hc7.mono hH2.size)) (fun hH3 => ?_)
          clear hK K
          try simp only [Act.put, List.getElem_toArray, List.getElem_cons_zero, List.getElem_cons_succ, List.setIfInBounds_toArray, List.set_cons_zero, List.set_cons_succ]
          refine wpAnyH_take (i := 8) (v := ((.bool true))) rfl (by kernel_rfl) (by kernel_rfl) (by kernel_rfl) (fun _ _ _ h => h) (Or.inl ⟨by kernel_rfl, by intro w' hS; go_simp⟩) hH3 ?_
          simp only [Act.put, List.getElem_toArray, List.getElem_cons_zero, List.getElem_cons_succ, List.setIfInBounds_toArray, List.set_cons_zero, List.set_cons_succ]
          refine wpAnyH_take (i := 9) (v := ((.bool true))) rfl (by kernel_rfl) (by kernel_rfl) (by kernel_rfl) (fun _ _ _ h => h) (Or.inl ⟨by kernel_rfl, by intro w' hS; go_simp⟩) hH3 ?_
          simp only [Act.put, List.getElem_toArray, List.getElem_cons_zero, List.getElem_cons_succ, List.setIfInBounds_toArray, List.set_cons_zero, List.set_cons_succ]
          refine wpAnyH_done (by kernel_rfl) ?_ _
          refine NoPanic.normal ?_
          have HF := Lib.hid (HB10.out.trans (hH3.mono HB10.out.size))
          go_wp2_with fail
          go_ret
          exact ⟨rfl, HF.out⟩
end Go.Proofs.YtngmpcmeebcdmaaDoor
