/- The walk of ProofReads. -/
import Derived.Test.YtngmpcmeebcdmaaDoorPw1
import Derived.Test.YtngmpcmeebcdmaaDoorRrd
import Derived.Test.YtngmpcmeebcdmaaDoorCopyO
namespace Go.Proofs.YtngmpcmeebcdmaaDoor
set_option linter.unusedVariables false
set_option linter.unusedSimpArgs false
open Go.ChangeShapes Go.WideShapes Go.ChangeAt Go.RowKit Go.Maps

theorem open_bytesV {H : Type} {enc : TypeId × Value → H} {P : Program} {w : World} {base base' : Nat} {spare : Nat → Bool} {held : Bool} {t e : TypeId} {v : Value} {d : DataW H} {p : List MemPlace} {r : Reach}
    (ht : P.underlying t = some (.slice e)) (he : P.underlying e = some (.int .u8)) (h1 : P.cellsOf e = 1) (hv : Value.okWide P w r base' t v) (h : DataW.Trod enc P w base spare held t v d p) :
    ∃ (A : Option Addr) (bs : List Nat) (c : Nat), v = .slice A bs.length c ∧ bs.length ≤ 9223372036854775807 ∧ Bytes w w.heap.size (.slice A bs.length c) bs := by
  obtain ⟨A, n, c, rfl⟩ := okWide_slice ht hv
  obtain ⟨m, hm⟩ := h
  obtain ⟨bs, e1, e2, e3⟩ := open_bytes (z := (d, p)) ht he h1 hm
  subst e1
  exact ⟨A, bs, c, rfl, e2, e3⟩
theorem dec_parts (bs : List Nat) : (decE bs = 0 ∧ decP bs = .ok (decX bs) ∧ decB bs = bs.take 32) ∨ (decE bs ≠ 0 ∧ decX bs = [] ∧ decB bs = List.replicate 32 0) := by
  cases h : decP bs with
  | error e =>
    obtain ⟨h1, h2, h3⟩ := dec_err h
    right
    refine ⟨?_, h3, h2⟩
    rcases decP_errs h with e1 | e1 <;> rw [h1, e1] <;> decide
  | ok xs =>
    obtain ⟨h1, h2, h3⟩ := dec_okE h
    left
    exact ⟨h1, by rw [h3], h2⟩
theorem zero_bare (w : World) : (Instr.build 27 #[]).run Tryd.prog w = .ok (.agg (bcells (List.replicate 32 0)).toArray) w := by kernel_rfl
set_option maxRecDepth 100000 in
set_option maxHeartbeats 8000000 in
theorem reads_walk (K s0 : List Wd) (w : World) (hT : Tabs K s0 w) (a : Option Addr) (bs : List Nat) (c : Nat) (hlm : bs.length ≤ 9223372036854775807) (hB : Bytes w w.heap.size (.slice a bs.length c) bs) :
    Calls Tryd.prog 9 #[.slice a bs.length c] w fun e w' => e = .returned (.bool true) ∧ Below w.heap.size w w' := by
  obtain ⟨Zp, hzp, hbp, hZps, hZpn, -⟩ := zero_proofC
  obtain ⟨Zr, hzr, hbr, hZrs, hZrn, -⟩ := zero_rproof
  have hlow := hT.low
  have hhead := fun W (hW : Below w.heap.size w W) => headP_is K s0 W (hT.below hW hlow)
  have SZP := Lib.hid (show ∀ (bb : List Nat), IsHash bb → ∀ (a : Option Addr) (n c : Nat), (Tryd.prog.info? 56).map (·.size) = some (pcells bb a n c).toArray.size ∧ Zp.size = (pcells bb a n c).toArray.size from fun bb hb a n c => by rw [List.size_toArray, pcells_len hb, hZps]; exact ⟨by kernel_rfl, rfl⟩)
  have SZR := Lib.hid (show ∀ (f : Nat → Bool) (a : Option Addr) (n c : Nat), (Tryd.prog.info? 74).map (·.size) = some (rpcells f a n c).toArray.size ∧ Zr.size = (rpcells f a n c).toArray.size from fun f a n c => by rw [List.size_toArray, rpcells_len, hZrs]; exact ⟨by kernel_rfl, rfl⟩)
  have HHEAD := Lib.hid hhead
  have HB := Lib.hid hB
  have HX := Lib.hid (show ∀ x ∈ bs, x < 256 from HB.out.opened.2.2.1)
  obtain ⟨L, hL⟩ : ∃ L, L = bs.length := ⟨_, rfl⟩
  rw [← hL] at HB hlm ⊢
  have HL := Lib.hid hL
  clear hhead hB hZps hZrs hbr hbp hL
  by_cases hn : L > 12000
  · have hn' : (L : Int) > 12000 := by omega
    go_enter Tryd.func9, Tryd.ntmps9
    go_wp2_with fail
    refine (HHEAD.out _ (Below.refl _ _)).mono ?_
    rintro _ w2 ⟨rfl, hb2⟩
    have HF := Lib.hid hb2
    clear hb2 hn
    go_wp2_with fail
    go_ret
    exact ⟨rfl, HF.out⟩
  have hn' : ¬ (L : Int) > 12000 := by omega
  go_enter Tryd.func9, Tryd.ntmps9
  go_wp2_with fail
  refine (HHEAD.out _ (Below.refl _ _)).mono ?_
  rintro _ w2 ⟨rfl, hb2⟩
  have HB2 := Lib.hid hb2
  have HY2 := Lib.hid (HB.out.alive hb2 hb2.size)
  clear hb2 HHEAD
  go_wp2_with fail
  refine (copy_is w2 _ bs HY2.out (by rw [← HL.out]; omega)).mono ?_
  rintro _ w3 ⟨⟨ma, mc, rfl, hown3⟩, hb3⟩
  have HM3 := Lib.hid (own_bytes hown3 rfl HX.out (Nat.le_refl w3.heap.size))
  have HB3 := Lib.hid (HB2.out.trans (hb3.mono HB2.out.size))
  have HY3 := Lib.hid (HY2.out.alive hb3 hb3.size)
  clear hown3 hb3 HY2 HB2
  go_wp2_with fail
  refine (decode_is w3 _ bs HM3.out (by rw [← HL.out]; omega)).mono ?_
  rintro _ w4 ⟨da, dc, rfl, hnod4, hnew4, hb4⟩
  obtain ⟨db, hdb⟩ : ∃ l, l = decB bs := ⟨_, rfl⟩
  obtain ⟨de, hde⟩ : ∃ l, l = decE bs := ⟨_, rfl⟩
  obtain ⟨dx, hdx⟩ : ∃ l, l = decX bs := ⟨_, rfl⟩
  obtain ⟨dn, hdn⟩ : ∃ l, l = dx.length := ⟨_, rfl⟩
  have hdh : IsHash db := by
    have h := dec_parts bs
    rw [← hdb] at h
    rcases h with ⟨h1, h2, h3⟩ | ⟨h1, h2, h3⟩
    · rw [h3]; exact (dec_back HX.out h2).2.1
    · rw [h3]; exact zNd_hash
  have hds := dec_parts bs
  have hdl : de < 1000 := by
    rw [hde]; unfold decE
    split
    · rename_i e he
      rcases decP_errs he with e1 | e1 <;> rw [e1] <;> decide
    · decide
  rw [← hdb, ← hde, ← hdx] at hds
  rw [← hdx, ← hdn] at hnod4
  rw [← hdb, ← hde, ← hdx, ← hdn]
  have HDS := Lib.hid hds
  have HDH := Lib.hid hdh
  have HDB := Lib.hid hdb
  have HDX := Lib.hid hdx
  have HDE := Lib.hid hde
  have HDN := Lib.hid hdn
  obtain ⟨LD, hLD⟩ : ∃ l, l = pcells db da dn dc := ⟨_, rfl⟩
  have ELD := Lib.hid hLD
  have HSZ := Lib.hid (show (Tryd.prog.info? 56).map (·.size) = some LD.toArray.size ∧ Zp.size = LD.toArray.size by rw [hLD]; exact SZP.out db hdh da dn dc)
  have HONE := Lib.hid (show LD.toArray.all (·.oneCell') = true by rw [hLD]; exact pcells_one _ _ _ _)
  have hnw : Has ((w4.alloc (.cells Zp 56)).setRow w4.heap.size LD.toArray) w4.heap.size 56 LD.toArray ∧ Below w4.heap.size w4 ((w4.alloc (.cells Zp 56)).setRow w4.heap.size LD.toArray) := by
    rw [World.setRow_alloc_new]
    exact ⟨Has.new _ _ _, (Below.refl _ _).alloc (Nat.le_refl _) _⟩
  have HND4 := Lib.hid (hnod4.below hnw.2)
  have hb5 := hb4.trans (hnw.2.mono hb4.size)
  have HB5 := Lib.hid (HB3.out.trans (hb5.mono HB3.out.size))
  have HM5 := Lib.hid (HM3.out.alive hb5 hb5.size)
  have HY5 := Lib.hid (HY3.out.alive hb5 hb5.size)
  have HNW := Lib.hid hnw
  rw [← hLD]
  clear hnw hnod4 hnew4 hds hdh hdb hde hdx hdn hLD hb4 hb5 HM3 HY3 HB3
  go_upto_region 7 with (refine wpList_store_row rfl 56 (.tmp 4) (.tmp 18) rfl w4.heap.size LD.toArray rfl rfl 56 Zp (heap_alloc_new w4 _) HSZ.out.1 HSZ.out.2 HONE.out ?_)
  generalize (w4.alloc (.cells Zp 56)).setRow w4.heap.size LD.toArray = W5 at HND4 HB5 HM5 HY5 HNW ⊢
  generalize w4.heap.size = B4 at HNW ⊢
  have H5 := Lib.hid HNW.out.1
  clear HNW
  go_wp2_with fail
  refine (rread_is W5 _ bs HY5.out (by rw [← HL.out]; omega)).mono ?_
  rintro _ w6 ⟨ra, rc, rfl, hnod6, hnew6, hb6⟩
  rw [← HDX.out, ← HDN.out] at hnod6
  rw [← HDB.out, ← HDE.out, ← HDX.out, ← HDN.out]
  obtain ⟨LR, hLR⟩ : ∃ l, l = rpcells (bareB db) ra dn rc := ⟨_, rfl⟩
  have ELR := Lib.hid hLR
  have HSR := Lib.hid (show (Tryd.prog.info? 74).map (·.size) = some LR.toArray.size ∧ Zr.size = LR.toArray.size by rw [hLR]; exact SZR.out (bareB db) ra dn rc)
  have HONR := Lib.hid (show LR.toArray.all (·.oneCell') = true by rw [hLR]; exact rpcells_one _ _ _ _)
  have hnw : Has ((w6.alloc (.cells Zr 74)).setRow w6.heap.size LR.toArray) w6.heap.size 74 LR.toArray ∧ Below w6.heap.size w6 ((w6.alloc (.cells Zr 74)).setRow w6.heap.size LR.toArray) := by
    rw [World.setRow_alloc_new]
    exact ⟨Has.new _ _ _, (Below.refl _ _).alloc (Nat.le_refl _) _⟩
  have hb7 := hb6.trans (hnw.2.mono hb6.size)
  have HNR := Lib.hid (hnod6.below hnw.2)
  have HND := Lib.hid (HND4.out.below hb7)
  have H7 := Lib.hid (H5.out.below hb7 H5.out.lt)
  have HB7 := Lib.hid (HB5.out.trans (hb7.mono HB5.out.size))
  have HM7 := Lib.hid (HM5.out.alive hb7 hb7.size)
  have HY7 := Lib.hid (HY5.out.alive hb7 hb7.size)
  have HNW := Lib.hid hnw
  rw [← hLR]
  clear hnw hnod6 hnew6 hLR hb6 hb7 HM5 HY5 HB5 H5 HND4
  go_upto_region 8 with (refine wpList_store_row rfl 74 (.tmp 6) (.tmp 23) rfl w6.heap.size LR.toArray rfl rfl 74 Zr (heap_alloc_new w6 _) HSR.out.1 HSR.out.2 HONR.out ?_)
  generalize (w6.alloc (.cells Zr 74)).setRow w6.heap.size LR.toArray = W7 at HNR HND H7 HB7 HM7 HY7 HNW ⊢
  generalize w6.heap.size = B6 at HNW ⊢
  have HR7 := Lib.hid HNW.out.1
  clear HNW
  have HRP := Lib.hid (show ∀ V, Below W7.heap.size W7 V → V.rangeAt B4 0 LD ∧ V.rangeAt B6 0 LR from fun V hV => ⟨(H7.out.below hV H7.out.lt).row0, (HR7.out.below hV HR7.out.lt).row0⟩)
  have HSZ2 := Lib.hid (show (Tryd.prog.info? 56).map (·.size) = some LD.length by rw [← List.size_toArray]; exact HSZ.out.1)
  have HSR2 := Lib.hid (show (Tryd.prog.info? 74).map (·.size) = some LR.length by rw [← List.size_toArray]; exact HSR.out.1)
  have hS0 : Below W7.heap.size W7 W7.drew := (Below.refl _ _).drew
  by_cases hd0 : de = 0
  · subst hd0
    have hok : decP bs = .ok dx ∧ db = bs.take 32 := by
      rcases HDS.out with ⟨h1, h2, h3⟩ | ⟨h1, h2, h3⟩
      · exact ⟨h2, h3⟩
      · exact absurd rfl h1
    obtain ⟨q1, q2, q3, q4⟩ := dec_back HX.out hok.1
    rw [← hok.2] at q1
    have HQ1 := Lib.hid q1
    have HDN2 := Lib.hid (show dn ≤ 1000 by
      have h1 := pbytes_len HDH.out.1 dx (fun x hx => (q3 x hx).1)
      rw [q1, ← HL.out, ← HDN.out] at h1; omega)
    clear hok q1 q2 q3 q4 hlm
    refine wp_region_noPanic ?_
    refine wp_region_held_drew (S := (fun v => Below W7.heap.size W7 v)) (by kernel_rfl) hS0 (fun hH0 => ?_)
    refine wpAnyH_take (i := 0) (v := ((.int .i64 ((0 : Nat) : Int)))) rfl (by kernel_rfl) (by kernel_rfl) (by kernel_rfl) (fun _ _ _ h => h) (Or.inl ⟨by kernel_rfl, by intro w' hS; go_simp⟩) hH0 ?_
    simp only [Act.put, List.getElem_toArray, List.getElem_cons_zero, List.getElem_cons_succ, List.setIfInBounds_toArray, List.set_cons_zero, List.set_cons_succ]
    refine wpAnyH_take (i := 1) (v := ((.int .i64 ((0 : Nat) : Int)))) rfl (by kernel_rfl) (by kernel_rfl) (by kernel_rfl) (fun _ _ _ h => h) (Or.inl ⟨by kernel_rfl, by intro w' hS; go_simp⟩) hH0 ?_
    simp only [Act.put, List.getElem_toArray, List.getElem_cons_zero, List.getElem_cons_succ, List.setIfInBounds_toArray, List.set_cons_zero, List.set_cons_succ]
    refine wpAnyH_take (i := 2) (v := ((.bool false))) rfl (by kernel_rfl) (by kernel_rfl) (by kernel_rfl) (fun _ _ _ h => h) (Or.inl ⟨by kernel_rfl, by intro w' hS; go_simp⟩) hH0 ?_
    simp only [Act.put, List.getElem_toArray, List.getElem_cons_zero, List.getElem_cons_succ, List.setIfInBounds_toArray, List.set_cons_zero, List.set_cons_succ]
    refine wpAnyH_take (i := 3) (v := ((.bool false))) rfl (by kernel_rfl) (by kernel_rfl) (by kernel_rfl) (fun _ _ _ h => h) (Or.inl ⟨by kernel_rfl, by intro w' hS; go_simp⟩) hH0 ?_
    simp only [Act.put, List.getElem_toArray, List.getElem_cons_zero, List.getElem_cons_succ, List.setIfInBounds_toArray, List.set_cons_zero, List.set_cons_succ]
    refine wpAnyH_take (i := 4) (v := ((.int .i64 ((0 : Nat) : Int)))) rfl (by kernel_rfl) (by kernel_rfl) (by kernel_rfl) (fun _ _ _ h => h) (Or.inl ⟨by kernel_rfl, by intro w' hS; go_simp⟩) hH0 ?_
    simp only [Act.put, List.getElem_toArray, List.getElem_cons_zero, List.getElem_cons_succ, List.setIfInBounds_toArray, List.set_cons_zero, List.set_cons_succ]
    refine wpAnyH_take (i := 5) (v := ((.bool true))) rfl (by kernel_rfl) (by kernel_rfl) (by kernel_rfl) (fun _ _ _ h => h) (Or.inl ⟨by kernel_rfl, by intro w' hS; go_simp⟩) hH0 ?_
    simp only [Act.put, List.getElem_toArray, List.getElem_cons_zero, List.getElem_cons_succ, List.setIfInBounds_toArray, List.set_cons_zero, List.set_cons_succ]
    refine wpAnyH_take (i := 6) (v := ((.bool true))) rfl (by kernel_rfl) (by kernel_rfl) (by kernel_rfl) (fun _ _ _ h => h) (Or.inl ⟨by kernel_rfl, by intro w' hS; go_simp⟩) hH0 ?_
    simp only [Act.put, List.getElem_toArray, List.getElem_cons_zero, List.getElem_cons_succ, List.setIfInBounds_toArray, List.set_cons_zero, List.set_cons_succ]
    refine wpAnyH_take (i := 7) (v := (.agg LD.toArray)) rfl (by kernel_rfl) (by kernel_rfl) (by kernel_rfl) (fun _ _ _ h => h) (yieldsIf_load_mid (by kernel_rfl) 56 (.tmp 4) rfl B4 0 rfl LD _ (fun w' h => (HRP.out _ h).1) Tryd.underlying56 rfl HSZ2.out) hH0 ?_
    simp only [Act.put, List.getElem_toArray, List.getElem_cons_zero, List.getElem_cons_succ, List.setIfInBounds_toArray, List.set_cons_zero, List.set_cons_succ]
    refine wpAnyH_take (i := 9) (v := (.agg LR.toArray)) rfl (by kernel_rfl) (by kernel_rfl) (by kernel_rfl) (fun _ _ _ h => h) (yieldsIf_load_mid (by kernel_rfl) 74 (.tmp 6) rfl B6 0 rfl LR _ (fun w' h => (HRP.out _ h).2) Tryd.underlying74 rfl HSR2.out) hH0 ?_
    simp only [Act.put, List.getElem_toArray, List.getElem_cons_zero, List.getElem_cons_succ, List.setIfInBounds_toArray, List.set_cons_zero, List.set_cons_succ]
    refine wpAnyH_ready (rs := [8]) (by kernel_rfl) (by simp) ?_
    refine AllReadyH.cons rfl (fun K hK => ?_) AllReadyH.nil
    go_simp
    rw [ELD.out]
    refine (plainP_is _ _ HDH.out da _ dc _ (HND.out.below hH0) (by have := HDN2.out; omega)).mono ?_
    rintro _ x4 ⟨ea, ec, rfl, hnod4, -, hc4⟩
    have HN4 := Lib.hid hnod4
    clear hnod4
    refine Shut.out hK _ _ (hH0.trans (hc4.mono hH0.size)) (fun hH1 => ?_)
    clear hK K
    try simp only [Act.put, List.getElem_toArray, List.getElem_cons_zero, List.getElem_cons_succ, List.setIfInBounds_toArray, List.set_cons_zero, List.set_cons_succ]
    refine wpAnyH_ready (rs := [10]) (by kernel_rfl) (by simp) ?_
    refine AllReadyH.cons rfl (fun K hK => ?_) AllReadyH.nil
    go_simp
    rw [ELR.out]
    refine (rsame_true _ _ _ (fun _ _ => rfl) ea ra dn ec rc _ HN4.out (HNR.out.below hH1) (by have := HDN2.out; omega)).mono ?_
    rintro _ x7 ⟨rfl, hc7⟩
    refine Shut.out hK _ _ (hH1.trans (hc7.mono hH1.size)) (fun hH2 => ?_)
    clear hK K
    try simp only [Act.put, List.getElem_toArray, List.getElem_cons_zero, List.getElem_cons_succ, List.setIfInBounds_toArray, List.set_cons_zero, List.set_cons_succ]
    refine wpAnyH_take (i := 11) (v := ((.bool false))) rfl (by kernel_rfl) (by kernel_rfl) (by kernel_rfl) (fun _ _ _ h => h) (Or.inl ⟨by kernel_rfl, by intro w' hS; go_simp⟩) hH2 ?_
    simp only [Act.put, List.getElem_toArray, List.getElem_cons_zero, List.getElem_cons_succ, List.setIfInBounds_toArray, List.set_cons_zero, List.set_cons_succ]
    refine wpAnyH_take (i := 12) (v := ((.bool false))) rfl (by kernel_rfl) (by kernel_rfl) (by kernel_rfl) (fun _ _ _ h => h) (Or.inl ⟨by kernel_rfl, by intro w' hS; go_simp⟩) hH2 ?_
    simp only [Act.put, List.getElem_toArray, List.getElem_cons_zero, List.getElem_cons_succ, List.setIfInBounds_toArray, List.set_cons_zero, List.set_cons_succ]
    refine wpAnyH_take (i := 13) (v := ((.bool false))) rfl (by kernel_rfl) (by kernel_rfl) (by kernel_rfl) (fun _ _ _ h => h) (Or.inl ⟨by kernel_rfl, by intro w' hS; go_simp⟩) hH2 ?_
    simp only [Act.put, List.getElem_toArray, List.getElem_cons_zero, List.getElem_cons_succ, List.setIfInBounds_toArray, List.set_cons_zero, List.set_cons_succ]
    refine wpAnyH_take (i := 14) (v := ((.bool false))) rfl (by kernel_rfl) (by kernel_rfl) (by kernel_rfl) (fun _ _ _ h => h) (Or.inl ⟨by kernel_rfl, by intro w' hS; go_simp⟩) hH2 ?_
    simp only [Act.put, List.getElem_toArray, List.getElem_cons_zero, List.getElem_cons_succ, List.setIfInBounds_toArray, List.set_cons_zero, List.set_cons_succ]
    refine wpAnyH_take (i := 15) (v := ((.int .i64 ((0 : Nat) : Int)))) rfl (by kernel_rfl) (by kernel_rfl) (by kernel_rfl) (fun _ _ _ h => h) (Or.inl ⟨by kernel_rfl, by intro w' hS; go_simp⟩) hH2 ?_
    simp only [Act.put, List.getElem_toArray, List.getElem_cons_zero, List.getElem_cons_succ, List.setIfInBounds_toArray, List.set_cons_zero, List.set_cons_succ]
    refine wpAnyH_take (i := 16) (v := ((.bool false))) rfl (by kernel_rfl) (by kernel_rfl) (by kernel_rfl) (fun _ _ _ h => h) (Or.inl ⟨by kernel_rfl, by intro w' hS; go_simp⟩) hH2 ?_
    simp only [Act.put, List.getElem_toArray, List.getElem_cons_zero, List.getElem_cons_succ, List.setIfInBounds_toArray, List.set_cons_zero, List.set_cons_succ]
    refine wpAnyH_take (i := 17) (v := ((.bool false))) rfl (by kernel_rfl) (by kernel_rfl) (by kernel_rfl) (fun _ _ _ h => h) (Or.inl ⟨by kernel_rfl, by intro w' hS; go_simp⟩) hH2 ?_
    simp only [Act.put, List.getElem_toArray, List.getElem_cons_zero, List.getElem_cons_succ, List.setIfInBounds_toArray, List.set_cons_zero, List.set_cons_succ]
    refine wpAnyH_take (i := 18) (v := undef) rfl (by kernel_rfl) (by kernel_rfl) (by kernel_rfl) (fun _ _ _ h => h) (Or.inr ⟨by kernel_rfl, rfl⟩) hH2 ?_
    simp only [Act.put, List.getElem_toArray, List.getElem_cons_zero, List.getElem_cons_succ, List.setIfInBounds_toArray, List.set_cons_zero, List.set_cons_succ]
    refine wpAnyH_take (i := 19) (v := undef) rfl (by kernel_rfl) (by kernel_rfl) (by kernel_rfl) (fun _ _ _ h => h) (Or.inr ⟨by kernel_rfl, rfl⟩) hH2 ?_
    simp only [Act.put, List.getElem_toArray, List.getElem_cons_zero, List.getElem_cons_succ, List.setIfInBounds_toArray, List.set_cons_zero, List.set_cons_succ]
    refine wpAnyH_take (i := 20) (v := undef) rfl (by kernel_rfl) (by kernel_rfl) (by kernel_rfl) (fun _ _ _ h => h) (Or.inr ⟨by kernel_rfl, rfl⟩) hH2 ?_
    simp only [Act.put, List.getElem_toArray, List.getElem_cons_zero, List.getElem_cons_succ, List.setIfInBounds_toArray, List.set_cons_zero, List.set_cons_succ]
    refine wpAnyH_take (i := 21) (v := undef) rfl (by kernel_rfl) (by kernel_rfl) (by kernel_rfl) (fun _ _ _ h => h) (Or.inr ⟨by kernel_rfl, rfl⟩) hH2 ?_
    simp only [Act.put, List.getElem_toArray, List.getElem_cons_zero, List.getElem_cons_succ, List.setIfInBounds_toArray, List.set_cons_zero, List.set_cons_succ]
    refine wpAnyH_take (i := 22) (v := undef) rfl (by kernel_rfl) (by kernel_rfl) (by kernel_rfl) (fun _ _ _ h => h) (Or.inr ⟨by kernel_rfl, rfl⟩) hH2 ?_
    simp only [Act.put, List.getElem_toArray, List.getElem_cons_zero, List.getElem_cons_succ, List.setIfInBounds_toArray, List.set_cons_zero, List.set_cons_succ]
    refine wpAnyH_take (i := 23) (v := undef) rfl (by kernel_rfl) (by kernel_rfl) (by kernel_rfl) (fun _ _ _ h => h) (Or.inr ⟨by kernel_rfl, rfl⟩) hH2 ?_
    simp only [Act.put, List.getElem_toArray, List.getElem_cons_zero, List.getElem_cons_succ, List.setIfInBounds_toArray, List.set_cons_zero, List.set_cons_succ]
    refine wpAnyH_take (i := 24) (v := undef) rfl (by kernel_rfl) (by kernel_rfl) (by kernel_rfl) (fun _ _ _ h => h) (Or.inr ⟨by kernel_rfl, rfl⟩) hH2 ?_
    simp only [Act.put, List.getElem_toArray, List.getElem_cons_zero, List.getElem_cons_succ, List.setIfInBounds_toArray, List.set_cons_zero, List.set_cons_succ]
    refine wpAnyH_take (i := 25) (v := undef) rfl (by kernel_rfl) (by kernel_rfl) (by kernel_rfl) (fun _ _ _ h => h) (Or.inr ⟨by kernel_rfl, rfl⟩) hH2 ?_
    simp only [Act.put, List.getElem_toArray, List.getElem_cons_zero, List.getElem_cons_succ, List.setIfInBounds_toArray, List.set_cons_zero, List.set_cons_succ]
    refine wpAnyH_take (i := 26) (v := undef) rfl (by kernel_rfl) (by kernel_rfl) (by kernel_rfl) (fun _ _ _ h => h) (Or.inr ⟨by kernel_rfl, rfl⟩) hH2 ?_
    simp only [Act.put, List.getElem_toArray, List.getElem_cons_zero, List.getElem_cons_succ, List.setIfInBounds_toArray, List.set_cons_zero, List.set_cons_succ]
    refine wpAnyH_take (i := 27) (v := undef) rfl (by kernel_rfl) (by kernel_rfl) (by kernel_rfl) (fun _ _ _ h => h) (Or.inr ⟨by kernel_rfl, rfl⟩) hH2 ?_
    simp only [Act.put, List.getElem_toArray, List.getElem_cons_zero, List.getElem_cons_succ, List.setIfInBounds_toArray, List.set_cons_zero, List.set_cons_succ]
    refine wpAnyH_take (i := 28) (v := ((.bool false))) rfl (by kernel_rfl) (by kernel_rfl) (by kernel_rfl) (fun _ _ _ h => h) (Or.inl ⟨by kernel_rfl, by intro w' hS; go_simp⟩) hH2 ?_
    simp only [Act.put, List.getElem_toArray, List.getElem_cons_zero, List.getElem_cons_succ, List.setIfInBounds_toArray, List.set_cons_zero, List.set_cons_succ]
    refine wpAnyH_take (i := 29) (v := ((.bool false))) rfl (by kernel_rfl) (by kernel_rfl) (by kernel_rfl) (fun _ _ _ h => h) (Or.inl ⟨by kernel_rfl, by intro w' hS; go_simp⟩) hH2 ?_
    simp only [Act.put, List.getElem_toArray, List.getElem_cons_zero, List.getElem_cons_succ, List.setIfInBounds_toArray, List.set_cons_zero, List.set_cons_succ]
    refine wpAnyH_done (by kernel_rfl) ?_ _
    refine NoPanic.normal ?_
    have HBX := Lib.hid (HB7.out.trans (hH2.mono HB7.out.size))
    have hd9 := (HRP.out _ hH2).1
    have HR9 := Lib.hid hd9
    have HM9 := Lib.hid (HM7.out.alive hH2 hH2.size)
    have HY9 := Lib.hid (HY7.out.alive hH2 hH2.size)
    have HN9 := Lib.hid (HND.out.below hH2)
    clear hd9 hS0 hc4 hH0 hH1 hH2
    go_wp2_with (refine wpList_load_midG (by kernel_rfl) 56 (.tmp 4) rfl B4 0 rfl LD _ HR9.out Tryd.underlying56 rfl HSZ2.out ?_)
    rw [ELD.out]
    refine (encode_is _ db HDH.out da dn dc dx HN9.out (by have := HDN2.out; omega)).mono ?_
    rintro _ y1 ⟨oa, oc, rfl, hown, hby⟩
    rw [← ELD.out]
    have hlen : (pbytes db dx).length = 32 + 40 * dn := by rw [pbytes_len HDH.out.1 dx HN9.out.hash, HN9.out.len]
    have hyb := own_bytes hown hlen (pbytes_lt HDH.out dx HN9.out.hash) (Nat.le_refl _)
    rw [HQ1.out] at hyb
    have HYB := Lib.hid hyb
    have HMB := Lib.hid (HM9.out.alive hby hby.size)
    have HYC := Lib.hid (HY9.out.alive hby hby.size)
    have HBY := Lib.hid (HBX.out.trans (hby.mono HBX.out.size))
    clear hown hby hlen hyb
    go_wp2_with fail
    refine (same_is y1 _ _ _ _ HYB.out HYC.out).mono ?_
    rintro _ y2 ⟨rfl, rfl⟩
    rw [decide_eq_true (rfl : bs = bs)]
    go_wp2_with fail
    refine (same_is y2 _ _ _ _ HMB.out HYC.out).mono ?_
    rintro _ y3 ⟨rfl, rfl⟩
    rw [decide_eq_true (rfl : bs = bs)]
    go_wp2_with fail
    go_ret
    exact ⟨rfl, HBY.out⟩
  · obtain ⟨hx0, hb0⟩ : dx = [] ∧ db = List.replicate 32 0 := by
      rcases HDS.out with ⟨h1, h2, h3⟩ | ⟨h1, h2, h3⟩
      · exact absurd h1 hd0
      · exact ⟨h2, h3⟩
    have hd1 : ((de : Int) == 0) = false := by rw [beq_eq_false_iff_ne]; omega
    have hd2 : ((de : Int) != 0) = true := by rw [bne_iff_ne]; omega
    have hdn0 : dn = 0 := by rw [HDN.out, hx0]; rfl
    subst hdn0
    have HLD := Lib.hid (show LD = pcells (List.replicate 32 0) da 0 dc by rw [ELD.out, hb0])
    have HRB := Lib.hid (show ∀ V, Below W7.heap.size W7 V → V.rangeAt B4 0 (bcells (List.replicate 32 0)) ∧ V.cell? ⟨B4, 32, none⟩ = some (.slice da 0 dc) from fun V hV => by
      have h := H7.out.below hV H7.out.lt
      rw [HLD.out] at h
      refine ⟨fun j u hu => ?_, h.cell_is (by rw [List.getElem?_toArray]; exact pcells_row zNd_hash da 0 dc)⟩
      refine h.cell_is ?_
      rw [List.getElem?_toArray, Nat.zero_add, pcells, List.getElem?_append_left (List.getElem?_eq_some_iff.1 hu).1]
      exact hu)
    have hz32 : ∀ w, (Op.equalIn 10000 27 (.agg (bcells (List.replicate 32 0)).toArray) (.agg (bcells (List.replicate 32 0)).toArray)).run Tryd.prog w = .ok true w := fun w => by
      have := hash_eq26_at 9998 (List.replicate 32 0) (List.replicate 32 0) zNd_hash zNd_hash w
      rw [decide_eq_true rfl] at this
      exact this
    obtain ⟨Z0, hZ0⟩ : ∃ l, l = bcells (List.replicate 32 0) := ⟨_, rfl⟩
    have hzb := zero_bare
    have HSB := Lib.hid (show (Tryd.prog.info? 27).map (·.size) = some Z0.length by rw [hZ0, bcells_length]; kernel_rfl)
    rw [← hZ0] at HRB hz32 hzb
    have HD12 := Lib.hid (And.intro hd1 hd2)
    have HZ0 := Lib.hid hZ0
    clear hx0 hb0 hZ0 hlm
    refine wp_region_noPanic ?_
    refine wp_region_held_drew (S := (fun v => Below W7.heap.size W7 v)) (by kernel_rfl) hS0 (fun hH0 => ?_)
    refine wpAnyH_take (i := 0) (v := ((.int .i64 (de : Int)))) rfl (by kernel_rfl) (by kernel_rfl) (by kernel_rfl) (fun _ _ _ h => h) (Or.inl ⟨by kernel_rfl, by intro w' hS; have z0 := (HRB.out w' hS).2; go_simp⟩) hH0 ?_
    simp only [Act.put, List.getElem_toArray, List.getElem_cons_zero, List.getElem_cons_succ, List.setIfInBounds_toArray, List.set_cons_zero, List.set_cons_succ]
    refine wpAnyH_take (i := 1) (v := ((.int .i64 (de : Int)))) rfl (by kernel_rfl) (by kernel_rfl) (by kernel_rfl) (fun _ _ _ h => h) (Or.inl ⟨by kernel_rfl, by intro w' hS; have z0 := (HRB.out w' hS).2; go_simp⟩) hH0 ?_
    simp only [Act.put, List.getElem_toArray, List.getElem_cons_zero, List.getElem_cons_succ, List.setIfInBounds_toArray, List.set_cons_zero, List.set_cons_succ]
    refine wpAnyH_take (i := 2) (v := ((.bool false))) rfl (by kernel_rfl) (by kernel_rfl) (by kernel_rfl) (fun _ _ _ h => h) (Or.inl ⟨by kernel_rfl, by intro w' hS; have z0 := (HRB.out w' hS).2; go_simp⟩) hH0 ?_
    simp only [Act.put, List.getElem_toArray, List.getElem_cons_zero, List.getElem_cons_succ, List.setIfInBounds_toArray, List.set_cons_zero, List.set_cons_succ]
    refine wpAnyH_take (i := 3) (v := ((.bool false))) rfl (by kernel_rfl) (by kernel_rfl) (by kernel_rfl) (fun _ _ _ h => h) (Or.inl ⟨by kernel_rfl, by intro w' hS; have z0 := (HRB.out w' hS).2; go_simp⟩) hH0 ?_
    simp only [Act.put, List.getElem_toArray, List.getElem_cons_zero, List.getElem_cons_succ, List.setIfInBounds_toArray, List.set_cons_zero, List.set_cons_succ]
    refine wpAnyH_take (i := 4) (v := ((.int .i64 (de : Int)))) rfl (by kernel_rfl) (by kernel_rfl) (by kernel_rfl) (fun _ _ _ h => h) (Or.inl ⟨by kernel_rfl, by intro w' hS; have z0 := (HRB.out w' hS).2; go_simp⟩) hH0 ?_
    simp only [Act.put, List.getElem_toArray, List.getElem_cons_zero, List.getElem_cons_succ, List.setIfInBounds_toArray, List.set_cons_zero, List.set_cons_succ]
    refine wpAnyH_take (i := 5) (v := ((.bool false))) rfl (by kernel_rfl) (by kernel_rfl) (by kernel_rfl) (fun _ _ _ h => h) (Or.inl ⟨by kernel_rfl, by intro w' hS; have z0 := (HRB.out w' hS).2; go_simp⟩) hH0 ?_
    simp only [Act.put, List.getElem_toArray, List.getElem_cons_zero, List.getElem_cons_succ, List.setIfInBounds_toArray, List.set_cons_zero, List.set_cons_succ]
    refine wpAnyH_take (i := 6) (v := ((.bool false))) rfl (by kernel_rfl) (by kernel_rfl) (by kernel_rfl) (fun _ _ _ h => h) (Or.inl ⟨by kernel_rfl, by intro w' hS; have z0 := (HRB.out w' hS).2; go_simp⟩) hH0 ?_
    simp only [Act.put, List.getElem_toArray, List.getElem_cons_zero, List.getElem_cons_succ, List.setIfInBounds_toArray, List.set_cons_zero, List.set_cons_succ]
    refine wpAnyH_take (i := 7) (v := undef) rfl (by kernel_rfl) (by kernel_rfl) (by kernel_rfl) (fun _ _ _ h => h) (Or.inr ⟨by kernel_rfl, rfl⟩) hH0 ?_
    simp only [Act.put, List.getElem_toArray, List.getElem_cons_zero, List.getElem_cons_succ, List.setIfInBounds_toArray, List.set_cons_zero, List.set_cons_succ]
    refine wpAnyH_take (i := 8) (v := undef) rfl (by kernel_rfl) (by kernel_rfl) (by kernel_rfl) (fun _ _ _ h => h) (Or.inr ⟨by kernel_rfl, rfl⟩) hH0 ?_
    simp only [Act.put, List.getElem_toArray, List.getElem_cons_zero, List.getElem_cons_succ, List.setIfInBounds_toArray, List.set_cons_zero, List.set_cons_succ]
    refine wpAnyH_take (i := 9) (v := undef) rfl (by kernel_rfl) (by kernel_rfl) (by kernel_rfl) (fun _ _ _ h => h) (Or.inr ⟨by kernel_rfl, rfl⟩) hH0 ?_
    simp only [Act.put, List.getElem_toArray, List.getElem_cons_zero, List.getElem_cons_succ, List.setIfInBounds_toArray, List.set_cons_zero, List.set_cons_succ]
    refine wpAnyH_take (i := 10) (v := undef) rfl (by kernel_rfl) (by kernel_rfl) (by kernel_rfl) (fun _ _ _ h => h) (Or.inr ⟨by kernel_rfl, rfl⟩) hH0 ?_
    simp only [Act.put, List.getElem_toArray, List.getElem_cons_zero, List.getElem_cons_succ, List.setIfInBounds_toArray, List.set_cons_zero, List.set_cons_succ]
    refine wpAnyH_take (i := 11) (v := undef) rfl (by kernel_rfl) (by kernel_rfl) (by kernel_rfl) (fun _ _ _ h => h) (Or.inr ⟨by kernel_rfl, rfl⟩) hH0 ?_
    simp only [Act.put, List.getElem_toArray, List.getElem_cons_zero, List.getElem_cons_succ, List.setIfInBounds_toArray, List.set_cons_zero, List.set_cons_succ]
    refine wpAnyH_take (i := 12) (v := ((.bool false))) rfl (by kernel_rfl) (by kernel_rfl) (by kernel_rfl) (fun _ _ _ h => h) (Or.inl ⟨by kernel_rfl, by intro w' hS; have z0 := (HRB.out w' hS).2; go_simp⟩) hH0 ?_
    simp only [Act.put, List.getElem_toArray, List.getElem_cons_zero, List.getElem_cons_succ, List.setIfInBounds_toArray, List.set_cons_zero, List.set_cons_succ]
    refine wpAnyH_take (i := 13) (v := ((.bool false))) rfl (by kernel_rfl) (by kernel_rfl) (by kernel_rfl) (fun _ _ _ h => h) (Or.inl ⟨by kernel_rfl, by intro w' hS; have z0 := (HRB.out w' hS).2; go_simp⟩) hH0 ?_
    simp only [Act.put, List.getElem_toArray, List.getElem_cons_zero, List.getElem_cons_succ, List.setIfInBounds_toArray, List.set_cons_zero, List.set_cons_succ]
    refine wpAnyH_take (i := 14) (v := ((.bool false))) rfl (by kernel_rfl) (by kernel_rfl) (by kernel_rfl) (fun _ _ _ h => h) (Or.inl ⟨by kernel_rfl, by intro w' hS; have z0 := (HRB.out w' hS).2; go_simp⟩) hH0 ?_
    simp only [Act.put, List.getElem_toArray, List.getElem_cons_zero, List.getElem_cons_succ, List.setIfInBounds_toArray, List.set_cons_zero, List.set_cons_succ]
    refine wpAnyH_take (i := 15) (v := ((.int .i64 (de : Int)))) rfl (by kernel_rfl) (by kernel_rfl) (by kernel_rfl) (fun _ _ _ h => h) (Or.inl ⟨by kernel_rfl, by intro w' hS; have z0 := (HRB.out w' hS).2; go_simp⟩) hH0 ?_
    simp only [Act.put, List.getElem_toArray, List.getElem_cons_zero, List.getElem_cons_succ, List.setIfInBounds_toArray, List.set_cons_zero, List.set_cons_succ]
    refine wpAnyH_take (i := 16) (v := ((.bool true))) rfl (by kernel_rfl) (by kernel_rfl) (by kernel_rfl) (fun _ _ _ h => h) (Or.inl ⟨by kernel_rfl, by intro w' hS; have z0 := (HRB.out w' hS).2; go_simp⟩) hH0 ?_
    simp only [Act.put, List.getElem_toArray, List.getElem_cons_zero, List.getElem_cons_succ, List.setIfInBounds_toArray, List.set_cons_zero, List.set_cons_succ]
    refine wpAnyH_take (i := 17) (v := ((.bool true))) rfl (by kernel_rfl) (by kernel_rfl) (by kernel_rfl) (fun _ _ _ h => h) (Or.inl ⟨by kernel_rfl, by intro w' hS; have z0 := (HRB.out w' hS).2; go_simp⟩) hH0 ?_
    simp only [Act.put, List.getElem_toArray, List.getElem_cons_zero, List.getElem_cons_succ, List.setIfInBounds_toArray, List.set_cons_zero, List.set_cons_succ]
    refine wpAnyH_take (i := 18) (v := ((.pointer (some ⟨B4, 32, none⟩)))) rfl (by kernel_rfl) (by kernel_rfl) (by kernel_rfl) (fun _ _ _ h => h) (Or.inl ⟨by kernel_rfl, by intro w' hS; have z0 := (HRB.out w' hS).2; go_simp⟩) hH0 ?_
    simp only [Act.put, List.getElem_toArray, List.getElem_cons_zero, List.getElem_cons_succ, List.setIfInBounds_toArray, List.set_cons_zero, List.set_cons_succ]
    refine wpAnyH_take (i := 19) (v := ((.slice da 0 dc))) rfl (by kernel_rfl) (by kernel_rfl) (by kernel_rfl) (fun _ _ _ h => h) (Or.inl ⟨by kernel_rfl, by intro w' hS; have z0 := (HRB.out w' hS).2; go_simp⟩) hH0 ?_
    simp only [Act.put, List.getElem_toArray, List.getElem_cons_zero, List.getElem_cons_succ, List.setIfInBounds_toArray, List.set_cons_zero, List.set_cons_succ]
    refine wpAnyH_take (i := 20) (v := ((.int .i64 0))) rfl (by kernel_rfl) (by kernel_rfl) (by kernel_rfl) (fun _ _ _ h => h) (Or.inl ⟨by kernel_rfl, by intro w' hS; have z0 := (HRB.out w' hS).2; go_simp⟩) hH0 ?_
    simp only [Act.put, List.getElem_toArray, List.getElem_cons_zero, List.getElem_cons_succ, List.setIfInBounds_toArray, List.set_cons_zero, List.set_cons_succ]
    refine wpAnyH_take (i := 21) (v := ((.bool false))) rfl (by kernel_rfl) (by kernel_rfl) (by kernel_rfl) (fun _ _ _ h => h) (Or.inl ⟨by kernel_rfl, by intro w' hS; have z0 := (HRB.out w' hS).2; go_simp⟩) hH0 ?_
    simp only [Act.put, List.getElem_toArray, List.getElem_cons_zero, List.getElem_cons_succ, List.setIfInBounds_toArray, List.set_cons_zero, List.set_cons_succ]
    refine wpAnyH_take (i := 22) (v := ((.bool false))) rfl (by kernel_rfl) (by kernel_rfl) (by kernel_rfl) (fun _ _ _ h => h) (Or.inl ⟨by kernel_rfl, by intro w' hS; have z0 := (HRB.out w' hS).2; go_simp⟩) hH0 ?_
    simp only [Act.put, List.getElem_toArray, List.getElem_cons_zero, List.getElem_cons_succ, List.setIfInBounds_toArray, List.set_cons_zero, List.set_cons_succ]
    refine wpAnyH_take (i := 23) (v := ((.pointer (some ⟨B4, 0, none⟩)))) rfl (by kernel_rfl) (by kernel_rfl) (by kernel_rfl) (fun _ _ _ h => h) (Or.inl ⟨by kernel_rfl, by intro w' hS; have z0 := (HRB.out w' hS).2; go_simp⟩) hH0 ?_
    simp only [Act.put, List.getElem_toArray, List.getElem_cons_zero, List.getElem_cons_succ, List.setIfInBounds_toArray, List.set_cons_zero, List.set_cons_succ]
    refine wpAnyH_take (i := 24) (v := (.agg Z0.toArray)) rfl (by kernel_rfl) (by kernel_rfl) (by kernel_rfl) (fun _ _ _ h => h) (yieldsIf_load_mid (by kernel_rfl) 27 (.tmp 48) rfl B4 0 rfl Z0 _ (fun w' h => (HRB.out _ h).1) Tryd.underlying27 rfl HSB.out) hH0 ?_
    simp only [Act.put, List.getElem_toArray, List.getElem_cons_zero, List.getElem_cons_succ, List.setIfInBounds_toArray, List.set_cons_zero, List.set_cons_succ]
    refine wpAnyH_take (i := 25) (v := ((.agg Z0.toArray))) rfl (by kernel_rfl) (by kernel_rfl) (by kernel_rfl) (fun _ _ _ h => h) (Or.inl ⟨by kernel_rfl, by intro w' hS; have z0 := (HRB.out w' hS).2; go_simp; rw [HZ0.out]; rfl⟩) hH0 ?_
    simp only [Act.put, List.getElem_toArray, List.getElem_cons_zero, List.getElem_cons_succ, List.setIfInBounds_toArray, List.set_cons_zero, List.set_cons_succ]
    refine wpAnyH_take (i := 26) (v := ((.bool false))) rfl (by kernel_rfl) (by kernel_rfl) (by kernel_rfl) (fun _ _ _ h => h) (Or.inl ⟨by kernel_rfl, by intro w' hS; have z0 := (HRB.out w' hS).2; go_simp⟩) hH0 ?_
    simp only [Act.put, List.getElem_toArray, List.getElem_cons_zero, List.getElem_cons_succ, List.setIfInBounds_toArray, List.set_cons_zero, List.set_cons_succ]
    refine wpAnyH_take (i := 27) (v := ((.bool false))) rfl (by kernel_rfl) (by kernel_rfl) (by kernel_rfl) (fun _ _ _ h => h) (Or.inl ⟨by kernel_rfl, by intro w' hS; have z0 := (HRB.out w' hS).2; go_simp⟩) hH0 ?_
    simp only [Act.put, List.getElem_toArray, List.getElem_cons_zero, List.getElem_cons_succ, List.setIfInBounds_toArray, List.set_cons_zero, List.set_cons_succ]
    refine wpAnyH_take (i := 28) (v := ((.bool false))) rfl (by kernel_rfl) (by kernel_rfl) (by kernel_rfl) (fun _ _ _ h => h) (Or.inl ⟨by kernel_rfl, by intro w' hS; have z0 := (HRB.out w' hS).2; go_simp⟩) hH0 ?_
    simp only [Act.put, List.getElem_toArray, List.getElem_cons_zero, List.getElem_cons_succ, List.setIfInBounds_toArray, List.set_cons_zero, List.set_cons_succ]
    refine wpAnyH_take (i := 29) (v := ((.bool false))) rfl (by kernel_rfl) (by kernel_rfl) (by kernel_rfl) (fun _ _ _ h => h) (Or.inl ⟨by kernel_rfl, by intro w' hS; have z0 := (HRB.out w' hS).2; go_simp⟩) hH0 ?_
    simp only [Act.put, List.getElem_toArray, List.getElem_cons_zero, List.getElem_cons_succ, List.setIfInBounds_toArray, List.set_cons_zero, List.set_cons_succ]
    refine wpAnyH_done (by kernel_rfl) ?_ _
    refine NoPanic.normal ?_
    have HF := Lib.hid (HB7.out.trans (hS0.mono HB7.out.size))
    clear hS0 hz32 hzb
    go_wp2_with fail
    go_ret
    exact ⟨rfl, HF.out⟩
end Go.Proofs.YtngmpcmeebcdmaaDoor
