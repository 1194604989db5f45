/- The walk of MsumEmpties. -/
import Derived.Test.YtcpomddkehhkkaaDoorEmp1
import Derived.Test.YtcpomddkehhkkaaDoorLeaf0
import Derived.Test.YtcpomddkehhkkaaDoorTree15
namespace Go.Proofs.YtcpomddkehhkkaaDoor
set_option linter.unusedVariables false
set_option linter.unusedSimpArgs false
open Go.ChangeShapes Go.WideShapes Go.ChangeAt Go.RowKit Go.Maps

set_option maxRecDepth 100000 in
set_option maxHeartbeats 8000000 in
theorem empties_walk (w : World) (hT : Tabs KS SS w) (x : Int) (hx1 : -9223372036854775808 ≤ x) (hx2 : x ≤ 9223372036854775807) :
    Calls Tryd.prog 4 #[.int .i64 x] w fun e w' => e = .returned (.bool true) ∧ Below w.heap.size w w' := by
  obtain ⟨Z, hz, hbdZ, hZs, hZn, hZe⟩ := zn_node
  have hlow := hT.low
  have HT := Lib.hid hT
  have HLOW := Lib.hid hlow
  have EZ := Lib.hid hZs
  have EZE := Lib.hid hZe
  have HBDZ := Lib.hid hbdZ
  clear hT hlow hZs hZe hbdZ
  by_cases hx : x < 0 ∨ 256 < x
  · obtain ⟨LR, hLR⟩ : ∃ L, L = ncells (List.replicate 32 0) 0 := ⟨_, rfl⟩
    have lr := nd_row (List.replicate 32 0) 0 zero32.1
    rw [← hLR] at lr
    have heq := fun W => mn_eq (List.replicate 32 0) 0 zero32 W
    rw [← hLR] at heq
    have HEM := Lib.hid (show ∀ y, Calls Tryd.prog 24 #[.int .i64 x] y fun e w' => e = .returned (.agg LR.toArray) ∧ Below y.heap.size y w' from fun y => by rw [hLR]; exact empty_out y x hx hx1 hx2)
    have HEQ := Lib.hid heq
    have HBZ := Lib.hid (show ∀ W, (Instr.build 29 #[]).run Tryd.prog W = .ok (.agg LR.toArray) W from fun W => by rw [hLR, ← EZE.out]; exact HBDZ.out W)
    have SZR := Lib.hid (show (Tryd.prog.info? 29).map (·.size) = some LR.length by rw [lr.1]; kernel_rfl)
    have SZR2 := Lib.hid (show (Tryd.prog.info? 29).map (·.size) = some LR.toArray.size by rw [List.size_toArray, lr.1]; kernel_rfl)
    have ONER := Lib.hid (show LR.toArray.all (·.oneCell') = true by rw [hLR]; exact all_oneCell_toArray (ncells_one _ _))
    have HZR := Lib.hid (show Z.size = LR.toArray.size by rw [EZ.out, List.size_toArray, lr.1])
    clear hLR lr heq
    have hx' : x < 0 ∨ (¬ x < 0 ∧ 256 < x) := by omega
    clear hx
    rcases hx' with hx | ⟨hxn, hx⟩
    all_goals
      go_enter Tryd.func4, Tryd.ntmps4
      go_wp2_with fail
      refine (headT_is KS SS w HT.out).mono ?_
      rintro _ w1 ⟨rfl, hb1⟩
      have HB1 := Lib.hid hb1
      clear hb1
      go_wp2_with fail
      refine (newT_is KS SS (fun k => w.heap.size ≤ k) w1 (fun k hk => by have := HB1.out.size; omega)).mono ?_
      rintro _ w2 ⟨g, rfl, htr, hb2, hg⟩
      have HB2 := Lib.hid (HB1.out.trans (hb2.mono HB1.out.size))
      clear htr hb2 hg
      go_wp2_with fail
      refine (HEM.out _).mono ?_
      rintro _ w3 ⟨rfl, hb3⟩
      have h9 := Has.new w3 29 Z
      have HB3 := Lib.hid (HB2.out.trans (hb3.mono HB2.out.size))
      have hw4 : ((w3.alloc (.cells Z 29)).setRow w3.heap.size LR.toArray).rangeAt w3.heap.size 0 LR ∧ Below w.heap.size w ((w3.alloc (.cells Z 29)).setRow w3.heap.size LR.toArray) := by
        rw [World.setRow_alloc_new]
        exact ⟨(Has.new _ _ _).row0, HB3.out.alloc HB3.out.size _⟩
      have H9 := Lib.hid h9
      have HW4 := Lib.hid hw4
      have heq := HEQ.out
      clear hb3 h9 hw4
      go_wp2_with (first
        | (refine wpList_store_row rfl 29 (.tmp 4) (.tmp 10) rfl w3.heap.size LR.toArray rfl rfl 29 Z H9.out SZR2.out HZR.out ONER.out ?_)
        | (refine wpList_load_mid rfl 29 (.tmp 4) rfl w3.heap.size 0 rfl LR _ HW4.out.1 Tryd.underlying29 rfl SZR.out ?_)
        | (refine wpList_build_run (by kernel_rfl) 29 _ rfl #[] (by kernel_rfl) (.agg LR.toArray) (HBZ.out _) ?_))
      go_ret
      exact ⟨rfl, HW4.out.2⟩
  · obtain ⟨n, rfl⟩ : ∃ n : Nat, x = (n : Int) := ⟨x.toNat, by omega⟩
    have hn : n ≤ 256 := by omega
    obtain ⟨LE, hLE⟩ : ∃ L, L = fun k => ndV (emptyNd KS SS k) := ⟨_, rfl⟩
    have hle : ∀ k, (LE k).length = 33 := fun k => by rw [hLE]; exact ndV_len (empty_hash KS SS ss_len k)
    obtain ⟨LT, hLT⟩ : ∃ L, L = tabsL SS KS := ⟨_, rfl⟩
    have HMAKE := Lib.hid (show ∀ x, Calls Tryd.prog 12 #[] x fun e w' => e = .returned (.agg LT.toArray) ∧ Below x.heap.size x w' from fun x => by rw [hLT, ← tab_words]; exact make_is x)
    have HEMP := Lib.hid (show ∀ x, Calls Tryd.prog 25 #[.agg LT.toArray] x (EmpP x KS SS) from fun x => by rw [hLT]; exact refEmpties_is KS SS ks_len ss_len x)
    have HEM := Lib.hid (show ∀ y, Tabs KS SS y → Calls Tryd.prog 24 #[.int .i64 (n : Int)] y fun e w' => e = .returned (.agg (LE n).toArray) ∧ Below y.heap.size y w' from fun y ht => by rw [hLE]; exact empty_in KS SS y ht n hn)
    have HPL := Lib.hid (show ∀ y k, Calls Tryd.prog 13 #[.agg (LE k).toArray] y fun e w' => e = .returned (.agg (LE k).toArray) ∧ Below y.heap.size y w' from fun y k => by rw [hLE]; exact plain_is y _ _ (empty_hash KS SS ss_len k).1)
    have heq : ∀ k W, (Op.equalIn 10000 38 (.agg (LE k).toArray) (.agg (LE k).toArray)).run Tryd.prog W = .ok true W := fun k W => by rw [hLE]; exact rn_eq _ _ (empty_hash KS SS ss_len k) W
    have HEQ := Lib.hid heq
    have HLE := Lib.hid hle
    have ELE := Lib.hid hLE
    have SZM := Lib.hid (show ∀ k, (Tryd.prog.info? 29).map (·.size) = some (LE k).length from fun k => by rw [hle]; kernel_rfl)
    have SZR := Lib.hid (show ∀ k, (Tryd.prog.info? 38).map (·.size) = some (LE k).length from fun k => by rw [hle]; kernel_rfl)
    have SZA := Lib.hid (show (Tryd.prog.info? 29).map (·.size) = some (LE n).toArray.size by rw [List.size_toArray]; exact SZM.out n)
    have ONE := Lib.hid (show (LE n).toArray.all (·.oneCell') = true by rw [hLE]; exact ndV_one _)
    have HZL := Lib.hid (show Z.size = (LE n).toArray.size by rw [EZ.out, List.size_toArray, hle])
    have HN := Lib.hid hn
    have hxa : ¬ (n : Int) < 0 := by omega
    have hxb : ¬ 256 < (n : Int) := by omega
    clear hle hLE hLT heq hn hx hx1 hx2
    go_enter Tryd.func4, Tryd.ntmps4
    go_wp2_with fail
    refine (headT_is KS SS w HT.out).mono ?_
    rintro _ w1 ⟨rfl, hb1⟩
    have HB1 := Lib.hid hb1
    clear hb1
    go_wp2_with fail
    refine (newT_is KS SS (fun k => w.heap.size ≤ k) w1 (fun k hk => by have := HB1.out.size; omega)).mono ?_
    rintro _ w2 ⟨g, rfl, htr, hb2, hg⟩
    obtain ⟨N2, hN2⟩ : ∃ N, N = w2.heap.size := ⟨_, rfl⟩
    have htr2 : Tr KS SS (fun k => w.heap.size ≤ k ∧ k < N2) w2 g [] := htr.zone (fun k h1 h2 => ⟨h2, by omega⟩)
    have HTR := Lib.hid htr2
    have HB2 := Lib.hid (HB1.out.trans (hb2.mono HB1.out.size))
    have HG := Lib.hid (show 2 + 1 ≤ g from by have h1 := HB1.out.size; have h2 := HLOW.out; omega)
    have EN2 := Lib.hid hN2
    clear htr hb2 hg htr2 hN2
    go_wp2_with fail
    refine (HEM.out w2 (HT.out.below HB2.out HLOW.out)).mono ?_
    rintro _ w3 ⟨rfl, hb3⟩
    have h9 := Has.new w3 29 Z
    have HB3 := Lib.hid hb3
    have hw4 : Has ((w3.alloc (.cells Z 29)).setRow w3.heap.size (LE n).toArray) w3.heap.size 29 (LE n).toArray ∧ Below w2.heap.size w2 ((w3.alloc (.cells Z 29)).setRow w3.heap.size (LE n).toArray) := by
      rw [World.setRow_alloc_new]
      exact ⟨Has.new _ _ _, HB3.out.alloc HB3.out.size _⟩
    have H9 := Lib.hid h9
    have HW4 := Lib.hid hw4
    have HBN := Lib.hid hb3.size
    clear hb3 h9 hw4
    go_upto_region 5 with (refine wpList_store_row rfl 29 (.tmp 4) (.tmp 10) rfl w3.heap.size (LE n).toArray rfl rfl 29 Z H9.out SZA.out HZL.out ONE.out ?_)
    generalize (w3.alloc (.cells Z 29)).setRow w3.heap.size (LE n).toArray = W4 at HW4 ⊢
    clear H9 HB3
    generalize w3.heap.size = Bn at HW4 HBN ⊢
    go_wp2_with fail
    refine (HMAKE.out _).mono ?_
    rintro _ w5 ⟨rfl, hb5⟩
    have HB5 := Lib.hid hb5
    clear hb5
    go_wp2_with fail
    refine (HEMP.out _).mono ?_
    rintro _ w6 ⟨ge, ce, rfl, hemp, hge, hb6⟩
    have hb56 : Below w2.heap.size w2 w6 := (HW4.out.2.trans (HB5.out.mono HW4.out.2.size)).trans (hb6.mono (Nat.le_trans HW4.out.2.size HB5.out.size))
    have hbn6 : Has w6 Bn 29 (LE n).toArray := (HW4.out.1.below HB5.out HW4.out.1.lt).below hb6 (HW4.out.1.below HB5.out HW4.out.1.lt).lt
    have HKS := Lib.hid (show ∀ v, Kept (fun k => w.heap.size ≤ k ∧ k < N2) w6 v → v.rangeAt Bn 0 (LE n) ∧ v.rangeAt ge (n * 33) (LE n) ∧ v.rangeAt ge (256 * 33) (LE 256) from fun v hk => by
      have e1 : ¬ (w.heap.size ≤ Bn ∧ Bn < N2) := by have h1 := HBN.out; have h2 := EN2.out; omega
      have e2 : ¬ (w.heap.size ≤ ge ∧ ge < N2) := by have h1 := HW4.out.2.size; have h2 := EN2.out; have h3 := HB5.out.size; omega
      refine ⟨(hbn6.kept hk e1).row0, rangeAt_kept ?_ hk e2, rangeAt_kept ?_ hk e2⟩
      · rw [ELE.out]; exact hemp.2 n HN.out
      · rw [ELE.out]; exact hemp.2 256 (Nat.le_refl _))
    have HROOT := Lib.hid (show ∀ v, Kept (fun _ => False) w6 v → Calls Tryd.prog 26 #[.pointer (some ⟨g, 0, none⟩)] v fun e w' => e = .returned (.agg (LE 256).toArray) ∧ Kept (fun k => w.heap.size ≤ k ∧ k < N2) v w' from fun v hk => by
      have hkv : Kept (fun _ => False) w2 v := (Kept.of_below hb56).trans hk
      have h := tr_root (HTR.out.kept hkv (fun _ _ _ h => h)) (HT.out.below (HB2.out.trans (hkv.below HB2.out.size (fun _ h => h.elim))) HLOW.out) HG.out
      rw [part_nil] at h
      rw [ELE.out]
      exact h.mono fun e w' ⟨h1, h2, h3⟩ => ⟨h1, h3⟩)
    have HBE := Lib.hid (show Below w.heap.size w w6 from HB2.out.trans (hb56.mono HB2.out.size))
    clear hemp hge hb6 hb56 hbn6 HW4 HB5 hxa hxb
    go_upto_region 8 with (fail)
    obtain ⟨W8, hW8⟩ : ∃ W, W = w6 := ⟨_, rfl⟩
    subst hW8
    obtain ⟨Z8, hZ8⟩ : ∃ S, S = fun k => w.heap.size ≤ k ∧ k < N2 := ⟨_, rfl⟩
    rw [← hZ8] at HKS HROOT
    have hKept0 : Kept Z8 W8 W8.drew := (Kept.refl _ _).drew
    have hKf : Kept (fun _ => False) W8 W8.drew := (Kept.refl _ _).drew
    have hS0 := HKS.out W8 (Kept.refl _ _)
    have hat1 := at_rn ge 257 ce n (by have := HN.out; omega)
    have hat2 : ∀ w, (Instr.indexAt 56 (.slice (some ⟨ge, 0, none⟩) 257 ce) (.int .i64 256)).run Tryd.prog w = .ok (.pointer (some ⟨ge, 256 * 33, none⟩)) w := at_rn ge 257 ce 256 (by decide)
    have heq1 := HEQ.out n
    have heq2 := HEQ.out 256
    have HZ8 := Lib.hid hZ8
    clear hZ8
    refine wp_region_noPanic ?_
    refine wp_region_held_drew (S := (fun v => v.rangeAt Bn 0 (LE n) ∧ v.rangeAt ge (n * 33) (LE n) ∧ v.rangeAt ge (256 * 33) (LE 256))) (by kernel_rfl) hS0 (fun hH0 => ?_)
    refine wpAnyH_take (i := 0) (v := (.agg (LE n).toArray)) rfl (by kernel_rfl) (by kernel_rfl) (by kernel_rfl) (fun _ _ _ h => h) (yieldsIf_load_mid (by kernel_rfl) 29 (.tmp 4) rfl Bn 0 rfl (LE n) _ (fun w' h => h.1) Tryd.underlying29 rfl (SZM.out n)) hH0 ?_
    simp only [Act.put, List.getElem_toArray, List.getElem_cons_zero, List.getElem_cons_succ, List.setIfInBounds_toArray, List.set_cons_zero, List.set_cons_succ]
    refine wpAnyH_take (i := 2) (v := ((.slice (some ⟨ge, 0, none⟩) 257 ce))) rfl (by kernel_rfl) (by kernel_rfl) (by kernel_rfl) (fun _ _ _ h => h) (Or.inl ⟨by kernel_rfl, by intro w' hS; obtain ⟨z0, z1, z2⟩ := hS; go_simp⟩) hH0 ?_
    simp only [Act.put, List.getElem_toArray, List.getElem_cons_zero, List.getElem_cons_succ, List.setIfInBounds_toArray, List.set_cons_zero, List.set_cons_succ]
    refine wpAnyH_take (i := 3) (v := ((.int .i64 (n : Int)))) rfl (by kernel_rfl) (by kernel_rfl) (by kernel_rfl) (fun _ _ _ h => h) (Or.inl ⟨by kernel_rfl, by intro w' hS; obtain ⟨z0, z1, z2⟩ := hS; go_simp⟩) hH0 ?_
    simp only [Act.put, List.getElem_toArray, List.getElem_cons_zero, List.getElem_cons_succ, List.setIfInBounds_toArray, List.set_cons_zero, List.set_cons_succ]
    refine wpAnyH_take (i := 4) (v := ((.pointer (some ⟨ge, n * 33, none⟩)))) rfl (by kernel_rfl) (by kernel_rfl) (by kernel_rfl) (fun _ _ _ h => h) (Or.inl ⟨by kernel_rfl, by intro w' hS; obtain ⟨z0, z1, z2⟩ := hS; go_simp⟩) hH0 ?_
    simp only [Act.put, List.getElem_toArray, List.getElem_cons_zero, List.getElem_cons_succ, List.setIfInBounds_toArray, List.set_cons_zero, List.set_cons_succ]
    refine wpAnyH_take (i := 5) (v := (.agg (LE n).toArray)) rfl (by kernel_rfl) (by kernel_rfl) (by kernel_rfl) (fun _ _ _ h => h) (yieldsIf_load_mid (by kernel_rfl) 38 (.tmp 26) rfl ge (n * 33) rfl (LE n) _ (fun w' h => h.2.1) Tryd.underlying38 rfl (SZR.out n)) hH0 ?_
    simp only [Act.put, List.getElem_toArray, List.getElem_cons_zero, List.getElem_cons_succ, List.setIfInBounds_toArray, List.set_cons_zero, List.set_cons_succ]
    refine wpAnyH_ready (rs := [1]) (by kernel_rfl) (by simp) ?_
    refine AllReadyH.cons rfl (fun K hK => ?_) AllReadyH.nil
    go_simp
    refine (HPL.out _ n).mono ?_
    rintro _ x1 ⟨rfl, hc1⟩
    have hk1 : Kept Z8 W8 x1 := hKept0.trans (Kept.of_below hc1)
    have hs1 := HKS.out _ hk1
    refine Shut.out hK _ _ hs1 (fun hH1 => ?_)
    clear hK K
    try simp only [Act.put, List.getElem_toArray, List.getElem_cons_zero, List.getElem_cons_succ, List.setIfInBounds_toArray, List.set_cons_zero, List.set_cons_succ]
    refine wpAnyH_take (i := 6) (v := (.bool true)) rfl (by kernel_rfl) (by kernel_rfl) (by kernel_rfl) (fun _ _ _ h => h) (Or.inl ⟨by kernel_rfl, by intro w' hS; obtain ⟨z0, z1, z2⟩ := hS; go_simp⟩) hH1 ?_
    simp only [Act.put, List.getElem_toArray, List.getElem_cons_zero, List.getElem_cons_succ, List.setIfInBounds_toArray, List.set_cons_zero, List.set_cons_succ]
    refine wpAnyH_take (i := 7) (v := (.bool true)) rfl (by kernel_rfl) (by kernel_rfl) (by kernel_rfl) (fun _ _ _ h => h) (Or.inl ⟨by kernel_rfl, by intro w' hS; obtain ⟨z0, z1, z2⟩ := hS; go_simp⟩) hH1 ?_
    simp only [Act.put, List.getElem_toArray, List.getElem_cons_zero, List.getElem_cons_succ, List.setIfInBounds_toArray, List.set_cons_zero, List.set_cons_succ]
    refine wpAnyH_take (i := 8) (v := ((.pointer (some ⟨g, 0, none⟩)))) rfl (by kernel_rfl) (by kernel_rfl) (by kernel_rfl) (fun _ _ _ h => h) (Or.inl ⟨by kernel_rfl, by intro w' hS; obtain ⟨z0, z1, z2⟩ := hS; go_simp⟩) hH1 ?_
    simp only [Act.put, List.getElem_toArray, List.getElem_cons_zero, List.getElem_cons_succ, List.setIfInBounds_toArray, List.set_cons_zero, List.set_cons_succ]
    refine wpAnyH_take (i := 11) (v := ((.slice (some ⟨ge, 0, none⟩) 257 ce))) rfl (by kernel_rfl) (by kernel_rfl) (by kernel_rfl) (fun _ _ _ h => h) (Or.inl ⟨by kernel_rfl, by intro w' hS; obtain ⟨z0, z1, z2⟩ := hS; go_simp⟩) hH1 ?_
    simp only [Act.put, List.getElem_toArray, List.getElem_cons_zero, List.getElem_cons_succ, List.setIfInBounds_toArray, List.set_cons_zero, List.set_cons_succ]
    refine wpAnyH_take (i := 12) (v := ((.pointer (some ⟨ge, 256 * 33, none⟩)))) rfl (by kernel_rfl) (by kernel_rfl) (by kernel_rfl) (fun _ _ _ h => h) (Or.inl ⟨by kernel_rfl, by intro w' hS; obtain ⟨z0, z1, z2⟩ := hS; go_simp⟩) hH1 ?_
    simp only [Act.put, List.getElem_toArray, List.getElem_cons_zero, List.getElem_cons_succ, List.setIfInBounds_toArray, List.set_cons_zero, List.set_cons_succ]
    refine wpAnyH_take (i := 13) (v := (.agg (LE 256).toArray)) rfl (by kernel_rfl) (by kernel_rfl) (by kernel_rfl) (fun _ _ _ h => h) (yieldsIf_load_mid (by kernel_rfl) 38 (.tmp 34) rfl ge (256 * 33) rfl (LE 256) _ (fun w' h => h.2.2) Tryd.underlying38 rfl (SZR.out 256)) hH1 ?_
    simp only [Act.put, List.getElem_toArray, List.getElem_cons_zero, List.getElem_cons_succ, List.setIfInBounds_toArray, List.set_cons_zero, List.set_cons_succ]
    refine wpAnyH_ready (rs := [9]) (by kernel_rfl) (by simp) ?_
    refine AllReadyH.cons rfl (fun K hK => ?_) AllReadyH.nil
    go_simp
    refine (HROOT.out _ (hKf.trans (Kept.of_below hc1))).mono ?_
    rintro _ x2 ⟨rfl, hc2⟩
    have hk2 := hk1.trans hc2
    have hs2 := HKS.out _ hk2
    refine Shut.out hK _ _ hs2 (fun hH2 => ?_)
    clear hK K
    try simp only [Act.put, List.getElem_toArray, List.getElem_cons_zero, List.getElem_cons_succ, List.setIfInBounds_toArray, List.set_cons_zero, List.set_cons_succ]
    refine wpAnyH_ready (rs := [10]) (by kernel_rfl) (by simp) ?_
    refine AllReadyH.cons rfl (fun K hK => ?_) AllReadyH.nil
    go_simp
    refine (HPL.out _ 256).mono ?_
    rintro _ x3 ⟨rfl, hc3⟩
    have hk3 := hk2.trans (Kept.of_below hc3)
    have hs3 := HKS.out _ hk3
    have HK3 := Lib.hid hk3
    refine Shut.out hK _ _ hs3 (fun hH3 => ?_)
    clear hK K
    try simp only [Act.put, List.getElem_toArray, List.getElem_cons_zero, List.getElem_cons_succ, List.setIfInBounds_toArray, List.set_cons_zero, List.set_cons_succ]
    refine wpAnyH_take (i := 14) (v := (.bool true)) rfl (by kernel_rfl) (by kernel_rfl) (by kernel_rfl) (fun _ _ _ h => h) (Or.inl ⟨by kernel_rfl, by intro w' hS; obtain ⟨z0, z1, z2⟩ := hS; go_simp⟩) hH3 ?_
    simp only [Act.put, List.getElem_toArray, List.getElem_cons_zero, List.getElem_cons_succ, List.setIfInBounds_toArray, List.set_cons_zero, List.set_cons_succ]
    refine wpAnyH_take (i := 15) (v := (.bool true)) rfl (by kernel_rfl) (by kernel_rfl) (by kernel_rfl) (fun _ _ _ h => h) (Or.inl ⟨by kernel_rfl, by intro w' hS; obtain ⟨z0, z1, z2⟩ := hS; go_simp⟩) hH3 ?_
    simp only [Act.put, List.getElem_toArray, List.getElem_cons_zero, List.getElem_cons_succ, List.setIfInBounds_toArray, List.set_cons_zero, List.set_cons_succ]
    refine wpAnyH_take (i := 16) (v := (.bool true)) rfl (by kernel_rfl) (by kernel_rfl) (by kernel_rfl) (fun _ _ _ h => h) (Or.inl ⟨by kernel_rfl, by intro w' hS; obtain ⟨z0, z1, z2⟩ := hS; go_simp⟩) hH3 ?_
    simp only [Act.put, List.getElem_toArray, List.getElem_cons_zero, List.getElem_cons_succ, List.setIfInBounds_toArray, List.set_cons_zero, List.set_cons_succ]
    refine wpAnyH_done (by kernel_rfl) ?_ _
    refine NoPanic.normal ?_
    have HFIN := Lib.hid (HBE.out.trans (HK3.out.below HBE.out.size (fun k e => by rw [HZ8.out] at e; exact e.1)))
    clear hS0 hH0 hH1 hH2 hH3 hs1 hs2 hs3 hk1 hk2 hk3 hc1 hc2 hc3 heq1 heq2 hat1 hat2 hKept0 hKf
    go_wp2
    go_ret
    exact ⟨rfl, HFIN.out⟩
end Go.Proofs.YtcpomddkehhkkaaDoor
