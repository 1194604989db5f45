/- The walk of Same at two books that say the same. -/
import Derived.Test.YtnddejgglbdkmaaDoorBook34
import Derived.Deep.CutBlock
namespace Go.Proofs.YtnddejgglbdkmaaDoor
set_option linter.unusedVariables false
set_option linter.unusedSimpArgs false
open Go.ChangeShapes Go.WideShapes Go.ChangeAt Go.RowKit Go.Maps

set_option maxRecDepth 100000 in
set_option maxHeartbeats 8000000 in
theorem same_true (w : World) (g g' : Nat) (b b' : Bk) (m0 m1 : Nat) (v : Value) (m0' m1' : Nat) (v' : Value) (hp : Pair2 w g g' b b' m0 m1 v m0' m1' v') (hq0 : ∀ k, look (b.side 0) k = look (b'.side 0) k) (hq1 : ∀ k, look (b.side 1) k = look (b'.side 1) k) (hoff : b'.offers = b.offers) (huq : Uniq b.offers) :
    Calls Tryd.prog 20 #[.pointer (some ⟨g, 0, none⟩), .pointer (some ⟨g', 0, none⟩)] w fun e w' => e = .returned (.bool true) ∧ Below w.heap.size w w' := by
  obtain ⟨ha, ha', hb, hb', hl, hl', ek0, ek1⟩ := hp
  obtain ⟨va, vc, hv⟩ := own_slice ha.row
  obtain ⟨va', vc', hv'⟩ := own_slice ha'.row
  have cell : ∀ {w' : World} {G i : Nat} {u : Value}, w.cell? ⟨G, i, none⟩ = some u → Below w.heap.size w w' → w'.cell? ⟨G, i, none⟩ = some u := fun h hbw => cell_held (Kept.of_below (S := fun _ => False) hbw) h (fun h => h)
  have hc2 : ∀ w', Below w.heap.size w w' → w'.cell? ⟨g, 2, none⟩ = some v := fun w' h => cell (ha.obj.cell_is rfl) h
  have hd2 : ∀ w', Below w.heap.size w w' → w'.cell? ⟨g', 2, none⟩ = some v' := fun w' h => cell (ha'.obj.cell_is rfl) h
  have hc3 : ∀ w', Below w.heap.size w w' → w'.cell? ⟨g, 3, none⟩ = some (.int .u64 (b.k0 : Int)) := fun w' h => cell (ha.obj.cell_is rfl) h
  have hc4 : ∀ w', Below w.heap.size w w' → w'.cell? ⟨g, 4, none⟩ = some (.int .u64 (b.k1 : Int)) := fun w' h => cell (ha.obj.cell_is rfl) h
  have hd3 : ∀ w', Below w.heap.size w w' → w'.cell? ⟨g', 3, none⟩ = some (.int .u64 (b'.k0 : Int)) := fun w' h => cell (ha'.obj.cell_is rfl) h
  have hd4 : ∀ w', Below w.heap.size w w' → w'.cell? ⟨g', 4, none⟩ = some (.int .u64 (b'.k1 : Int)) := fun w' h => cell (ha'.obj.cell_is rfl) h
  rw [ek0] at hd3
  rw [ek1] at hd4
  have HSUM := Lib.hid (fun W f hf (hW : Below w.heap.size w W) => (sums_below ha hb hl W f hf hW).mono fun e w' (h : ∃ x ys, e = .returned x ∧ IsSums (b.side f) ys ∧ w'.ownsRow W.heap.size 94 33 x ys.length (ys.flatMap HV.enc) ∧ ys.length ≤ 1000000 ∧ Below w.heap.size w w' ∧ Below W.heap.size W w') =>
    (show ∃ x ys, e = .returned x ∧ IsSums (b.side f) ys ∧ w'.ownsRow W.heap.size 94 33 x ys.length (ys.flatMap HV.enc) ∧ ys.length ≤ 1000000 ∧ Below w.heap.size w w' by obtain ⟨x, ys, h1, h2, h3, h4, h5, _⟩ := h; exact ⟨x, ys, h1, h2, h3, h4, h5⟩))
  have HSUM' := Lib.hid (sums_below ha' hb' hl')
  have hn := hb.len
  have hn' := hb'.len
  have hbd : Below w.heap.size w w.drew := (Below.refl _ _).drew
  have hbr := Below.refl w.heap.size w
  have HA := Lib.hid ha
  have HA' := Lib.hid ha'
  have HB := Lib.hid hb
  have HB' := Lib.hid hb'
  have hlen : b.offers.length = b'.offers.length := by rw [hoff]
  have HOFF := Lib.hid hoff
  have HUQ := Lib.hid huq
  have HQ0 := Lib.hid (fun ys zs (h1 : IsSums (b.side 0) ys) (h2 : IsSums (b'.side 0) zs) => (show sameL ys zs = true from (sameL_iff h1 h2 (ha.map0.nodup) (ha'.map0.nodup) (hb.nums 0) (hb'.nums 0)).2 hq0))
  have HQ1 := Lib.hid (fun ys zs (h1 : IsSums (b.side 1) ys) (h2 : IsSums (b'.side 1) zs) => (show sameL ys zs = true from (sameL_iff h1 h2 (ha.map1.nodup) (ha'.map1.nodup) (hb.nums 1) (hb'.nums 1)).2 hq1))
  clear hoff huq
  obtain ⟨K0, hK0⟩ : ∃ x, x = b.k0 := ⟨_, rfl⟩
  obtain ⟨K1, hK1⟩ : ∃ x, x = b.k1 := ⟨_, rfl⟩
  obtain ⟨n, hnn⟩ : ∃ x, x = b.offers.length := ⟨_, rfl⟩
  obtain ⟨n', hnn'⟩ : ∃ x, x = b'.offers.length := ⟨_, rfl⟩
  rw [← hK0] at hc3 hd3
  rw [← hK1] at hc4 hd4
  rw [hv, ← hnn] at hc2
  rw [hv', ← hnn'] at hd2
  rw [← hnn] at hn hlen
  rw [← hnn'] at hn' hlen
  have HC2 := Lib.hid hc2
  have HC3 := Lib.hid hc3
  have HC4 := Lib.hid hc4
  have HD2 := Lib.hid hd2
  have HD3 := Lib.hid hd3
  have HD4 := Lib.hid hd4
  have htn := fun W => two_neq (K0 : Int) (K1 : Int) W
  have HNN := Lib.hid hnn
  have HNN' := Lib.hid hnn'
  have HV := Lib.hid hv
  have HV' := Lib.hid hv'
  subst hlen
  clear ha ha' hb hb' hl hl' ek0 ek1 cell hc2 hc3 hc4 hd2 hd3 hd4 hK0 hK1 hnn hnn' hv hv'
  go_enter Tryd.func20, Tryd.ntmps20
  go_upto_region 3 with (fail)
  refine wp_region_noPanic ?_
  refine wp_region_held_drew (S := fun w' => Below w.heap.size w w') (by kernel_rfl) hbd (fun hH0 => ?_)
  refine wpAnyH_take (i := 0) (v := (.pointer (some ⟨g, 0, none⟩))) rfl (by kernel_rfl) (by kernel_rfl) (by kernel_rfl) (fun _ _ _ h => h) (Or.inl ⟨by kernel_rfl, by intro w' hS; go_simp⟩) hH0 ?_
  simp only [Act.put, List.getElem_toArray, List.getElem_cons_zero, List.getElem_cons_succ, List.setIfInBounds_toArray, List.set_cons_zero, List.set_cons_succ]
  refine wpAnyH_take (i := 1) (v := (.pointer (some ⟨g, 0, none⟩))) rfl (by kernel_rfl) (by kernel_rfl) (by kernel_rfl) (fun _ _ _ h => h) (Or.inl ⟨by kernel_rfl, by intro w' hS; go_simp⟩) hH0 ?_
  simp only [Act.put, List.getElem_toArray, List.getElem_cons_zero, List.getElem_cons_succ, List.setIfInBounds_toArray, List.set_cons_zero, List.set_cons_succ]
  refine wpAnyH_take (i := 2) (v := (.pointer (some ⟨g, 3, none⟩))) rfl (by kernel_rfl) (by kernel_rfl) (by kernel_rfl) (fun _ _ _ h => h) (Or.inl ⟨by kernel_rfl, by intro w' hS; go_simp⟩) hH0 ?_
  simp only [Act.put, List.getElem_toArray, List.getElem_cons_zero, List.getElem_cons_succ, List.setIfInBounds_toArray, List.set_cons_zero, List.set_cons_succ]
  refine wpAnyH_take (i := 3) (v := (.agg #[.int .u64 (K0 : Int), .int .u64 (K1 : Int)])) rfl (by kernel_rfl) (by kernel_rfl) (by kernel_rfl) (fun _ _ _ h => h) (Or.inl ⟨by kernel_rfl, by intro w' hS; have e0 := HC3.out w' hS; have e1 := HC4.out w' hS; go_simp⟩) hH0 ?_
  simp only [Act.put, List.getElem_toArray, List.getElem_cons_zero, List.getElem_cons_succ, List.setIfInBounds_toArray, List.set_cons_zero, List.set_cons_succ]
  refine wpAnyH_take (i := 4) (v := (.pointer (some ⟨g', 0, none⟩))) rfl (by kernel_rfl) (by kernel_rfl) (by kernel_rfl) (fun _ _ _ h => h) (Or.inl ⟨by kernel_rfl, by intro w' hS; go_simp⟩) hH0 ?_
  simp only [Act.put, List.getElem_toArray, List.getElem_cons_zero, List.getElem_cons_succ, List.setIfInBounds_toArray, List.set_cons_zero, List.set_cons_succ]
  refine wpAnyH_take (i := 5) (v := (.pointer (some ⟨g', 0, none⟩))) rfl (by kernel_rfl) (by kernel_rfl) (by kernel_rfl) (fun _ _ _ h => h) (Or.inl ⟨by kernel_rfl, by intro w' hS; go_simp⟩) hH0 ?_
  simp only [Act.put, List.getElem_toArray, List.getElem_cons_zero, List.getElem_cons_succ, List.setIfInBounds_toArray, List.set_cons_zero, List.set_cons_succ]
  refine wpAnyH_take (i := 6) (v := (.pointer (some ⟨g', 3, none⟩))) rfl (by kernel_rfl) (by kernel_rfl) (by kernel_rfl) (fun _ _ _ h => h) (Or.inl ⟨by kernel_rfl, by intro w' hS; go_simp⟩) hH0 ?_
  simp only [Act.put, List.getElem_toArray, List.getElem_cons_zero, List.getElem_cons_succ, List.setIfInBounds_toArray, List.set_cons_zero, List.set_cons_succ]
  refine wpAnyH_take (i := 7) (v := (.agg #[.int .u64 (K0 : Int), .int .u64 (K1 : Int)])) rfl (by kernel_rfl) (by kernel_rfl) (by kernel_rfl) (fun _ _ _ h => h) (Or.inl ⟨by kernel_rfl, by intro w' hS; have e0 := HD3.out w' hS; have e1 := HD4.out w' hS; go_simp⟩) hH0 ?_
  simp only [Act.put, List.getElem_toArray, List.getElem_cons_zero, List.getElem_cons_succ, List.setIfInBounds_toArray, List.set_cons_zero, List.set_cons_succ]
  refine wpAnyH_take (i := 8) (v := (.bool false)) rfl (by kernel_rfl) (by kernel_rfl) (by kernel_rfl) (fun _ _ _ h => h) (Or.inl ⟨by kernel_rfl, by intro w' hS; go_simp⟩) hH0 ?_
  simp only [Act.put, List.getElem_toArray, List.getElem_cons_zero, List.getElem_cons_succ, List.setIfInBounds_toArray, List.set_cons_zero, List.set_cons_succ]
  refine wpAnyH_take (i := 9) (v := (.bool false)) rfl (by kernel_rfl) (by kernel_rfl) (by kernel_rfl) (fun _ _ _ h => h) (Or.inl ⟨by kernel_rfl, by intro w' hS; go_simp⟩) hH0 ?_
  simp only [Act.put, List.getElem_toArray, List.getElem_cons_zero, List.getElem_cons_succ, List.setIfInBounds_toArray, List.set_cons_zero, List.set_cons_succ]
  refine wpAnyH_take (i := 10) (v := (.pointer (some ⟨g, 0, none⟩))) rfl (by kernel_rfl) (by kernel_rfl) (by kernel_rfl) (fun _ _ _ h => h) (Or.inl ⟨by kernel_rfl, by intro w' hS; go_simp⟩) hH0 ?_
  simp only [Act.put, List.getElem_toArray, List.getElem_cons_zero, List.getElem_cons_succ, List.setIfInBounds_toArray, List.set_cons_zero, List.set_cons_succ]
  refine wpAnyH_take (i := 11) (v := (.pointer (some ⟨g, 0, none⟩))) rfl (by kernel_rfl) (by kernel_rfl) (by kernel_rfl) (fun _ _ _ h => h) (Or.inl ⟨by kernel_rfl, by intro w' hS; go_simp⟩) hH0 ?_
  simp only [Act.put, List.getElem_toArray, List.getElem_cons_zero, List.getElem_cons_succ, List.setIfInBounds_toArray, List.set_cons_zero, List.set_cons_succ]
  refine wpAnyH_take (i := 12) (v := (.pointer (some ⟨g, 2, none⟩))) rfl (by kernel_rfl) (by kernel_rfl) (by kernel_rfl) (fun _ _ _ h => h) (Or.inl ⟨by kernel_rfl, by intro w' hS; go_simp⟩) hH0 ?_
  simp only [Act.put, List.getElem_toArray, List.getElem_cons_zero, List.getElem_cons_succ, List.setIfInBounds_toArray, List.set_cons_zero, List.set_cons_succ]
  refine wpAnyH_take (i := 13) (v := (.slice va n vc)) rfl (by kernel_rfl) (by kernel_rfl) (by kernel_rfl) (fun _ _ _ h => h) (Or.inl ⟨by kernel_rfl, by intro w' hS; have e0 := HC2.out w' hS; go_simp⟩) hH0 ?_
  simp only [Act.put, List.getElem_toArray, List.getElem_cons_zero, List.getElem_cons_succ, List.setIfInBounds_toArray, List.set_cons_zero, List.set_cons_succ]
  refine wpAnyH_take (i := 14) (v := (.int .i64 (n : Int))) rfl (by kernel_rfl) (by kernel_rfl) (by kernel_rfl) (fun _ _ _ h => h) (Or.inl ⟨by kernel_rfl, by intro w' hS; go_simp⟩) hH0 ?_
  simp only [Act.put, List.getElem_toArray, List.getElem_cons_zero, List.getElem_cons_succ, List.setIfInBounds_toArray, List.set_cons_zero, List.set_cons_succ]
  refine wpAnyH_take (i := 15) (v := (.pointer (some ⟨g', 0, none⟩))) rfl (by kernel_rfl) (by kernel_rfl) (by kernel_rfl) (fun _ _ _ h => h) (Or.inl ⟨by kernel_rfl, by intro w' hS; go_simp⟩) hH0 ?_
  simp only [Act.put, List.getElem_toArray, List.getElem_cons_zero, List.getElem_cons_succ, List.setIfInBounds_toArray, List.set_cons_zero, List.set_cons_succ]
  refine wpAnyH_take (i := 16) (v := (.pointer (some ⟨g', 0, none⟩))) rfl (by kernel_rfl) (by kernel_rfl) (by kernel_rfl) (fun _ _ _ h => h) (Or.inl ⟨by kernel_rfl, by intro w' hS; go_simp⟩) hH0 ?_
  simp only [Act.put, List.getElem_toArray, List.getElem_cons_zero, List.getElem_cons_succ, List.setIfInBounds_toArray, List.set_cons_zero, List.set_cons_succ]
  refine wpAnyH_take (i := 17) (v := (.pointer (some ⟨g', 2, none⟩))) rfl (by kernel_rfl) (by kernel_rfl) (by kernel_rfl) (fun _ _ _ h => h) (Or.inl ⟨by kernel_rfl, by intro w' hS; go_simp⟩) hH0 ?_
  simp only [Act.put, List.getElem_toArray, List.getElem_cons_zero, List.getElem_cons_succ, List.setIfInBounds_toArray, List.set_cons_zero, List.set_cons_succ]
  refine wpAnyH_take (i := 18) (v := (.slice va' n vc')) rfl (by kernel_rfl) (by kernel_rfl) (by kernel_rfl) (fun _ _ _ h => h) (Or.inl ⟨by kernel_rfl, by intro w' hS; have e0 := HD2.out w' hS; go_simp⟩) hH0 ?_
  simp only [Act.put, List.getElem_toArray, List.getElem_cons_zero, List.getElem_cons_succ, List.setIfInBounds_toArray, List.set_cons_zero, List.set_cons_succ]
  refine wpAnyH_take (i := 19) (v := (.int .i64 (n : Int))) rfl (by kernel_rfl) (by kernel_rfl) (by kernel_rfl) (fun _ _ _ h => h) (Or.inl ⟨by kernel_rfl, by intro w' hS; go_simp⟩) hH0 ?_
  simp only [Act.put, List.getElem_toArray, List.getElem_cons_zero, List.getElem_cons_succ, List.setIfInBounds_toArray, List.set_cons_zero, List.set_cons_succ]
  refine wpAnyH_take (i := 20) (v := (.bool false)) rfl (by kernel_rfl) (by kernel_rfl) (by kernel_rfl) (fun _ _ _ h => h) (Or.inl ⟨by kernel_rfl, by intro w' hS; go_simp⟩) hH0 ?_
  simp only [Act.put, List.getElem_toArray, List.getElem_cons_zero, List.getElem_cons_succ, List.setIfInBounds_toArray, List.set_cons_zero, List.set_cons_succ]
  refine wpAnyH_take (i := 21) (v := (.bool false)) rfl (by kernel_rfl) (by kernel_rfl) (by kernel_rfl) (fun _ _ _ h => h) (Or.inl ⟨by kernel_rfl, by intro w' hS; go_simp⟩) hH0 ?_
  simp only [Act.put, List.getElem_toArray, List.getElem_cons_zero, List.getElem_cons_succ, List.setIfInBounds_toArray, List.set_cons_zero, List.set_cons_succ]
  refine wpAnyH_take (i := 22) (v := (.bool false)) rfl (by kernel_rfl) (by kernel_rfl) (by kernel_rfl) (fun _ _ _ h => h) (Or.inl ⟨by kernel_rfl, by intro w' hS; go_simp⟩) hH0 ?_
  simp only [Act.put, List.getElem_toArray, List.getElem_cons_zero, List.getElem_cons_succ, List.setIfInBounds_toArray, List.set_cons_zero, List.set_cons_succ]
  refine wpAnyH_take (i := 23) (v := (.pointer (some ⟨g, 0, none⟩))) rfl (by kernel_rfl) (by kernel_rfl) (by kernel_rfl) (fun _ _ _ h => h) (Or.inl ⟨by kernel_rfl, by intro w' hS; go_simp⟩) hH0 ?_
  simp only [Act.put, List.getElem_toArray, List.getElem_cons_zero, List.getElem_cons_succ, List.setIfInBounds_toArray, List.set_cons_zero, List.set_cons_succ]
  refine wpAnyH_take (i := 25) (v := (.pointer (some ⟨g', 0, none⟩))) rfl (by kernel_rfl) (by kernel_rfl) (by kernel_rfl) (fun _ _ _ h => h) (Or.inl ⟨by kernel_rfl, by intro w' hS; go_simp⟩) hH0 ?_
  simp only [Act.put, List.getElem_toArray, List.getElem_cons_zero, List.getElem_cons_succ, List.setIfInBounds_toArray, List.set_cons_zero, List.set_cons_succ]
  refine wpAnyH_ready (rs := [24]) (by kernel_rfl) (by simp) ?_
  refine AllReadyH.cons rfl (fun K hK => ?_) AllReadyH.nil
  go_simp
  refine (HSUM.out _ 0 (.inl rfl) hH0).mono ?_
  rintro _ w1 ⟨x0, ys0, rfl, is0, ow0, hl0, hb1⟩
  refine Shut.out hK _ _ hb1 (fun hH1 => ?_)
  clear hK K
  try simp only [Act.put, List.getElem_toArray, List.getElem_cons_zero, List.getElem_cons_succ, List.setIfInBounds_toArray, List.set_cons_zero, List.set_cons_succ]
  refine wpAnyH_ready (rs := [26]) (by kernel_rfl) (by simp) ?_
  refine AllReadyH.cons rfl (fun K hK => ?_) AllReadyH.nil
  go_simp
  refine (HSUM'.out _ 0 (.inl rfl) hH1).mono ?_
  rintro _ w2 ⟨y0, zs0, rfl, js0, pw0, hl0', hb2, hg2⟩
  refine Shut.out hK _ _ hb2 (fun hH2 => ?_)
  clear hK K
  try simp only [Act.put, List.getElem_toArray, List.getElem_cons_zero, List.getElem_cons_succ, List.setIfInBounds_toArray, List.set_cons_zero, List.set_cons_succ]
  refine wpAnyH_ready (rs := [27]) (by kernel_rfl) (by simp) ?_
  refine AllReadyH.cons rfl (fun K hK => ?_) AllReadyH.nil
  go_simp
  refine (equal_lit _ x0 y0 ys0 zs0 true (own_kept ow0 (Kept.of_below (S := fun _ => False) hg2) (fun _ _ h => h)) pw0 hl0 hl0' (HQ0.out _ _ is0 js0)).mono ?_
  rintro _ w3 ⟨rfl, hg3⟩
  have hb3 := Below.trans hH2 (hg3.mono (Below.size hH2))
  refine Shut.out hK _ _ hb3 (fun hH3 => ?_)
  clear hK K
  try simp only [Act.put, List.getElem_toArray, List.getElem_cons_zero, List.getElem_cons_succ, List.setIfInBounds_toArray, List.set_cons_zero, List.set_cons_succ]
  refine wpAnyH_take (i := 28) (v := (.bool false)) rfl (by kernel_rfl) (by kernel_rfl) (by kernel_rfl) (fun _ _ _ h => h) (Or.inl ⟨by kernel_rfl, by intro w' hS; go_simp⟩) hH3 ?_
  simp only [Act.put, List.getElem_toArray, List.getElem_cons_zero, List.getElem_cons_succ, List.setIfInBounds_toArray, List.set_cons_zero, List.set_cons_succ]
  refine wpAnyH_take (i := 29) (v := (.bool false)) rfl (by kernel_rfl) (by kernel_rfl) (by kernel_rfl) (fun _ _ _ h => h) (Or.inl ⟨by kernel_rfl, by intro w' hS; go_simp⟩) hH3 ?_
  simp only [Act.put, List.getElem_toArray, List.getElem_cons_zero, List.getElem_cons_succ, List.setIfInBounds_toArray, List.set_cons_zero, List.set_cons_succ]
  refine wpAnyH_take (i := 30) (v := (.bool false)) rfl (by kernel_rfl) (by kernel_rfl) (by kernel_rfl) (fun _ _ _ h => h) (Or.inl ⟨by kernel_rfl, by intro w' hS; go_simp⟩) hH3 ?_
  simp only [Act.put, List.getElem_toArray, List.getElem_cons_zero, List.getElem_cons_succ, List.setIfInBounds_toArray, List.set_cons_zero, List.set_cons_succ]
  refine wpAnyH_take (i := 31) (v := (.pointer (some ⟨g, 0, none⟩))) rfl (by kernel_rfl) (by kernel_rfl) (by kernel_rfl) (fun _ _ _ h => h) (Or.inl ⟨by kernel_rfl, by intro w' hS; go_simp⟩) hH3 ?_
  simp only [Act.put, List.getElem_toArray, List.getElem_cons_zero, List.getElem_cons_succ, List.setIfInBounds_toArray, List.set_cons_zero, List.set_cons_succ]
  refine wpAnyH_take (i := 33) (v := (.pointer (some ⟨g', 0, none⟩))) rfl (by kernel_rfl) (by kernel_rfl) (by kernel_rfl) (fun _ _ _ h => h) (Or.inl ⟨by kernel_rfl, by intro w' hS; go_simp⟩) hH3 ?_
  simp only [Act.put, List.getElem_toArray, List.getElem_cons_zero, List.getElem_cons_succ, List.setIfInBounds_toArray, List.set_cons_zero, List.set_cons_succ]
  refine wpAnyH_ready (rs := [32]) (by kernel_rfl) (by simp) ?_
  refine AllReadyH.cons rfl (fun K hK => ?_) AllReadyH.nil
  go_simp
  refine (HSUM.out _ 1 (.inr rfl) hH3).mono ?_
  rintro _ w4 ⟨x1, ys1, rfl, is1, ow1, hl1, hb4⟩
  refine Shut.out hK _ _ hb4 (fun hH4 => ?_)
  clear hK K
  try simp only [Act.put, List.getElem_toArray, List.getElem_cons_zero, List.getElem_cons_succ, List.setIfInBounds_toArray, List.set_cons_zero, List.set_cons_succ]
  refine wpAnyH_ready (rs := [34]) (by kernel_rfl) (by simp) ?_
  refine AllReadyH.cons rfl (fun K hK => ?_) AllReadyH.nil
  go_simp
  refine (HSUM'.out _ 1 (.inr rfl) hH4).mono ?_
  rintro _ w5 ⟨y1, zs1, rfl, js1, pw1, hl1', hb5, hg5⟩
  refine Shut.out hK _ _ hb5 (fun hH5 => ?_)
  clear hK K
  try simp only [Act.put, List.getElem_toArray, List.getElem_cons_zero, List.getElem_cons_succ, List.setIfInBounds_toArray, List.set_cons_zero, List.set_cons_succ]
  refine wpAnyH_ready (rs := [35]) (by kernel_rfl) (by simp) ?_
  refine AllReadyH.cons rfl (fun K hK => ?_) AllReadyH.nil
  go_simp
  refine (equal_lit _ x1 y1 ys1 zs1 true (own_kept ow1 (Kept.of_below (S := fun _ => False) hg5) (fun _ _ h => h)) pw1 hl1 hl1' (HQ1.out _ _ is1 js1)).mono ?_
  rintro _ w6 ⟨rfl, hg6⟩
  have hb6 := Below.trans hH5 (hg6.mono (Below.size hH5))
  refine Shut.out hK _ _ hb6 (fun hH6 => ?_)
  clear hK K
  try simp only [Act.put, List.getElem_toArray, List.getElem_cons_zero, List.getElem_cons_succ, List.setIfInBounds_toArray, List.set_cons_zero, List.set_cons_succ]
  refine wpAnyH_take (i := 36) (v := (.bool false)) rfl (by kernel_rfl) (by kernel_rfl) (by kernel_rfl) (fun _ _ _ h => h) (Or.inl ⟨by kernel_rfl, by intro w' hS; go_simp⟩) hH6 ?_
  simp only [Act.put, List.getElem_toArray, List.getElem_cons_zero, List.getElem_cons_succ, List.setIfInBounds_toArray, List.set_cons_zero, List.set_cons_succ]
  refine wpAnyH_take (i := 37) (v := (.bool false)) rfl (by kernel_rfl) (by kernel_rfl) (by kernel_rfl) (fun _ _ _ h => h) (Or.inl ⟨by kernel_rfl, by intro w' hS; go_simp⟩) hH6 ?_
  simp only [Act.put, List.getElem_toArray, List.getElem_cons_zero, List.getElem_cons_succ, List.setIfInBounds_toArray, List.set_cons_zero, List.set_cons_succ]
  refine wpAnyH_done (by kernel_rfl) ?_ _
  refine NoPanic.normal ?_
  have HB6 := Lib.hid hb6
  clear hb6 hb1 hg2 hb2 hg3 hb3 hb4 hg5 hb5 hg6 is0 ow0 hl0 js0 pw0 hl0' is1 ow1 hl1 js1 pw1 hl1' hbd htn HSUM HSUM' HQ0 HQ1 HC3 HC4 HD3 HD4
  by_cases hz : n = 0
  · subst hz
    have c2 := HC2.out w6 HB6.out
    go_wp2
    refine wp_loop_rounds 1 ?_
    rw [rounds_succ]
    go_wp2
    go_ret
    exact ⟨rfl, HB6.out⟩
  · obtain ⟨B1, cap1, cur1, e1, -, -⟩ := own_open HA.out.row (by rw [← HNN.out]; omega)
    obtain ⟨B2, cap2, cur2, e2, -, -⟩ := own_open HA'.out.row (by rw [← HNN'.out]; omega)
    rw [HV.out] at e1
    rw [HV'.out] at e2
    injection e1 with e1 _ _
    injection e2 with e2 _ _
    subst e1 e2
    have c2 := HC2.out w6 HB6.out
    go_wp2_with fail
    go_loopw [60] (fun i wr => ∃ k : Nat, i = .int .i64 (k : Int) ∧ k ≤ n ∧ Below w.heap.size w wr) (fun i _ => n - (intOf i).toNat)
    case atStart => exact ⟨0, rfl, Nat.zero_le _, HB6.out⟩
    case round =>
      obtain ⟨k, rfl, hk, hbel⟩ := hrel
      have HBL := Lib.hid hbel
      clear hbel c2
      by_cases hlt : k < n
      · obtain ⟨o, ho⟩ : ∃ o, b.offers[k]? = some o := ⟨_, List.getElem?_eq_getElem (by rw [← HNN.out]; exact hlt)⟩
        have hook := HB.out.off o (List.mem_of_getElem? ho)
        have hok' : ∀ o ∈ b'.offers, o.ok := HB'.out.off
        obtain ⟨gx, cx, ex, -, -, hr1⟩ := off_range HA.out.row HB.out.off ho
        obtain ⟨gy, cy, ey, -, -, hr2⟩ := off_range HA'.out.row hok' (show b'.offers[k]? = some o by rw [HOFF.out]; exact ho)
        rw [HV.out] at ex
        rw [HV'.out] at ey
        injection ex with ex _ _
        injection ey with ey _ _
        injection ex with ex
        injection ey with ey
        injection ex with ex _ _
        injection ey with ey _ _
        subst ex ey
        rw [Nat.mul_comm] at hr1 hr2
        have hfi : findI b'.offers o.frm o.no = k := by
          rw [HOFF.out]
          exact findI_at _ _ _ k o ho ⟨rfl, rfl⟩ (fun j p hj hp hc => by have := HUQ.out j k p o hp ho hc.1 hc.2; omega)
        have hfind : ∀ W, Below w.heap.size w W → Calls Tryd.prog 33 #[.pointer (some ⟨g', 0, none⟩), .int .i64 o.frm, .int .i64 o.no] W fun e w' => e = .returned (.int .i64 (k : Int)) ∧ Below w.heap.size w w' ∧ Below W.heap.size W w' := fun W hW => by
          have := find_is W g' m0' m1' _ b' o.frm o.no (HA'.out.kept (Kept.of_below (S := fun _ => False) hW) (fun _ _ h => h)) HB'.out
          rw [hfi] at this
          exact this.mono fun e w' he => ⟨he.1, hW.trans (he.2.mono hW.size), he.2⟩
        have hL68 := o.length hook
        obtain ⟨L, hL⟩ : ∃ L, L = o.cells := ⟨_, rfl⟩
        have hno : L[0]? = some (.int .i64 o.no) := by rw [hL]; rfl
        have hfr : L[1]? = some (.int .i64 o.frm) := by rw [hL]; rfl
        have hone : L.toArray.all (·.oneCell') = true := by rw [hL]; exact all_oneCell_toArray (off_one o)
        have hneq : ∀ W : World, (binOp .neq 32 (.agg L.toArray) (.agg L.toArray)).run Tryd.prog W = .ok (.bool false) W := fun W => by
          rw [hL, run_neq_struct, off_eq o o hook hook, decide_eq_true rfl]; rfl
        obtain ⟨Z, hz9, hzs, hzn⟩ := zero_off
        rw [← hL] at hr1 hr2 hL68
        have hr1' := rangeAt_kept hr1 (Kept.of_below (S := fun _ => False) HBL.out) (fun h => h)
        have SZL := Lib.hid (show (Tryd.prog.info? 32).map (·.size) = some L.length by rw [hL68]; kernel_rfl)
        have SZA := Lib.hid (show (Tryd.prog.info? 32).map (·.size) = some L.toArray.size by rw [List.size_toArray]; exact SZL.out)
        have HZZ := Lib.hid (show Z.size = L.toArray.size by rw [hzs, List.size_toArray, hL68])
        have HONE := Lib.hid hone
        have HR1 := Lib.hid hr1'
        have HR2 := Lib.hid hr2
        have HNO := Lib.hid hno
        have HFR := Lib.hid hfr
        have HFIND := Lib.hid hfind
        have HNEQ := Lib.hid hneq
        have hnw : ∀ C, Has ((wr.alloc (.cells Z 32)).setRow wr.heap.size C) wr.heap.size 32 C ∧ Kept (fun _ => False) wr ((wr.alloc (.cells Z 32)).setRow wr.heap.size C) := fun C => by
          rw [World.setRow_alloc_new]
          exact ⟨Has.new wr _ _, (Kept.refl _ _).alloc _⟩
        have HNW := Lib.hid hnw
        clear ho hook hok' hr1 hr2 hfi hfind hL68 hno hfr hone hneq hr1' hnw hL
        go_upto_region 8 with (first
          | (refine wpList_load_mid rfl 32 (.tmp 62) rfl B1 (k * 68) rfl L _ HR1.out Tryd.underlying32 rfl SZL.out ?_)
          | (refine wpList_store_row rfl 32 (.tmp 6) (.tmp 63) rfl wr.heap.size L.toArray rfl rfl 32 Z (heap_alloc_new wr _) SZA.out HZZ.out HONE.out ?_))
        obtain ⟨h9, hk9⟩ := HNW.out L.toArray
        generalize (wr.alloc (.cells Z 32)).setRow wr.heap.size L.toArray = W9 at h9 hk9 ⊢
        generalize wr.heap.size = G at h9 ⊢
        have c0 : W9.cell? ⟨G, 0, none⟩ = some (.int .i64 o.no) := h9.cell_is (by rw [List.getElem?_toArray]; exact HNO.out)
        have c1 : W9.cell? ⟨G, 1, none⟩ = some (.int .i64 o.frm) := h9.cell_is (by rw [List.getElem?_toArray]; exact HFR.out)
        have hb9 : Below w.heap.size w W9 := HBL.out.trans (hk9.below HBL.out.size (fun _ h => h.elim))
        have hcall := HFIND.out W9 hb9
        have H9 := Lib.hid h9
        have HCALL := Lib.hid hcall
        clear hcall hk9 h9 hb9
        go_upto_region 9 with (refine HCALL.out.mono ?_; rintro _ w5 ⟨rfl, hb5, hb5'⟩)
        have hS9 : w5.drew.cell? ⟨g', 2, none⟩ = some (.slice (some ⟨B2, 0, none⟩) n vc') ∧ w5.drew.rangeAt B2 (k * 68) L ∧ w5.drew.rangeAt G 0 L :=
          ⟨HD2.out w5 hb5, rangeAt_kept HR2.out (Kept.of_below (S := fun _ => False) hb5.drew) (fun h => h), (H9.out.kept (Kept.of_below (S := fun _ => False) hb5') (fun h => h)).drew.range⟩
        have HB5 := Lib.hid hb5.drew
        have hneq := HNEQ.out
        have hk0i : (0 : Int) ≤ (k : Int) := by omega
        have hk1i : (k : Int) < (n : Int) := by omega
        have hk2i : ((k : Int)).toNat = k := by omega
        have hk3i : ¬ ((k : Int) < 0) := by omega
        clear hb5 hb5' c0 c1
        refine wp_region_noPanic ?_
        refine wp_region_held_drew (S := fun w' => w'.cell? ⟨g', 2, none⟩ = some (.slice (some ⟨B2, 0, none⟩) n vc') ∧ w'.rangeAt B2 (k * 68) L ∧ w'.rangeAt G 0 L) (by kernel_rfl) hS9 (fun hH0 => ?_)
        refine wpAnyH_take (i := 0) (v := (.int .i64 (k : Int))) rfl (by kernel_rfl) (by kernel_rfl) (by kernel_rfl) (fun _ _ _ h => h) (Or.inl ⟨by kernel_rfl, by intro w' hS; obtain ⟨e0, e1, e2⟩ := hS; go_simp⟩) hH0 ?_
        simp only [Act.put, List.getElem_toArray, List.getElem_cons_zero, List.getElem_cons_succ, List.setIfInBounds_toArray, List.set_cons_zero, List.set_cons_succ]
        refine wpAnyH_take (i := 1) (v := (.bool false)) rfl (by kernel_rfl) (by kernel_rfl) (by kernel_rfl) (fun _ _ _ h => h) (Or.inl ⟨by kernel_rfl, by intro w' hS; obtain ⟨e0, e1, e2⟩ := hS; go_simp⟩) hH0 ?_
        simp only [Act.put, List.getElem_toArray, List.getElem_cons_zero, List.getElem_cons_succ, List.setIfInBounds_toArray, List.set_cons_zero, List.set_cons_succ]
        refine wpAnyH_take (i := 2) (v := (.bool false)) rfl (by kernel_rfl) (by kernel_rfl) (by kernel_rfl) (fun _ _ _ h => h) (Or.inl ⟨by kernel_rfl, by intro w' hS; obtain ⟨e0, e1, e2⟩ := hS; go_simp⟩) hH0 ?_
        simp only [Act.put, List.getElem_toArray, List.getElem_cons_zero, List.getElem_cons_succ, List.setIfInBounds_toArray, List.set_cons_zero, List.set_cons_succ]
        refine wpAnyH_take (i := 3) (v := (.pointer (some ⟨g', 0, none⟩))) rfl (by kernel_rfl) (by kernel_rfl) (by kernel_rfl) (fun _ _ _ h => h) (Or.inl ⟨by kernel_rfl, by intro w' hS; obtain ⟨e0, e1, e2⟩ := hS; go_simp⟩) hH0 ?_
        simp only [Act.put, List.getElem_toArray, List.getElem_cons_zero, List.getElem_cons_succ, List.setIfInBounds_toArray, List.set_cons_zero, List.set_cons_succ]
        refine wpAnyH_take (i := 4) (v := (.pointer (some ⟨g', 0, none⟩))) rfl (by kernel_rfl) (by kernel_rfl) (by kernel_rfl) (fun _ _ _ h => h) (Or.inl ⟨by kernel_rfl, by intro w' hS; obtain ⟨e0, e1, e2⟩ := hS; go_simp⟩) hH0 ?_
        simp only [Act.put, List.getElem_toArray, List.getElem_cons_zero, List.getElem_cons_succ, List.setIfInBounds_toArray, List.set_cons_zero, List.set_cons_succ]
        refine wpAnyH_take (i := 5) (v := (.pointer (some ⟨g', 2, none⟩))) rfl (by kernel_rfl) (by kernel_rfl) (by kernel_rfl) (fun _ _ _ h => h) (Or.inl ⟨by kernel_rfl, by intro w' hS; obtain ⟨e0, e1, e2⟩ := hS; go_simp⟩) hH0 ?_
        simp only [Act.put, List.getElem_toArray, List.getElem_cons_zero, List.getElem_cons_succ, List.setIfInBounds_toArray, List.set_cons_zero, List.set_cons_succ]
        refine wpAnyH_take (i := 6) (v := (.slice (some ⟨B2, 0, none⟩) n vc')) rfl (by kernel_rfl) (by kernel_rfl) (by kernel_rfl) (fun _ _ _ h => h) (Or.inl ⟨by kernel_rfl, by intro w' hS; obtain ⟨e0, e1, e2⟩ := hS; go_simp⟩) hH0 ?_
        simp only [Act.put, List.getElem_toArray, List.getElem_cons_zero, List.getElem_cons_succ, List.setIfInBounds_toArray, List.set_cons_zero, List.set_cons_succ]
        refine wpAnyH_take (i := 7) (v := (.int .i64 (k : Int))) rfl (by kernel_rfl) (by kernel_rfl) (by kernel_rfl) (fun _ _ _ h => h) (Or.inl ⟨by kernel_rfl, by intro w' hS; obtain ⟨e0, e1, e2⟩ := hS; go_simp⟩) hH0 ?_
        simp only [Act.put, List.getElem_toArray, List.getElem_cons_zero, List.getElem_cons_succ, List.setIfInBounds_toArray, List.set_cons_zero, List.set_cons_succ]
        refine wpAnyH_take (i := 8) (v := (.pointer (some ⟨B2, k * 68, none⟩))) rfl (by kernel_rfl) (by kernel_rfl) (by kernel_rfl) (fun _ _ _ h => h) (Or.inl ⟨by kernel_rfl, by intro w' hS; obtain ⟨e0, e1, e2⟩ := hS; go_simp⟩) hH0 ?_
        simp only [Act.put, List.getElem_toArray, List.getElem_cons_zero, List.getElem_cons_succ, List.setIfInBounds_toArray, List.set_cons_zero, List.set_cons_succ]
        refine wpAnyH_take (i := 9) (v := (.agg L.toArray)) rfl (by kernel_rfl) (by kernel_rfl) (by kernel_rfl) (fun _ _ _ h => h) (yieldsIf_load_mid (by kernel_rfl) 32 (.tmp 78) rfl B2 (k * 68) rfl L _ (fun w' h => h.2.1) Tryd.underlying32 rfl SZL.out) hH0 ?_
        simp only [Act.put, List.getElem_toArray, List.getElem_cons_zero, List.getElem_cons_succ, List.setIfInBounds_toArray, List.set_cons_zero, List.set_cons_succ]
        refine wpAnyH_take (i := 10) (v := (.agg L.toArray)) rfl (by kernel_rfl) (by kernel_rfl) (by kernel_rfl) (fun _ _ _ h => h) (yieldsIf_load_mid (by kernel_rfl) 32 (.tmp 6) rfl G 0 rfl L _ (fun w' h => h.2.2) Tryd.underlying32 rfl SZL.out) hH0 ?_
        simp only [Act.put, List.getElem_toArray, List.getElem_cons_zero, List.getElem_cons_succ, List.setIfInBounds_toArray, List.set_cons_zero, List.set_cons_succ]
        refine wpAnyH_take (i := 11) (v := (.bool false)) rfl (by kernel_rfl) (by kernel_rfl) (by kernel_rfl) (fun _ _ _ h => h) (Or.inl ⟨by kernel_rfl, by intro w' hS; obtain ⟨e0, e1, e2⟩ := hS; go_simp⟩) hH0 ?_
        simp only [Act.put, List.getElem_toArray, List.getElem_cons_zero, List.getElem_cons_succ, List.setIfInBounds_toArray, List.set_cons_zero, List.set_cons_succ]
        refine wpAnyH_take (i := 12) (v := (.bool false)) rfl (by kernel_rfl) (by kernel_rfl) (by kernel_rfl) (fun _ _ _ h => h) (Or.inl ⟨by kernel_rfl, by intro w' hS; obtain ⟨e0, e1, e2⟩ := hS; go_simp⟩) hH0 ?_
        simp only [Act.put, List.getElem_toArray, List.getElem_cons_zero, List.getElem_cons_succ, List.setIfInBounds_toArray, List.set_cons_zero, List.set_cons_succ]
        refine wpAnyH_done (by kernel_rfl) ?_ _
        refine NoPanic.normal ?_
        clear hneq hS9 hk2i hk3i
        go_wp2
        go_roundw
        case rel => exact ⟨k + 1, by go_num, by omega, HB5.out⟩
        case measure => simp [intOf]; omega
      · have hkn : k = n := by omega
        subst hkn
        clear hlt
        go_wp2
        go_ret
        exact ⟨rfl, HBL.out⟩
end Go.Proofs.YtnddejgglbdkmaaDoor
