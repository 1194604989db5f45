/- The walk of LeafAlone. -/
import Derived.Test.YtngmpcmeebcdmaaDoorLpl
namespace Go.Proofs.YtngmpcmeebcdmaaDoor
set_option linter.unusedVariables false
set_option linter.unusedSimpArgs false
open Go.ChangeShapes Go.WideShapes Go.ChangeAt Go.RowKit Go.Maps

/-- one leaf of an amount makes a transfer. -/
theorem one_tree {x : LeafT} (hx : x.ok) (h1 : x.am ≠ 0) : tlAt KS SS (placed [x]) 1 = .ok (partsT KS SS (placed [x])) := by
  have hok : ∀ l ∈ [x], l.ok := fun l hl => by
    simp only [List.mem_cons, List.not_mem_nil, or_false] at hl
    subst hl
    exact hx
  have h := tl_makes (ls := placed [x]) (placed_ok hok (by simp)) (fun i l h => by
    have hi := (List.getElem?_eq_some_iff.1 h).1
    rw [placed_len] at hi
    have hi2 : i < 1 := hi
    obtain rfl : i = 0 := by omega
    rw [placed_get (l := x) rfl] at h; injection h with h; subst h; exact ⟨rfl, h1⟩) (by show x.am + 0 < _; have := hx.am; omega) 1 (by decide) (by rw [placed_len]; exact Nat.le_refl _)
  exact h
theorem none_tree {x : LeafT} (h1 : x.am = 0) : tlAt KS SS (placed [x]) 1 = .error 22 := by
  rw [tlAt_succ (T := []) (l := plF 0 x) rfl (placed_get rfl), tlStep, if_pos (.inr h1)]
/-- by no proof the leaf is none of them. -/
theorem of_none {K s0 : List Wd} {l : LeafT} (h1 : leafBad l = false) : ofE K s0 l (List.replicate 32 0) [] = 20 := by
  unfold ofE
  rw [h1, if_neg (by decide)]
  have e : pfAt K s0 (bareB (List.replicate 32 0)) (placeK K s0 l.pl.toNat) [] (leafNd K s0 (l.id ++ l.ow) l.am) 1 = .error 20 := pfAt_none 0 rfl (bareB_zero 0 (by decide)) rfl
  rw [pf_err (by decide) e]
  rfl
theorem bareB_zeros : IsHash (List.replicate 32 0) := zNd_hash
theorem alone_nodes (x : LeafT) : nodesF KS SS (besF KS SS (partsT KS SS (placed [x])) (placeK KS SS 0)) 256 = [] :=
  nodesF_all 256 (fun h _ => bareF_own KS SS (partL KS SS 0 (plF 0 x)) h)
set_option maxRecDepth 100000 in
set_option maxHeartbeats 2000000 in
theorem leafAlone_walk (w : World) (hT : Tabs KS SS w) (x : LeafT) (hx : x.ok) : Calls Tryd.prog 11 #[.agg x.cells.toArray] w fun e w' => e = .returned (.bool true) ∧ Below w.heap.size w w' := by
  obtain ⟨Z, hinfo, hzs⟩ := info_leafT
  obtain ⟨Zp, hzp, hzb, hzps, hzpn, HZPE⟩ := zero_proofB
  obtain ⟨LZ, hLZ⟩ : ∃ L, L = pcells (List.replicate 32 0) none 0 0 := ⟨_, rfl⟩
  have hZL : Zp = LZ.toArray := by rw [HZPE, hLZ]
  subst hZL
  have ELZ := Lib.hid hLZ
  clear HZPE hLZ
  have hlow := hT.low
  have HT := Lib.hid hT
  have HX := Lib.hid hx
  have HINFO := Lib.hid hinfo
  obtain ⟨CX, hCX⟩ : ∃ L, L = x.cells := ⟨_, rfl⟩
  obtain ⟨xm, hxm⟩ : ∃ z, z = x.am := ⟨_, rfl⟩
  rw [← hCX]
  have ECX := Lib.hid hCX
  have EXM := Lib.hid hxm
  have LX := Lib.hid (show CX.length = 99 by rw [hCX]; exact LeafT.len hx)
  have SZX := Lib.hid (show (Tryd.prog.info? 103).map (·.size) = some CX.toArray.size by rw [List.size_toArray, LX.out]; kernel_rfl)
  have HC32 := Lib.hid (show ∀ v : World, Has v w.heap.size 103 CX.toArray → v.cell? ⟨w.heap.size, 32, none⟩ = some (.int .u64 (xm : Int)) from fun v hv => hv.cell_is (by rw [List.getElem?_toArray, hCX, hxm]; exact LeafT.at_am hx))
  have hok1 : ∀ l ∈ [x], l.ok := fun l hl => by
    simp only [List.mem_cons, List.not_mem_nil, or_false] at hl
    subst hl
    exact hx
  have HOK1 := Lib.hid hok1
  obtain ⟨ii, hii⟩ : ∃ ii, Tryd.prog.info? 103 = some ii ∧ ii.zero = some (.agg Z) ∧ ii.size = 99 := by
    obtain ⟨ii, q1, q2, q3, -⟩ := info_parts hinfo
    exact ⟨ii, q1, q2, q3⟩
  have HII := Lib.hid hii
  have HZ99 := Lib.hid hzs
  clear hx hCX hxm hinfo hT hok1 hii hzs
  go_enter Tryd.func11, Tryd.ntmps11
  go_upto_region 1 with (fail)
  have H1 := Lib.hid (Has.new w 103 CX.toArray)
  have HB1 := Lib.hid (show Below w.heap.size w (w.alloc (.cells CX.toArray 103)) from (Below.refl _ _).alloc (Nat.le_refl _) _)
  obtain ⟨W1, hW1⟩ : ∃ W, W = w.alloc (.cells CX.toArray 103) := ⟨_, rfl⟩
  rw [← hW1] at H1 HB1 ⊢
  clear hW1
  obtain ⟨B, hB⟩ : ∃ y, y = w.heap.size := ⟨_, rfl⟩
  rw [← hB] at H1 HC32 ⊢
  clear hB
  go_wp2_with fail
  refine (headL_is _ (HT.out.below HB1.out hlow)).mono ?_
  rintro _ w2 ⟨rfl, hb2⟩
  have H2 := Lib.hid (H1.out.below hb2 H1.out.lt)
  have HB2 := Lib.hid (HB1.out.trans (hb2.mono HB1.out.size))
  clear hb2 H1 HB1
  obtain ⟨W3, hW3⟩ : ∃ W, W = w2.alloc (.cells CX.toArray 103) := ⟨_, rfl⟩
  have hh3 : Has W3 w2.heap.size 103 ([x].flatMap LeafT.cells).toArray := by
    rw [hW3, ECX.out]
    simpa using Has.new w2 103 x.cells.toArray
  have hb3 : Below w2.heap.size w2 W3 := by rw [hW3]; exact (Below.refl _ _).alloc (Nat.le_refl _) _
  have HC3 := Lib.hid (lfParts_is KS SS W3 (HT.out.below (HB2.out.trans (hb3.mono HB2.out.size)) hlow) (some ⟨w2.heap.size, 0, none⟩) 1 1 [x] (rows_has hh3 (len_cells HOK1.out)) HOK1.out (by decide))
  have HB3 := Lib.hid hb3
  have EW3 := Lib.hid hW3
  clear hh3 hb3 hW3
  go_wp2_with (first
    | (refine wpList_load_row rfl 103 (.tmp 1) rfl B rfl 103 CX.toArray (0, 0) _ H2.out Tryd.underlying103 rfl SZX.out ?_)
    | (refine wpList_build1 rfl 98 103 (.tmp 10) rfl ii (.agg Z) Tryd.underlying98 HII.out.1 HII.out.2.1 CX (by rw [HII.out.2.2, LX.out]) (by rw [LX.out]; exact HZ99.out) (by rw [LX.out]; decide) (by rw [LX.out]; decide) rfl ?_))
  rw [← EW3.out]
  refine HC3.out.mono ?_
  rintro _ w6 ⟨hb6, hm⟩
  have hb26 := HB3.out.trans (hb6.mono HB3.out.size)
  have HB26 := Lib.hid hb26
  have HB6 := Lib.hid (HB2.out.trans (hb26.mono HB2.out.size))
  have H6 := Lib.hid (H2.out.below hb26 H2.out.lt)
  have c32 := HC32.out w6 H6.out
  clear hb26 hb6 HC3 EW3 HB3
  by_cases h0 : xm = 0
  · rw [none_tree (by rw [← EXM.out]; exact h0)] at hm
    dsimp only at hm
    subst hm
    have h0' : ((xm : Int) == 0) = true := by rw [beq_iff_eq]; omega
    clear h0
    go_wp2_with fail
    go_ret
    exact ⟨rfl, HB6.out⟩
  · rw [one_tree HX.out (by rw [← EXM.out]; exact h0)] at hm
    dsimp only at hm
    obtain ⟨a1, cp, rfl, hown⟩ := hm
    have HTRE := Lib.hid (one_tree HX.out (by rw [← EXM.out]; exact h0))
    obtain ⟨b, rfl, hg, hl, hrh, hrs, hr64, hso, hrow⟩ := parts_out HOK1.out rfl (by simp) (by simp) HTRE.out hown
    obtain ⟨r, hr⟩ : ∃ r, r = partNd KS SS 256 (partsT KS SS (placed [x])) := ⟨_, rfl⟩
    rw [← hr] at hrs hrow hso
    have g0 : (splitL r (placed [x]))[0]? = some (spF r 0 (plF 0 x)) := split_get (placed_get rfl)
    have k0 := hso _ (List.mem_of_getElem? g0)
    have h0' : ((xm : Int) == 0) = false := by rw [beq_eq_false_iff_ne]; omega
    have hrs' : r.s = xm := by rw [hrs, EXM.out]; show x.am + 0 = _; omega
    have HR := Lib.hid (show ∀ v, Below w6.heap.size w6 v → v.rangeAt b 0 (spF r 0 (plF 0 x)).cells from fun v hv => by simpa using leaf_row (hrow.below hv) g0)
    obtain ⟨xi, hxi⟩ : ∃ z, z = x.id := ⟨_, rfl⟩
    obtain ⟨xo, hxo⟩ : ∃ z, z = x.ow := ⟨_, rfl⟩
    have hi1 : IsHash xi := by rw [hxi]; exact HX.out.id
    have hi3 : IsHash xo := by rw [hxo]; exact HX.out.ow
    have HI1 := Lib.hid (show ∀ v, Below w6.heap.size w6 v → v.rangeAt b 0 (bcells xi) from fun v hv => by rw [hxi]; have := row_id k0 (HR.out v hv); simpa [spF, plF] using this)
    have HI2 := Lib.hid (show ∀ v, Below w6.heap.size w6 v → v.rangeAt B 0 (bcells xi) from fun v hv => by rw [hxi]; exact row_id HX.out (by rw [← ECX.out]; exact (H6.out.below hv H6.out.lt).row0))
    have HI3 := Lib.hid (show ∀ v, Below w6.heap.size w6 v → v.rangeAt b 33 (bcells xo) from fun v hv => by rw [hxo]; simpa [spF, plF] using row_ow k0 (HR.out v hv))
    have HI4 := Lib.hid (show ∀ v, Below w6.heap.size w6 v → v.rangeAt B 33 (bcells xo) from fun v hv => by rw [hxo]; simpa using row_ow HX.out (show v.rangeAt B 0 x.cells by rw [← ECX.out]; exact (H6.out.below hv H6.out.lt).row0))
    have HC5 := Lib.hid (show ∀ v, Below w6.heap.size w6 v → v.cell? ⟨b, 98, none⟩ = some (.int .u64 (xm : Int)) ∧ v.cell? ⟨B, 32, none⟩ = some (.int .u64 (xm : Int)) ∧ v.cell? ⟨b, 65, none⟩ = some (.int .i64 0) from fun v hv => by
      refine ⟨?_, HC32.out v (H6.out.below hv H6.out.lt), ?_⟩
      · have := row_ss k0 (HR.out v hv)
        rw [show (spF r 0 (plF 0 x)).sp.s = xm from hrs'] at this
        simpa using this
      · have := row_pl k0 (HR.out v hv)
        simpa [spF, plF] using this)
    have ha0 := leaf_at0 b 1 cp (by decide)
    have SZI := Lib.hid (show ∀ z : List Nat, IsHash z → (Tryd.prog.info? 28).map (·.size) = some (bcells z).length from fun z hz => by rw [bcells_length, hz.1]; kernel_rfl)
    have hc1 := hash_eq_at 9998 xi xi hi1 hi1
    have hc3 := hash_eq_at 9998 xo xo hi3 hi3
    rw [decide_eq_true rfl] at hc1 hc3
    have HH := Lib.hid (And.intro hi1 hi3)
    have HT6 := Lib.hid (HT.out.below HB6.out hlow)
    have ER := Lib.hid hr
    have K0 := Lib.hid k0
    have HROW := Lib.hid hrow
    have HSO := Lib.hid hso
    clear h0 hown hxi hxo hi1 hi3 hg hl hrh hrs hr64 hso hrow g0 k0 hrs' hr
    go_upto_region 6 with (fail)
    have hS0 : Below w6.heap.size w6 w6.drew := below_drew (Below.refl _ _)
    refine wp_region_noPanic ?_
    refine wp_region_held_drew (S := (fun v => Below w6.heap.size w6 v)) (by kernel_rfl) hS0 (fun hH0 => ?_)
    apply wpAnyH_take (i := 0) (v := _) rfl (by kernel_rfl) (by kernel_rfl) (by kernel_rfl) (fun _ _ _ h => h) (Or.inl ⟨by kernel_rfl, ?hv⟩) hH0 ?_
    case hv => intro w' hS; obtain ⟨z0, z1, z2⟩ := HC5.out w' hS; go_simp; try exact rfl
    simp only [Act.put, List.getElem_toArray, List.getElem_cons_zero, List.getElem_cons_succ, List.setIfInBounds_toArray, List.set_cons_zero, List.set_cons_succ]
    apply wpAnyH_take (i := 1) (v := _) rfl (by kernel_rfl) (by kernel_rfl) (by kernel_rfl) (fun _ _ _ h => h) (Or.inl ⟨by kernel_rfl, ?hv⟩) hH0 ?_
    case hv => intro w' hS; obtain ⟨z0, z1, z2⟩ := HC5.out w' hS; go_simp; try exact rfl
    simp only [Act.put, List.getElem_toArray, List.getElem_cons_zero, List.getElem_cons_succ, List.setIfInBounds_toArray, List.set_cons_zero, List.set_cons_succ]
    apply wpAnyH_take (i := 2) (v := _) rfl (by kernel_rfl) (by kernel_rfl) (by kernel_rfl) (fun _ _ _ h => h) (Or.inl ⟨by kernel_rfl, ?hv⟩) hH0 ?_
    case hv => intro w' hS; obtain ⟨z0, z1, z2⟩ := HC5.out w' hS; go_simp; try exact rfl
    simp only [Act.put, List.getElem_toArray, List.getElem_cons_zero, List.getElem_cons_succ, List.setIfInBounds_toArray, List.set_cons_zero, List.set_cons_succ]
    apply wpAnyH_take (i := 3) (v := _) rfl (by kernel_rfl) (by kernel_rfl) (by kernel_rfl) (fun _ _ _ h => h) (Or.inl ⟨by kernel_rfl, ?hv⟩) hH0 ?_
    case hv => intro w' hS; obtain ⟨z0, z1, z2⟩ := HC5.out w' hS; go_simp; try exact rfl
    simp only [Act.put, List.getElem_toArray, List.getElem_cons_zero, List.getElem_cons_succ, List.setIfInBounds_toArray, List.set_cons_zero, List.set_cons_succ]
    apply wpAnyH_take (i := 4) (v := _) rfl (by kernel_rfl) (by kernel_rfl) (by kernel_rfl) (fun _ _ _ h => h) (Or.inl ⟨by kernel_rfl, ?hv⟩) hH0 ?_
    case hv => intro w' hS; obtain ⟨z0, z1, z2⟩ := HC5.out w' hS; go_simp; try exact rfl
    simp only [Act.put, List.getElem_toArray, List.getElem_cons_zero, List.getElem_cons_succ, List.setIfInBounds_toArray, List.set_cons_zero, List.set_cons_succ]
    apply wpAnyH_take (i := 5) (v := _) rfl (by kernel_rfl) (by kernel_rfl) (by kernel_rfl) (fun _ _ _ h => h) (Or.inl ⟨by kernel_rfl, ?hv⟩) hH0 ?_
    case hv => intro w' hS; obtain ⟨z0, z1, z2⟩ := HC5.out w' hS; go_simp; try exact rfl
    simp only [Act.put, List.getElem_toArray, List.getElem_cons_zero, List.getElem_cons_succ, List.setIfInBounds_toArray, List.set_cons_zero, List.set_cons_succ]
    apply wpAnyH_take (i := 6) (v := _) rfl (by kernel_rfl) (by kernel_rfl) (by kernel_rfl) (fun _ _ _ h => h) (Or.inl ⟨by kernel_rfl, ?hv⟩) hH0 ?_
    case hv => intro w' hS; obtain ⟨z0, z1, z2⟩ := HC5.out w' hS; go_simp; try exact rfl
    simp only [Act.put, List.getElem_toArray, List.getElem_cons_zero, List.getElem_cons_succ, List.setIfInBounds_toArray, List.set_cons_zero, List.set_cons_succ]
    apply wpAnyH_take (i := 7) (v := _) rfl (by kernel_rfl) (by kernel_rfl) (by kernel_rfl) (fun _ _ _ h => h) (Or.inl ⟨by kernel_rfl, ?hv⟩) hH0 ?_
    case hv => intro w' hS; obtain ⟨z0, z1, z2⟩ := HC5.out w' hS; go_simp; try exact rfl
    simp only [Act.put, List.getElem_toArray, List.getElem_cons_zero, List.getElem_cons_succ, List.setIfInBounds_toArray, List.set_cons_zero, List.set_cons_succ]
    apply wpAnyH_take (i := 8) (v := _) rfl (by kernel_rfl) (by kernel_rfl) (by kernel_rfl) (fun _ _ _ h => h) (Or.inl ⟨by kernel_rfl, ?hv⟩) hH0 ?_
    case hv => intro w' hS; obtain ⟨z0, z1, z2⟩ := HC5.out w' hS; go_simp; try exact rfl
    simp only [Act.put, List.getElem_toArray, List.getElem_cons_zero, List.getElem_cons_succ, List.setIfInBounds_toArray, List.set_cons_zero, List.set_cons_succ]
    apply wpAnyH_take (i := 9) (v := _) rfl (by kernel_rfl) (by kernel_rfl) (by kernel_rfl) (fun _ _ _ h => h) (Or.inl ⟨by kernel_rfl, ?hv⟩) hH0 ?_
    case hv => intro w' hS; obtain ⟨z0, z1, z2⟩ := HC5.out w' hS; go_simp; try exact rfl
    simp only [Act.put, List.getElem_toArray, List.getElem_cons_zero, List.getElem_cons_succ, List.setIfInBounds_toArray, List.set_cons_zero, List.set_cons_succ]
    apply wpAnyH_take (i := 10) (v := _) rfl (by kernel_rfl) (by kernel_rfl) (by kernel_rfl) (fun _ _ _ h => h) (Or.inl ⟨by kernel_rfl, ?hv⟩) hH0 ?_
    case hv => intro w' hS; obtain ⟨z0, z1, z2⟩ := HC5.out w' hS; go_simp; try exact rfl
    simp only [Act.put, List.getElem_toArray, List.getElem_cons_zero, List.getElem_cons_succ, List.setIfInBounds_toArray, List.set_cons_zero, List.set_cons_succ]
    apply wpAnyH_take (i := 11) (v := _) rfl (by kernel_rfl) (by kernel_rfl) (by kernel_rfl) (fun _ _ _ h => h) (Or.inl ⟨by kernel_rfl, ?hv⟩) hH0 ?_
    case hv => intro w' hS; obtain ⟨z0, z1, z2⟩ := HC5.out w' hS; go_simp; try exact rfl
    simp only [Act.put, List.getElem_toArray, List.getElem_cons_zero, List.getElem_cons_succ, List.setIfInBounds_toArray, List.set_cons_zero, List.set_cons_succ]
    apply wpAnyH_take (i := 12) (v := _) rfl (by kernel_rfl) (by kernel_rfl) (by kernel_rfl) (fun _ _ _ h => h) (Or.inl ⟨by kernel_rfl, ?hv⟩) hH0 ?_
    case hv => intro w' hS; obtain ⟨z0, z1, z2⟩ := HC5.out w' hS; go_simp; try exact rfl
    simp only [Act.put, List.getElem_toArray, List.getElem_cons_zero, List.getElem_cons_succ, List.setIfInBounds_toArray, List.set_cons_zero, List.set_cons_succ]
    apply wpAnyH_take (i := 13) (v := _) rfl (by kernel_rfl) (by kernel_rfl) (by kernel_rfl) (fun _ _ _ h => h) (Or.inl ⟨by kernel_rfl, ?hv⟩) hH0 ?_
    case hv => intro w' hS; obtain ⟨z0, z1, z2⟩ := HC5.out w' hS; go_simp; try exact rfl
    simp only [Act.put, List.getElem_toArray, List.getElem_cons_zero, List.getElem_cons_succ, List.setIfInBounds_toArray, List.set_cons_zero, List.set_cons_succ]
    apply wpAnyH_take (i := 14) (v := _) rfl (by kernel_rfl) (by kernel_rfl) (by kernel_rfl) (fun _ _ _ h => h) (Or.inl ⟨by kernel_rfl, ?hv⟩) hH0 ?_
    case hv => intro w' hS; obtain ⟨z0, z1, z2⟩ := HC5.out w' hS; go_simp; try exact rfl
    simp only [Act.put, List.getElem_toArray, List.getElem_cons_zero, List.getElem_cons_succ, List.setIfInBounds_toArray, List.set_cons_zero, List.set_cons_succ]
    apply wpAnyH_take (i := 15) (v := _) rfl (by kernel_rfl) (by kernel_rfl) (by kernel_rfl) (fun _ _ _ h => h) (Or.inl ⟨by kernel_rfl, ?hv⟩) hH0 ?_
    case hv => intro w' hS; obtain ⟨z0, z1, z2⟩ := HC5.out w' hS; go_simp; try exact rfl
    simp only [Act.put, List.getElem_toArray, List.getElem_cons_zero, List.getElem_cons_succ, List.setIfInBounds_toArray, List.set_cons_zero, List.set_cons_succ]
    apply wpAnyH_take (i := 16) (v := _) rfl (by kernel_rfl) (by kernel_rfl) (by kernel_rfl) (fun _ _ _ h => h) (Or.inl ⟨by kernel_rfl, ?hv⟩) hH0 ?_
    case hv => intro w' hS; obtain ⟨z0, z1, z2⟩ := HC5.out w' hS; go_simp; try exact rfl
    simp only [Act.put, List.getElem_toArray, List.getElem_cons_zero, List.getElem_cons_succ, List.setIfInBounds_toArray, List.set_cons_zero, List.set_cons_succ]
    apply wpAnyH_take (i := 17) (v := _) rfl (by kernel_rfl) (by kernel_rfl) (by kernel_rfl) (fun _ _ _ h => h) (Or.inl ⟨by kernel_rfl, ?hv⟩) hH0 ?_
    case hv => intro w' hS; obtain ⟨z0, z1, z2⟩ := HC5.out w' hS; go_simp; try exact rfl
    simp only [Act.put, List.getElem_toArray, List.getElem_cons_zero, List.getElem_cons_succ, List.setIfInBounds_toArray, List.set_cons_zero, List.set_cons_succ]
    apply wpAnyH_take (i := 18) (v := _) rfl (by kernel_rfl) (by kernel_rfl) (by kernel_rfl) (fun _ _ _ h => h) (Or.inl ⟨by kernel_rfl, ?hv⟩) hH0 ?_
    case hv => intro w' hS; obtain ⟨z0, z1, z2⟩ := HC5.out w' hS; go_simp; try exact rfl
    simp only [Act.put, List.getElem_toArray, List.getElem_cons_zero, List.getElem_cons_succ, List.setIfInBounds_toArray, List.set_cons_zero, List.set_cons_succ]
    apply wpAnyH_take (i := 19) (v := _) rfl (by kernel_rfl) (by kernel_rfl) (by kernel_rfl) (fun _ _ _ h => h) (Or.inl ⟨by kernel_rfl, ?hv⟩) hH0 ?_
    case hv => intro w' hS; obtain ⟨z0, z1, z2⟩ := HC5.out w' hS; go_simp; try exact rfl
    simp only [Act.put, List.getElem_toArray, List.getElem_cons_zero, List.getElem_cons_succ, List.setIfInBounds_toArray, List.set_cons_zero, List.set_cons_succ]
    apply wpAnyH_take (i := 20) (v := _) rfl (by kernel_rfl) (by kernel_rfl) (by kernel_rfl) (fun _ _ _ h => h) (Or.inl ⟨by kernel_rfl, ?hv⟩) hH0 ?_
    case hv => intro w' hS; obtain ⟨z0, z1, z2⟩ := HC5.out w' hS; go_simp; try exact rfl
    simp only [Act.put, List.getElem_toArray, List.getElem_cons_zero, List.getElem_cons_succ, List.setIfInBounds_toArray, List.set_cons_zero, List.set_cons_succ]
    apply wpAnyH_take (i := 21) (v := _) rfl (by kernel_rfl) (by kernel_rfl) (by kernel_rfl) (fun _ _ _ h => h) (Or.inl ⟨by kernel_rfl, ?hv⟩) hH0 ?_
    case hv => intro w' hS; obtain ⟨z0, z1, z2⟩ := HC5.out w' hS; go_simp; try exact rfl
    simp only [Act.put, List.getElem_toArray, List.getElem_cons_zero, List.getElem_cons_succ, List.setIfInBounds_toArray, List.set_cons_zero, List.set_cons_succ]
    apply wpAnyH_take (i := 22) (v := _) rfl (by kernel_rfl) (by kernel_rfl) (by kernel_rfl) (fun _ _ _ h => h) (Or.inl ⟨by kernel_rfl, ?hv⟩) hH0 ?_
    case hv => intro w' hS; obtain ⟨z0, z1, z2⟩ := HC5.out w' hS; go_simp; try exact rfl
    simp only [Act.put, List.getElem_toArray, List.getElem_cons_zero, List.getElem_cons_succ, List.setIfInBounds_toArray, List.set_cons_zero, List.set_cons_succ]
    apply wpAnyH_take (i := 23) (v := _) rfl (by kernel_rfl) (by kernel_rfl) (by kernel_rfl) (fun _ _ _ h => h) (Or.inl ⟨by kernel_rfl, ?hv⟩) hH0 ?_
    case hv => intro w' hS; obtain ⟨z0, z1, z2⟩ := HC5.out w' hS; go_simp; try exact rfl
    simp only [Act.put, List.getElem_toArray, List.getElem_cons_zero, List.getElem_cons_succ, List.setIfInBounds_toArray, List.set_cons_zero, List.set_cons_succ]
    apply wpAnyH_take (i := 24) (v := _) rfl (by kernel_rfl) (by kernel_rfl) (by kernel_rfl) (fun _ _ _ h => h) (Or.inl ⟨by kernel_rfl, ?hv⟩) hH0 ?_
    case hv => intro w' hS; obtain ⟨z0, z1, z2⟩ := HC5.out w' hS; go_simp; try exact rfl
    simp only [Act.put, List.getElem_toArray, List.getElem_cons_zero, List.getElem_cons_succ, List.setIfInBounds_toArray, List.set_cons_zero, List.set_cons_succ]
    apply wpAnyH_take (i := 25) (v := _) rfl (by kernel_rfl) (by kernel_rfl) (by kernel_rfl) (fun _ _ _ h => h) (Or.inl ⟨by kernel_rfl, ?hv⟩) hH0 ?_
    case hv => intro w' hS; obtain ⟨z0, z1, z2⟩ := HC5.out w' hS; go_simp; try exact rfl
    simp only [Act.put, List.getElem_toArray, List.getElem_cons_zero, List.getElem_cons_succ, List.setIfInBounds_toArray, List.set_cons_zero, List.set_cons_succ]
    apply wpAnyH_take (i := 26) (v := _) rfl (by kernel_rfl) (by kernel_rfl) (by kernel_rfl) (fun _ _ _ h => h) (Or.inl ⟨by kernel_rfl, ?hv⟩) hH0 ?_
    case hv => intro w' hS; obtain ⟨z0, z1, z2⟩ := HC5.out w' hS; go_simp; try exact rfl
    simp only [Act.put, List.getElem_toArray, List.getElem_cons_zero, List.getElem_cons_succ, List.setIfInBounds_toArray, List.set_cons_zero, List.set_cons_succ]
    apply wpAnyH_take (i := 27) (v := _) rfl (by kernel_rfl) (by kernel_rfl) (by kernel_rfl) (fun _ _ _ h => h) (Or.inl ⟨by kernel_rfl, ?hv⟩) hH0 ?_
    case hv => intro w' hS; obtain ⟨z0, z1, z2⟩ := HC5.out w' hS; go_simp; try exact rfl
    simp only [Act.put, List.getElem_toArray, List.getElem_cons_zero, List.getElem_cons_succ, List.setIfInBounds_toArray, List.set_cons_zero, List.set_cons_succ]
    refine wpAnyH_take (i := 28) (v := (.agg (bcells xo).toArray)) rfl (by kernel_rfl) (by kernel_rfl) (by kernel_rfl) (fun _ _ _ h => h) (yieldsIf_load_mid (by kernel_rfl) 28 (.tmp 52) rfl b 33 rfl (bcells xo) _ (fun w' h => (HI3.out _ h)) Tryd.underlying28 rfl (SZI.out _ HH.out.2)) hH0 ?_
    simp only [Act.put, List.getElem_toArray, List.getElem_cons_zero, List.getElem_cons_succ, List.setIfInBounds_toArray, List.set_cons_zero, List.set_cons_succ]
    apply wpAnyH_take (i := 29) (v := _) rfl (by kernel_rfl) (by kernel_rfl) (by kernel_rfl) (fun _ _ _ h => h) (Or.inl ⟨by kernel_rfl, ?hv⟩) hH0 ?_
    case hv => intro w' hS; obtain ⟨z0, z1, z2⟩ := HC5.out w' hS; go_simp; try exact rfl
    simp only [Act.put, List.getElem_toArray, List.getElem_cons_zero, List.getElem_cons_succ, List.setIfInBounds_toArray, List.set_cons_zero, List.set_cons_succ]
    refine wpAnyH_take (i := 30) (v := (.agg (bcells xo).toArray)) rfl (by kernel_rfl) (by kernel_rfl) (by kernel_rfl) (fun _ _ _ h => h) (yieldsIf_load_mid (by kernel_rfl) 28 (.tmp 54) rfl B 33 rfl (bcells xo) _ (fun w' h => (HI4.out _ h)) Tryd.underlying28 rfl (SZI.out _ HH.out.2)) hH0 ?_
    simp only [Act.put, List.getElem_toArray, List.getElem_cons_zero, List.getElem_cons_succ, List.setIfInBounds_toArray, List.set_cons_zero, List.set_cons_succ]
    apply wpAnyH_take (i := 31) (v := _) rfl (by kernel_rfl) (by kernel_rfl) (by kernel_rfl) (fun _ _ _ h => h) (Or.inl ⟨by kernel_rfl, ?hv⟩) hH0 ?_
    case hv => intro w' hS; obtain ⟨z0, z1, z2⟩ := HC5.out w' hS; go_simp; try exact rfl
    simp only [Act.put, List.getElem_toArray, List.getElem_cons_zero, List.getElem_cons_succ, List.setIfInBounds_toArray, List.set_cons_zero, List.set_cons_succ]
    apply wpAnyH_take (i := 32) (v := _) rfl (by kernel_rfl) (by kernel_rfl) (by kernel_rfl) (fun _ _ _ h => h) (Or.inl ⟨by kernel_rfl, ?hv⟩) hH0 ?_
    case hv => intro w' hS; obtain ⟨z0, z1, z2⟩ := HC5.out w' hS; go_simp; try exact rfl
    simp only [Act.put, List.getElem_toArray, List.getElem_cons_zero, List.getElem_cons_succ, List.setIfInBounds_toArray, List.set_cons_zero, List.set_cons_succ]
    apply wpAnyH_take (i := 33) (v := _) rfl (by kernel_rfl) (by kernel_rfl) (by kernel_rfl) (fun _ _ _ h => h) (Or.inl ⟨by kernel_rfl, ?hv⟩) hH0 ?_
    case hv => intro w' hS; obtain ⟨z0, z1, z2⟩ := HC5.out w' hS; go_simp; try exact rfl
    simp only [Act.put, List.getElem_toArray, List.getElem_cons_zero, List.getElem_cons_succ, List.setIfInBounds_toArray, List.set_cons_zero, List.set_cons_succ]
    apply wpAnyH_take (i := 34) (v := _) rfl (by kernel_rfl) (by kernel_rfl) (by kernel_rfl) (fun _ _ _ h => h) (Or.inl ⟨by kernel_rfl, ?hv⟩) hH0 ?_
    case hv => intro w' hS; obtain ⟨z0, z1, z2⟩ := HC5.out w' hS; go_simp; try exact rfl
    simp only [Act.put, List.getElem_toArray, List.getElem_cons_zero, List.getElem_cons_succ, List.setIfInBounds_toArray, List.set_cons_zero, List.set_cons_succ]
    apply wpAnyH_take (i := 35) (v := _) rfl (by kernel_rfl) (by kernel_rfl) (by kernel_rfl) (fun _ _ _ h => h) (Or.inl ⟨by kernel_rfl, ?hv⟩) hH0 ?_
    case hv => intro w' hS; obtain ⟨z0, z1, z2⟩ := HC5.out w' hS; go_simp; try exact rfl
    simp only [Act.put, List.getElem_toArray, List.getElem_cons_zero, List.getElem_cons_succ, List.setIfInBounds_toArray, List.set_cons_zero, List.set_cons_succ]
    apply wpAnyH_take (i := 36) (v := _) rfl (by kernel_rfl) (by kernel_rfl) (by kernel_rfl) (fun _ _ _ h => h) (Or.inl ⟨by kernel_rfl, ?hv⟩) hH0 ?_
    case hv => intro w' hS; obtain ⟨z0, z1, z2⟩ := HC5.out w' hS; go_simp; try exact rfl
    simp only [Act.put, List.getElem_toArray, List.getElem_cons_zero, List.getElem_cons_succ, List.setIfInBounds_toArray, List.set_cons_zero, List.set_cons_succ]
    refine wpAnyH_take (i := 37) (v := (.agg (bcells xi).toArray)) rfl (by kernel_rfl) (by kernel_rfl) (by kernel_rfl) (fun _ _ _ h => h) (yieldsIf_load_mid (by kernel_rfl) 28 (.tmp 61) rfl b 0 rfl (bcells xi) _ (fun w' h => (HI1.out _ h)) Tryd.underlying28 rfl (SZI.out _ HH.out.1)) hH0 ?_
    simp only [Act.put, List.getElem_toArray, List.getElem_cons_zero, List.getElem_cons_succ, List.setIfInBounds_toArray, List.set_cons_zero, List.set_cons_succ]
    apply wpAnyH_take (i := 38) (v := _) rfl (by kernel_rfl) (by kernel_rfl) (by kernel_rfl) (fun _ _ _ h => h) (Or.inl ⟨by kernel_rfl, ?hv⟩) hH0 ?_
    case hv => intro w' hS; obtain ⟨z0, z1, z2⟩ := HC5.out w' hS; go_simp; try exact rfl
    simp only [Act.put, List.getElem_toArray, List.getElem_cons_zero, List.getElem_cons_succ, List.setIfInBounds_toArray, List.set_cons_zero, List.set_cons_succ]
    refine wpAnyH_take (i := 39) (v := (.agg (bcells xi).toArray)) rfl (by kernel_rfl) (by kernel_rfl) (by kernel_rfl) (fun _ _ _ h => h) (yieldsIf_load_mid (by kernel_rfl) 28 (.tmp 63) rfl B 0 rfl (bcells xi) _ (fun w' h => (HI2.out _ h)) Tryd.underlying28 rfl (SZI.out _ HH.out.1)) hH0 ?_
    simp only [Act.put, List.getElem_toArray, List.getElem_cons_zero, List.getElem_cons_succ, List.setIfInBounds_toArray, List.set_cons_zero, List.set_cons_succ]
    apply wpAnyH_take (i := 40) (v := _) rfl (by kernel_rfl) (by kernel_rfl) (by kernel_rfl) (fun _ _ _ h => h) (Or.inl ⟨by kernel_rfl, ?hv⟩) hH0 ?_
    case hv => intro w' hS; obtain ⟨z0, z1, z2⟩ := HC5.out w' hS; go_simp; try exact rfl
    simp only [Act.put, List.getElem_toArray, List.getElem_cons_zero, List.getElem_cons_succ, List.setIfInBounds_toArray, List.set_cons_zero, List.set_cons_succ]
    apply wpAnyH_take (i := 41) (v := _) rfl (by kernel_rfl) (by kernel_rfl) (by kernel_rfl) (fun _ _ _ h => h) (Or.inl ⟨by kernel_rfl, ?hv⟩) hH0 ?_
    case hv => intro w' hS; obtain ⟨z0, z1, z2⟩ := HC5.out w' hS; go_simp; try exact rfl
    simp only [Act.put, List.getElem_toArray, List.getElem_cons_zero, List.getElem_cons_succ, List.setIfInBounds_toArray, List.set_cons_zero, List.set_cons_succ]
    refine wpAnyH_done (by kernel_rfl) ?_ _
    refine NoPanic.normal ?_
    obtain ⟨W7, hW7⟩ : ∃ W, W = w6.drew := ⟨_, rfl⟩
    rw [← hW7] at hS0 ⊢
    have HB7 := Lib.hid hS0
    clear hW7 hS0 c32 hc1 hc3
    have hway := lfWay_is KS SS W7 (HT6.out.below HB7.out HT6.out.low) (some ⟨b, 0, none⟩) 1 cp (splitL r (placed [x])) (HROW.out.below HB7.out) HSO.out (by decide) 0 (by decide) (by decide)
    rw [tl_split, HTRE.out] at hway
    have HWAY := Lib.hid hway
    clear hway
    go_wp2_with fail
    refine HWAY.out.mono ?_
    rintro _ w8 ⟨hb8, hm⟩
    dsimp only at hm
    rcases hm with ⟨hm, -⟩ | ⟨-, bb, pa, pn, pc, rfl, hpf, hnew⟩
    · omega
    replace hpf : ProofOf KS SS (partsT KS SS (placed [x])) (placeK KS SS 0) bb pa pn w8 := hpf
    have hpn : pn = 0 := by rw [← hpf.nodes.len, alone_nodes]; rfl
    subst hpn
    have hof0 : ofE KS SS (spF r 0 (plF 0 x)) bb [] = 0 := by
      rw [ER.out, ← alone_nodes x]
      exact of_ok (ls := placed [x]) (placed_ok HOK1.out (by simp)) (by rw [placed_len]; simp) (by rw [placed_len]; exact HTRE.out) (placed_get rfl) hpf
    have hnb : leafBad (spF r 0 (plF 0 x)) = false := by
      rw [ER.out]
      exact (of_way (ls := placed [x]) (placed_ok HOK1.out (by simp)) (by rw [placed_len]; simp) (by rw [placed_len]; exact HTRE.out) (placed_get rfl) hpf.bits).1
    have hofn : ofE KS SS (spF r 0 (plF 0 x)) (List.replicate 32 0) [] = 20 := of_none hnb
    have h12 : IsHash bb := hpf.hash
    obtain ⟨LP, hLP⟩ : ∃ L, L = pcells bb pa 0 pc := ⟨_, rfl⟩
    obtain ⟨LC, hLC⟩ : ∃ L, L = (spF r 0 (plF 0 x)).cells := ⟨_, rfl⟩
    have lp : LP.length = 33 := by rw [hLP]; exact pcells_len h12 pa 0 pc
    have lc : LC.length = 99 := by rw [hLC]; exact LeafT.len K0.out
    have hq8 : Below w6.heap.size w6 w8 := HB7.out.trans (hb8.mono HB7.out.size)
    obtain ⟨h9, hb9⟩ := new_row w8 56 LZ.toArray LP.toArray
    have hq9 := hq8.trans (hb9.mono hq8.size)
    have HRC := Lib.hid (show ∀ v, Below w6.heap.size w6 v → v.rangeAt b 0 LC from fun v hv => by rw [hLC]; exact HR.out v hv)
    have HOF := Lib.hid (show ∀ v : World, Below w6.heap.size w6 v → Calls Tryd.prog 48 #[.agg LC.toArray, .agg LP.toArray] v fun e w' => e = .returned (.int .i64 0) ∧ Below v.heap.size v w' from fun v hv => by
      have := lfOf_is KS SS v (HT6.out.below hv HT6.out.low) (spF r 0 (plF 0 x)) K0.out bb h12 pa 0 pc [] (nodes_nil _ _) (by decide)
      rw [hof0] at this
      rw [hLC, hLP]
      exact this)
    have HON := Lib.hid (show ∀ v : World, Below w6.heap.size w6 v → Calls Tryd.prog 48 #[.agg LC.toArray, .agg LZ.toArray] v fun e w' => e = .returned (.int .i64 20) ∧ Below v.heap.size v w' from fun v hv => by
      have := lfOf_is KS SS v (HT6.out.below hv HT6.out.low) (spF r 0 (plF 0 x)) K0.out (List.replicate 32 0) bareB_zeros none 0 0 [] (nodes_nil _ _) (by decide)
      rw [hofn] at this
      rw [hLC, ELZ.out]
      exact this)
    have HR32 := Lib.hid (show LP.toArray[32]? = some (.slice pa 0 pc) by rw [List.getElem?_toArray, hLP]; exact pcells_row h12 pa 0 pc)
    have SZP := Lib.hid (show (Tryd.prog.info? 56).map (·.size) = some LP.toArray.size by rw [List.size_toArray, lp]; kernel_rfl)
    have SZPL := Lib.hid (show (Tryd.prog.info? 56).map (·.size) = some LP.length by rw [lp]; kernel_rfl)
    have SZC := Lib.hid (show (Tryd.prog.info? 103).map (·.size) = some LC.length by rw [lc]; kernel_rfl)
    have HZP := Lib.hid (show LZ.toArray.size = LP.toArray.size by rw [hzps, List.size_toArray, lp])
    have HOP := Lib.hid (show LP.toArray.all (·.oneCell') = true by rw [hLP]; exact pcells_one _ _ _ _)
    have H9 := Lib.hid h9
    have HQ9 := Lib.hid hq9
    rw [← hLP]
    clear hLP hLC lp lc h9 hb9 hb8 hq8 hq9 hpf hnew hof0 hnb hofn h12 hzps HWAY HC32
    go_upto_region 9 with (refine wpList_store_row rfl 56 (.tmp 5) (.tmp 70) rfl w8.heap.size LP.toArray rfl rfl 56 LZ.toArray (heap_alloc_new w8 _) SZP.out HZP.out HOP.out ?_)
    obtain ⟨W9, hW9⟩ : ∃ W, W = (w8.alloc (.cells LZ.toArray 56)).setRow w8.heap.size LP.toArray := ⟨_, rfl⟩
    rw [← hW9] at H9 HQ9 ⊢
    clear hW9
    obtain ⟨G, hG⟩ : ∃ g, g = w8.heap.size := ⟨_, rfl⟩
    rw [← hG] at H9 ⊢
    clear hG
    have hS0 : Below w6.heap.size w6 W9.drew ∧ Has W9.drew G 56 LP.toArray := ⟨below_drew HQ9.out, H9.out⟩
    refine wp_region_noPanic ?_
    refine wp_region_held_drew (S := (fun v => Below w6.heap.size w6 v ∧ Has v G 56 LP.toArray)) (by kernel_rfl) hS0 (fun hH0 => ?_)
    apply wpAnyH_take (i := 0) (v := _) rfl (by kernel_rfl) (by kernel_rfl) (by kernel_rfl) (fun _ _ _ h => h) (Or.inl ⟨by kernel_rfl, ?hv⟩) hH0 ?_
    case hv => intro w' hS; have z0 := hS.2.cell_is HR32.out; go_simp; try exact rfl
    simp only [Act.put, List.getElem_toArray, List.getElem_cons_zero, List.getElem_cons_succ, List.setIfInBounds_toArray, List.set_cons_zero, List.set_cons_succ]
    apply wpAnyH_take (i := 1) (v := _) rfl (by kernel_rfl) (by kernel_rfl) (by kernel_rfl) (fun _ _ _ h => h) (Or.inl ⟨by kernel_rfl, ?hv⟩) hH0 ?_
    case hv => intro w' hS; have z0 := hS.2.cell_is HR32.out; go_simp; try exact rfl
    simp only [Act.put, List.getElem_toArray, List.getElem_cons_zero, List.getElem_cons_succ, List.setIfInBounds_toArray, List.set_cons_zero, List.set_cons_succ]
    apply wpAnyH_take (i := 2) (v := _) rfl (by kernel_rfl) (by kernel_rfl) (by kernel_rfl) (fun _ _ _ h => h) (Or.inl ⟨by kernel_rfl, ?hv⟩) hH0 ?_
    case hv => intro w' hS; have z0 := hS.2.cell_is HR32.out; go_simp; try exact rfl
    simp only [Act.put, List.getElem_toArray, List.getElem_cons_zero, List.getElem_cons_succ, List.setIfInBounds_toArray, List.set_cons_zero, List.set_cons_succ]
    apply wpAnyH_take (i := 3) (v := _) rfl (by kernel_rfl) (by kernel_rfl) (by kernel_rfl) (fun _ _ _ h => h) (Or.inl ⟨by kernel_rfl, ?hv⟩) hH0 ?_
    case hv => intro w' hS; have z0 := hS.2.cell_is HR32.out; go_simp; try exact rfl
    simp only [Act.put, List.getElem_toArray, List.getElem_cons_zero, List.getElem_cons_succ, List.setIfInBounds_toArray, List.set_cons_zero, List.set_cons_succ]
    apply wpAnyH_take (i := 4) (v := _) rfl (by kernel_rfl) (by kernel_rfl) (by kernel_rfl) (fun _ _ _ h => h) (Or.inl ⟨by kernel_rfl, ?hv⟩) hH0 ?_
    case hv => intro w' hS; have z0 := hS.2.cell_is HR32.out; go_simp; try exact rfl
    simp only [Act.put, List.getElem_toArray, List.getElem_cons_zero, List.getElem_cons_succ, List.setIfInBounds_toArray, List.set_cons_zero, List.set_cons_succ]
    apply wpAnyH_take (i := 5) (v := _) rfl (by kernel_rfl) (by kernel_rfl) (by kernel_rfl) (fun _ _ _ h => h) (Or.inl ⟨by kernel_rfl, ?hv⟩) hH0 ?_
    case hv => intro w' hS; have z0 := hS.2.cell_is HR32.out; go_simp; try exact rfl
    simp only [Act.put, List.getElem_toArray, List.getElem_cons_zero, List.getElem_cons_succ, List.setIfInBounds_toArray, List.set_cons_zero, List.set_cons_succ]
    apply wpAnyH_take (i := 6) (v := _) rfl (by kernel_rfl) (by kernel_rfl) (by kernel_rfl) (fun _ _ _ h => h) (Or.inl ⟨by kernel_rfl, ?hv⟩) hH0 ?_
    case hv => intro w' hS; have z0 := hS.2.cell_is HR32.out; go_simp; try exact rfl
    simp only [Act.put, List.getElem_toArray, List.getElem_cons_zero, List.getElem_cons_succ, List.setIfInBounds_toArray, List.set_cons_zero, List.set_cons_succ]
    apply wpAnyH_take (i := 7) (v := _) rfl (by kernel_rfl) (by kernel_rfl) (by kernel_rfl) (fun _ _ _ h => h) (Or.inl ⟨by kernel_rfl, ?hv⟩) hH0 ?_
    case hv => intro w' hS; have z0 := hS.2.cell_is HR32.out; go_simp; try exact rfl
    simp only [Act.put, List.getElem_toArray, List.getElem_cons_zero, List.getElem_cons_succ, List.setIfInBounds_toArray, List.set_cons_zero, List.set_cons_succ]
    apply wpAnyH_take (i := 8) (v := _) rfl (by kernel_rfl) (by kernel_rfl) (by kernel_rfl) (fun _ _ _ h => h) (Or.inl ⟨by kernel_rfl, ?hv⟩) hH0 ?_
    case hv => intro w' hS; have z0 := hS.2.cell_is HR32.out; go_simp; try exact rfl
    simp only [Act.put, List.getElem_toArray, List.getElem_cons_zero, List.getElem_cons_succ, List.setIfInBounds_toArray, List.set_cons_zero, List.set_cons_succ]
    apply wpAnyH_take (i := 9) (v := _) rfl (by kernel_rfl) (by kernel_rfl) (by kernel_rfl) (fun _ _ _ h => h) (Or.inl ⟨by kernel_rfl, ?hv⟩) hH0 ?_
    case hv => intro w' hS; have z0 := hS.2.cell_is HR32.out; go_simp; try exact rfl
    simp only [Act.put, List.getElem_toArray, List.getElem_cons_zero, List.getElem_cons_succ, List.setIfInBounds_toArray, List.set_cons_zero, List.set_cons_succ]
    apply wpAnyH_take (i := 10) (v := _) rfl (by kernel_rfl) (by kernel_rfl) (by kernel_rfl) (fun _ _ _ h => h) (Or.inl ⟨by kernel_rfl, ?hv⟩) hH0 ?_
    case hv => intro w' hS; have z0 := hS.2.cell_is HR32.out; go_simp; try exact rfl
    simp only [Act.put, List.getElem_toArray, List.getElem_cons_zero, List.getElem_cons_succ, List.setIfInBounds_toArray, List.set_cons_zero, List.set_cons_succ]
    refine wpAnyH_take (i := 11) (v := (.agg LC.toArray)) rfl (by kernel_rfl) (by kernel_rfl) (by kernel_rfl) (fun _ _ _ h => h) (yieldsIf_load_mid (by kernel_rfl) 103 (.tmp 82) rfl b 0 rfl LC _ (fun w' h => (HRC.out _ h.1)) Tryd.underlying103 rfl SZC.out) hH0 ?_
    simp only [Act.put, List.getElem_toArray, List.getElem_cons_zero, List.getElem_cons_succ, List.setIfInBounds_toArray, List.set_cons_zero, List.set_cons_succ]
    refine wpAnyH_take (i := 12) (v := (.agg LP.toArray)) rfl (by kernel_rfl) (by kernel_rfl) (by kernel_rfl) (fun _ _ _ h => h) (yieldsIf_load_mid (by kernel_rfl) 56 (.tmp 5) rfl G 0 rfl LP _ (fun w' h => h.2.row0) Tryd.underlying56 rfl SZPL.out) hH0 ?_
    simp only [Act.put, List.getElem_toArray, List.getElem_cons_zero, List.getElem_cons_succ, List.setIfInBounds_toArray, List.set_cons_zero, List.set_cons_succ]
    refine wpAnyH_ready (rs := [13]) (by kernel_rfl) (by simp) ?_
    refine AllReadyH.cons rfl (fun KK hKK => ?_) AllReadyH.nil
    go_simp
    refine (HOF.out _ hS0.1).mono ?_
    rintro _ x1 ⟨rfl, hxx1⟩
    have sx1 : Below w6.heap.size w6 x1 ∧ Has x1 G 56 LP.toArray := ⟨hS0.1.trans (hxx1.mono hS0.1.size), hS0.2.below hxx1 hS0.2.lt⟩
    clear hxx1
    refine Shut.out hKK _ _ sx1 (fun hH1 => ?_)
    clear hKK KK
    try simp only [Act.put, List.getElem_toArray, List.getElem_cons_zero, List.getElem_cons_succ, List.setIfInBounds_toArray, List.set_cons_zero, List.set_cons_succ]
    apply wpAnyH_take (i := 14) (v := _) rfl (by kernel_rfl) (by kernel_rfl) (by kernel_rfl) (fun _ _ _ h => h) (Or.inl ⟨by kernel_rfl, ?hv⟩) hH1 ?_
    case hv => intro w' hS; have z0 := hS.2.cell_is HR32.out; go_simp; try exact rfl
    simp only [Act.put, List.getElem_toArray, List.getElem_cons_zero, List.getElem_cons_succ, List.setIfInBounds_toArray, List.set_cons_zero, List.set_cons_succ]
    apply wpAnyH_take (i := 15) (v := _) rfl (by kernel_rfl) (by kernel_rfl) (by kernel_rfl) (fun _ _ _ h => h) (Or.inl ⟨by kernel_rfl, ?hv⟩) hH1 ?_
    case hv => intro w' hS; have z0 := hS.2.cell_is HR32.out; go_simp; try exact rfl
    simp only [Act.put, List.getElem_toArray, List.getElem_cons_zero, List.getElem_cons_succ, List.setIfInBounds_toArray, List.set_cons_zero, List.set_cons_succ]
    apply wpAnyH_take (i := 16) (v := _) rfl (by kernel_rfl) (by kernel_rfl) (by kernel_rfl) (fun _ _ _ h => h) (Or.inl ⟨by kernel_rfl, ?hv⟩) hH1 ?_
    case hv => intro w' hS; have z0 := hS.2.cell_is HR32.out; go_simp; try exact rfl
    simp only [Act.put, List.getElem_toArray, List.getElem_cons_zero, List.getElem_cons_succ, List.setIfInBounds_toArray, List.set_cons_zero, List.set_cons_succ]
    apply wpAnyH_take (i := 17) (v := _) rfl (by kernel_rfl) (by kernel_rfl) (by kernel_rfl) (fun _ _ _ h => h) (Or.inl ⟨by kernel_rfl, ?hv⟩) hH1 ?_
    case hv => intro w' hS; have z0 := hS.2.cell_is HR32.out; go_simp; try exact rfl
    simp only [Act.put, List.getElem_toArray, List.getElem_cons_zero, List.getElem_cons_succ, List.setIfInBounds_toArray, List.set_cons_zero, List.set_cons_succ]
    apply wpAnyH_take (i := 18) (v := _) rfl (by kernel_rfl) (by kernel_rfl) (by kernel_rfl) (fun _ _ _ h => h) (Or.inl ⟨by kernel_rfl, ?hv⟩) hH1 ?_
    case hv => intro w' hS; have z0 := hS.2.cell_is HR32.out; go_simp; try exact rfl
    simp only [Act.put, List.getElem_toArray, List.getElem_cons_zero, List.getElem_cons_succ, List.setIfInBounds_toArray, List.set_cons_zero, List.set_cons_succ]
    refine wpAnyH_take (i := 19) (v := (.agg LC.toArray)) rfl (by kernel_rfl) (by kernel_rfl) (by kernel_rfl) (fun _ _ _ h => h) (yieldsIf_load_mid (by kernel_rfl) 103 (.tmp 90) rfl b 0 rfl LC _ (fun w' h => (HRC.out _ h.1)) Tryd.underlying103 rfl SZC.out) hH1 ?_
    simp only [Act.put, List.getElem_toArray, List.getElem_cons_zero, List.getElem_cons_succ, List.setIfInBounds_toArray, List.set_cons_zero, List.set_cons_succ]
    apply wpAnyH_take (i := 20) (v := _) rfl (by kernel_rfl) (by kernel_rfl) (by kernel_rfl) (fun _ _ _ h => h) (Or.inl ⟨by kernel_rfl, ?hv⟩) hH1 ?_
    case hv => intro w' hS; have z0 := hS.2.cell_is HR32.out; go_simp; try exact rfl
    simp only [Act.put, List.getElem_toArray, List.getElem_cons_zero, List.getElem_cons_succ, List.setIfInBounds_toArray, List.set_cons_zero, List.set_cons_succ]
    refine wpAnyH_ready (rs := [21]) (by kernel_rfl) (by simp) ?_
    refine AllReadyH.cons rfl (fun KK hKK => ?_) AllReadyH.nil
    go_simp
    refine (HON.out _ sx1.1).mono ?_
    rintro _ x2 ⟨rfl, hxx2⟩
    have sx2 : Below w6.heap.size w6 x2 ∧ Has x2 G 56 LP.toArray := ⟨sx1.1.trans (hxx2.mono sx1.1.size), sx1.2.below hxx2 sx1.2.lt⟩
    clear hxx2
    refine Shut.out hKK _ _ sx2 (fun hH2 => ?_)
    clear hKK KK
    try simp only [Act.put, List.getElem_toArray, List.getElem_cons_zero, List.getElem_cons_succ, List.setIfInBounds_toArray, List.set_cons_zero, List.set_cons_succ]
    apply wpAnyH_take (i := 22) (v := _) rfl (by kernel_rfl) (by kernel_rfl) (by kernel_rfl) (fun _ _ _ h => h) (Or.inl ⟨by kernel_rfl, ?hv⟩) hH2 ?_
    case hv => intro w' hS; have z0 := hS.2.cell_is HR32.out; go_simp; try exact rfl
    simp only [Act.put, List.getElem_toArray, List.getElem_cons_zero, List.getElem_cons_succ, List.setIfInBounds_toArray, List.set_cons_zero, List.set_cons_succ]
    apply wpAnyH_take (i := 23) (v := _) rfl (by kernel_rfl) (by kernel_rfl) (by kernel_rfl) (fun _ _ _ h => h) (Or.inl ⟨by kernel_rfl, ?hv⟩) hH2 ?_
    case hv => intro w' hS; have z0 := hS.2.cell_is HR32.out; go_simp; try exact rfl
    simp only [Act.put, List.getElem_toArray, List.getElem_cons_zero, List.getElem_cons_succ, List.setIfInBounds_toArray, List.set_cons_zero, List.set_cons_succ]
    apply wpAnyH_take (i := 24) (v := _) rfl (by kernel_rfl) (by kernel_rfl) (by kernel_rfl) (fun _ _ _ h => h) (Or.inl ⟨by kernel_rfl, ?hv⟩) hH2 ?_
    case hv => intro w' hS; have z0 := hS.2.cell_is HR32.out; go_simp; try exact rfl
    simp only [Act.put, List.getElem_toArray, List.getElem_cons_zero, List.getElem_cons_succ, List.setIfInBounds_toArray, List.set_cons_zero, List.set_cons_succ]
    refine wpAnyH_done (by kernel_rfl) ?_ _
    refine NoPanic.normal ?_
    have HFX := Lib.hid (HB6.out.trans (sx2.1.mono HB6.out.size))
    clear hS0 sx1 sx2
    go_wp2_with fail
    go_ret
    exact ⟨rfl, HFX.out⟩
end Go.Proofs.YtngmpcmeebcdmaaDoor
