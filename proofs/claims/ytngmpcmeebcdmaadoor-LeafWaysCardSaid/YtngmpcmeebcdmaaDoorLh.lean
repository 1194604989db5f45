/- The head of the laws of leaves: the document's example. -/
import Derived.Test.YtngmpcmeebcdmaaDoorLp0
namespace Go.Proofs.YtngmpcmeebcdmaaDoor
set_option linter.unusedVariables false
set_option linter.unusedSimpArgs false
open Go.ChangeShapes Go.WideShapes Go.ChangeAt Go.RowKit Go.Maps

theorem ofE_ok {K s0 : List Wd} {l : LeafT} {r : Nd} {bb : List Nat} {xs : List Nd} {i : Nat} (h1 : leafBad { l with sp := r } = false) (h2 : pfRoot K s0 (bareB bb) (placeK K s0 i) xs (leafNd K s0 (l.id ++ l.ow) l.am) = .ok r) (h3 : l.pl = (i : Int)) : ofE K s0 (spF r i l) bb xs = 0 := by
  unfold ofE
  rw [show leafBad (spF r i l) = false from h1, if_neg (by decide), show (spF r i l).pl = (i : Int) from h3, Int.toNat_natCast, show (spF r i l).id = l.id from rfl, show (spF r i l).ow = l.ow from rfl, show (spF r i l).am = l.am from rfl, show (spF r i l).sp = r from rfl, h2, chk_ok, if_pos (ndSame_iff.2 rfl)]
  rfl
/-- by its proof each leaf of a transfer is one of them. -/
theorem of_ok {ls : List LeafT} (hok : ∀ l ∈ ls, l.ok) (hn : ls.length ≤ 8) {T : List Lf} (hT : tlAt KS SS ls ls.length = .ok T) {i : Nat} {l : LeafT} (hi : ls[i]? = some l) {bb : List Nat} {a : Option Addr} {n : Nat} {w : World} (hp : ProofOf KS SS T (placeK KS SS i) bb a n w) :
    ofE KS SS (spF (partNd KS SS 256 T) i l) bb (nodesF KS SS (besF KS SS T (placeK KS SS i)) 256) = 0 :=
  ofE_ok (of_way hok hn hT hi hp.bits).1 (of_way hok hn hT hi hp.bits).2.1 (of_way hok hn hT hi hp.bits).2.2
/-- a leaf of nothing but an amount. -/
def zLf (n : Nat) : LeafT := ⟨List.replicate 32 0, n, List.replicate 32 0, 0, zNd⟩
theorem zLf_ok (n : Nat) (h : n < 18446744073709551616) : (zLf n).ok := ⟨zNd_hash, h, zNd_hash, (by show (-9223372036854775808 : Int) ≤ 0; decide), (by show (0 : Int) ≤ 9223372036854775807; decide), zNd_hash, (by show 0 < 18446744073709551616; decide)⟩
theorem zLf_build (n : Nat) (w : World) : (Instr.build 103 #[(1, .int .u64 (n : Int))]).run Tryd.prog w = .ok (.agg (zLf n).cells.toArray) w := by kernel_rfl
theorem leaf_at0 (b n c : Nat) (hn : 0 < n) (w : World) : (Instr.indexAt 98 (.slice (some ⟨b, 0, none⟩) n c) (.int .i64 0)).run Tryd.prog w = .ok (.pointer (some ⟨b, 0, none⟩)) w := by simpa using at_leaf0 b n c 0 hn w
theorem leaf_at1 (b n c : Nat) (hn : 1 < n) (w : World) : (Instr.indexAt 98 (.slice (some ⟨b, 0, none⟩) n c) (.int .i64 1)).run Tryd.prog w = .ok (.pointer (some ⟨b, 99, none⟩)) w := by simpa using at_leaf0 b n c 1 hn w
/-- the two leaves of the example. -/
def hls : List LeafT := [zLf 3, zLf 4]
theorem hls_ok : ∀ l ∈ hls, l.ok := fun l hl => by
  simp only [hls, List.mem_cons, List.not_mem_nil, or_false] at hl
  rcases hl with rfl | rfl <;> exact zLf_ok _ (by decide)
theorem hls_tree : tlAt KS SS (placed hls) 2 = .ok (partsT KS SS (placed hls)) := by
  have h := tl_makes (ls := placed hls) (placed_ok hls_ok (by decide)) (fun i l h => by
    have hi := (List.getElem?_eq_some_iff.1 h).1
    rw [placed_len] at hi
    have hi2 : i < 2 := hi
    rcases (by omega : i = 0 ∨ i = 1) with rfl | rfl
    · rw [placed_get (l := zLf 3) rfl] at h; injection h with h; subst h; exact ⟨rfl, by decide⟩
    · rw [placed_get (l := zLf 4) rfl] at h; injection h with h; subst h; exact ⟨rfl, by decide⟩) (by decide) 2 (by decide) (by decide)
  exact h
theorem hls_sum : (partNd KS SS 256 (partsT KS SS (placed hls))).s = 7 := by
  rw [part_sum KS SS 256 _ (parts_keyed (by decide)) (coh_top _), parts_sum]
  rfl
set_option maxRecDepth 100000 in
set_option maxHeartbeats 4000000 in
theorem headL_is (w : World) (hT : Tabs KS SS w) : Calls Tryd.prog 45 #[] w fun e w' => e = .returned (.bool true) ∧ Below w.heap.size w w' := by
  obtain ⟨Z, hinfo, hzs⟩ := info_leafT
  obtain ⟨Zp, hzp, -, hzps, hzpn, -⟩ := zero_proofB
  have hlow := hT.low
  have HT := Lib.hid hT
  have hb3 := zLf_build 3
  have hb4 := zLf_build 4
  obtain ⟨C3, hC3⟩ : ∃ L, L = (zLf 3).cells := ⟨_, rfl⟩
  obtain ⟨C4, hC4⟩ : ∃ L, L = (zLf 4).cells := ⟨_, rfl⟩
  rw [← hC3] at hb3
  rw [← hC4] at hb4
  have l3 : C3.length = 99 := by rw [hC3]; exact LeafT.len (zLf_ok 3 (by decide))
  have l4 : C4.length = 99 := by rw [hC4]; exact LeafT.len (zLf_ok 4 (by decide))
  have HINFO := Lib.hid hinfo
  have L3 := Lib.hid l3
  have L4 := Lib.hid l4
  have HN3 := Lib.hid (show ∀ v, (Instr.build 103 #[(1, .int .u64 3)]).run Tryd.prog v = .ok (.agg C3.toArray) v from hb3)
  have HN4 := Lib.hid (show ∀ v, (Instr.build 103 #[(1, .int .u64 4)]).run Tryd.prog v = .ok (.agg C4.toArray) v from hb4)
  obtain ⟨W1, hW1⟩ : ∃ W, W = w.alloc (.cells (C3 ++ C4).toArray 103) := ⟨_, rfl⟩
  have hh1 : Has W1 w.heap.size 103 (hls.flatMap LeafT.cells).toArray := by
    rw [hW1, hC3, hC4]
    simpa [hls] using Has.new w 103 ((zLf 3).cells ++ (zLf 4).cells).toArray
  have hb1 : Below w.heap.size w W1 := by rw [hW1]; exact (Below.refl _ _).alloc (Nat.le_refl _) _
  have hr1 := rows_has hh1 (len_cells hls_ok)
  have hcall := lfParts_is KS SS W1 (hT.below hb1 hlow) (some ⟨w.heap.size, 0, none⟩) 2 2 hls hr1 hls_ok (by decide)
  rw [hls_tree] at hcall
  have HCALL := Lib.hid hcall
  have HB1 := Lib.hid hb1
  have HW1 := Lib.hid hW1
  clear hcall hr1 hh1 hb1 hW1 hC3 hC4 hinfo l3 l4 hb3 hb4 hT
  go_enter Tryd.func45, Tryd.ntmps45
  go_wp2_with (first
    | (refine wpList_build_run rfl 103 #[(1, .const (.int .u64 3))] rfl #[(1, .int .u64 3)] (by kernel_rfl) (.agg C3.toArray) (HN3.out _) ?_)
    | (refine wpList_build_run rfl 103 #[(1, .const (.int .u64 4))] rfl #[(1, .int .u64 4)] (by kernel_rfl) (.agg C4.toArray) (HN4.out _) ?_)
    | (refine wpList_build2 rfl 98 103 (.tmp 6) (.tmp 7) rfl (.agg Z) 99 120 Tryd.underlying98 HINFO.out C3 C4 L3.out L4.out (by decide) (by decide) rfl rfl ?_))
  rw [← HW1.out]
  refine HCALL.out.mono ?_
  rintro _ w2 ⟨hb2, a, c, rfl, hown⟩
  obtain ⟨r, hr⟩ : ∃ r, r = partNd KS SS 256 (partsT KS SS (placed hls)) := ⟨_, rfl⟩
  have hrs : r.s = 7 := by rw [hr]; exact hls_sum
  have hrh : IsHash r.h := by rw [hr]; exact part_hash KS SS (by decide) 256 _
  rw [← hr] at hown
  have hok2 : ∀ l ∈ splitL r (placed hls), l.ok := split_ok hrh (by omega) (placed_ok hls_ok (by decide))
  have hlen2 : (splitL r (placed hls)).length = 2 := by rw [split_len, placed_len]; rfl
  obtain ⟨hrow, hfar⟩ := own_rows hown hlen2 (len_cells hok2)
  obtain ⟨b, o, rfl, hblt, hrr⟩ := hrow.at_ (by decide)
  have ho : o = 0 := by
    obtain ⟨g, cap, cur, e, _⟩ := own_open hown (by decide)
    injection e with e; injection e with e; injection e
  subst ho
  have g0 : (splitL r (placed hls))[0]? = some (spF r 0 (plF 0 (zLf 3))) := split_get (placed_get rfl)
  have g1 : (splitL r (placed hls))[1]? = some (spF r 1 (plF 1 (zLf 4))) := split_get (placed_get rfl)
  have o0 := hok2 _ (List.mem_of_getElem? g0)
  have o1 := hok2 _ (List.mem_of_getElem? g1)
  have c98 : w2.cell? ⟨b, 98, none⟩ = some (.int .u64 7) := by
    have := hrr 0 _ g0 98 _ (LeafT.at_ss o0)
    rw [show (spF r 0 (plF 0 (zLf 3))).sp.s = 7 from hrs] at this
    simpa using this
  have c164 : w2.cell? ⟨b, 164, none⟩ = some (.int .i64 1) := by
    have := hrr 1 _ g1 65 _ (LeafT.at_pl o1)
    simpa [spF, plF] using this
  have hway := lfWay_is KS SS w2 (HT.out.below (HB1.out.trans (hb2.mono HB1.out.size)) hlow) (some ⟨b, 0, none⟩) 2 c (splitL r (placed hls)) hrow hok2 (by decide) 1 (by decide) (by decide)
  rw [tl_split, hls_tree] at hway
  have HWAY := Lib.hid hway
  have hw2 : Below w.heap.size w w2 := HB1.out.trans (hb2.mono HB1.out.size)
  have HW2 := Lib.hid hw2
  have HRR := Lib.hid (hrr 1 _ g1)
  have HO1 := Lib.hid o1
  have HR := Lib.hid hr
  have ha0 := leaf_at0 b 2 c (by decide)
  have ha1 := leaf_at1 b 2 c (by decide)
  clear hway hw2 hrow hrr hown hfar g0 g1 o0 hok2 hlen2 hb2 hr hrs hrh o1 HCALL HW1
  go_wp2_with fail
  refine HWAY.out.mono ?_
  rintro _ w3 ⟨hb3, hm⟩
  dsimp only at hm
  rcases hm with ⟨hm, -⟩ | ⟨-, bb, pa, pn, pc, rfl, hpf, hnew⟩
  · omega
  replace hpf : ProofOf KS SS (partsT KS SS (placed hls)) (placeK KS SS 1) bb pa pn w3 := hpf
  have hpn : pn ≤ 1000000 := by have := nodesF_len (K := KS) (s0 := SS) (f := besF KS SS (partsT KS SS (placed hls)) (placeK KS SS 1)) 256; have := hpf.nodes.len; omega
  have hof0 : ofE KS SS (spF r 1 (plF 1 (zLf 4))) bb (nodesF KS SS (besF KS SS (partsT KS SS (placed hls)) (placeK KS SS 1)) 256) = 0 := by
    rw [HR.out]
    exact of_ok (ls := placed hls) (placed_ok hls_ok (by decide)) (by decide) hls_tree (placed_get rfl) hpf
  have h12 : IsHash bb := hpf.hash
  obtain ⟨LP, hLP⟩ : ∃ L, L = pcells bb pa pn pc := ⟨_, rfl⟩
  obtain ⟨LC, hLC⟩ : ∃ L, L = (spF r 1 (plF 1 (zLf 4))).cells := ⟨_, rfl⟩
  have lp : LP.length = 33 := by rw [hLP]; exact pcells_len h12 pa pn pc
  have lc : LC.length = 99 := by rw [hLC]; exact LeafT.len HO1.out
  have HRC := Lib.hid (show w3.rangeAt b 99 LC from by rw [hLC]; exact rangeAt_kept (by simpa using HRR.out) (Kept.of_below (S := fun _ => False) hb3) (fun e => e))
  obtain ⟨h4, hb4⟩ := new_row w3 56 Zp LP.toArray
  have hw3 := HW2.out.trans (hb3.mono HW2.out.size)
  have HOF := Lib.hid (show ∀ v : World, Below w3.heap.size w3 v → Calls Tryd.prog 48 #[.agg LC.toArray, .agg LP.toArray] v fun e w' => e = .returned (.int .i64 0) ∧ Below v.heap.size v w' from fun v hv => by
    have := lfOf_is KS SS v (HT.out.below (hw3.trans (hv.mono hw3.size)) hlow) (spF r 1 (plF 1 (zLf 4))) HO1.out bb h12 pa pn pc _ (hpf.nodes.below hv) hpn
    rw [hof0] at this
    rw [hLC, hLP]
    exact this)
  have HW3 := Lib.hid hw3
  have HRC4 := Lib.hid (rangeAt_kept HRC.out (Kept.of_below (S := fun _ => False) hb4) (fun e => e))
  have H4 := Lib.hid h4
  have HB4 := Lib.hid hb4
  have SZP := Lib.hid (show (Tryd.prog.info? 56).map (·.size) = some LP.toArray.size by rw [List.size_toArray, lp]; kernel_rfl)
  have SZPL := Lib.hid (show (Tryd.prog.info? 56).map (·.size) = some LP.length by rw [lp]; kernel_rfl)
  have SZC := Lib.hid (show (Tryd.prog.info? 103).map (·.size) = some LC.length by rw [lc]; kernel_rfl)
  have HZP := Lib.hid (show Zp.size = LP.toArray.size by rw [hzps, List.size_toArray, lp])
  have HOP := Lib.hid (show LP.toArray.all (·.oneCell') = true by rw [hLP]; exact pcells_one _ _ _ _)
  rw [← hLP]
  clear hLP hLC lp lc h4 hb4 hb3 hw3 hpf hnew hpn hof0 h12 HRR HO1 HR c98 c164 hzps
  go_wp2_with (refine wpList_store_row rfl 56 (.tmp 3) (.tmp 37) rfl w3.heap.size LP.toArray rfl rfl 56 Zp (heap_alloc_new w3 _) SZP.out HZP.out HOP.out ?_)
  obtain ⟨W4, hW4⟩ : ∃ W, W = (w3.alloc (.cells Zp 56)).setRow w3.heap.size LP.toArray := ⟨_, rfl⟩
  rw [← hW4] at HRC4 H4 HB4 ⊢
  clear hW4
  obtain ⟨G, hG⟩ : ∃ g, g = w3.heap.size := ⟨_, rfl⟩
  rw [← hG] at H4 ⊢
  clear hG
  have hS0 : w3.heap.size ≤ W4.drew.heap.size ∧ W4.drew.rangeAt b 99 LC ∧ Has W4.drew G 56 LP.toArray ∧ Below w3.heap.size w3 W4.drew := ⟨HB4.out.size, HRC4.out, H4.out, below_drew HB4.out⟩
  refine wp_region_noPanic ?_
  refine wp_region_held_drew (S := (fun v => w3.heap.size ≤ v.heap.size ∧ v.rangeAt b 99 LC ∧ Has v G 56 LP.toArray ∧ Below w3.heap.size w3 v)) (by kernel_rfl) hS0 (fun hH0 => ?_)
  apply wpAnyH_take (i := 0) (v := _) rfl (by kernel_rfl) (by kernel_rfl) (by kernel_rfl) (fun _ _ _ h => h) (Or.inl ⟨by kernel_rfl, ?hv⟩) hH0 ?_
  case hv => intro w' hS; go_simp; try exact rfl
  simp only [Act.put, List.getElem_toArray, List.getElem_cons_zero, List.getElem_cons_succ, List.setIfInBounds_toArray, List.set_cons_zero, List.set_cons_succ]
  apply wpAnyH_take (i := 1) (v := _) rfl (by kernel_rfl) (by kernel_rfl) (by kernel_rfl) (fun _ _ _ h => h) (Or.inl ⟨by kernel_rfl, ?hv⟩) hH0 ?_
  case hv => intro w' hS; go_simp; try exact rfl
  simp only [Act.put, List.getElem_toArray, List.getElem_cons_zero, List.getElem_cons_succ, List.setIfInBounds_toArray, List.set_cons_zero, List.set_cons_succ]
  apply wpAnyH_take (i := 2) (v := _) rfl (by kernel_rfl) (by kernel_rfl) (by kernel_rfl) (fun _ _ _ h => h) (Or.inl ⟨by kernel_rfl, ?hv⟩) hH0 ?_
  case hv => intro w' hS; go_simp; try exact rfl
  simp only [Act.put, List.getElem_toArray, List.getElem_cons_zero, List.getElem_cons_succ, List.setIfInBounds_toArray, List.set_cons_zero, List.set_cons_succ]
  apply wpAnyH_take (i := 3) (v := _) rfl (by kernel_rfl) (by kernel_rfl) (by kernel_rfl) (fun _ _ _ h => h) (Or.inl ⟨by kernel_rfl, ?hv⟩) hH0 ?_
  case hv => intro w' hS; go_simp; try exact rfl
  simp only [Act.put, List.getElem_toArray, List.getElem_cons_zero, List.getElem_cons_succ, List.setIfInBounds_toArray, List.set_cons_zero, List.set_cons_succ]
  apply wpAnyH_take (i := 4) (v := _) rfl (by kernel_rfl) (by kernel_rfl) (by kernel_rfl) (fun _ _ _ h => h) (Or.inl ⟨by kernel_rfl, ?hv⟩) hH0 ?_
  case hv => intro w' hS; go_simp; try exact rfl
  simp only [Act.put, List.getElem_toArray, List.getElem_cons_zero, List.getElem_cons_succ, List.setIfInBounds_toArray, List.set_cons_zero, List.set_cons_succ]
  refine wpAnyH_take (i := 5) (v := (.agg LC.toArray)) rfl (by kernel_rfl) (by kernel_rfl) (by kernel_rfl) (fun _ _ _ h => h) (yieldsIf_load_mid (by kernel_rfl) 103 (.tmp 43) rfl b 99 rfl LC _ (fun w' h => h.2.1) Tryd.underlying103 rfl SZC.out) hH0 ?_
  simp only [Act.put, List.getElem_toArray, List.getElem_cons_zero, List.getElem_cons_succ, List.setIfInBounds_toArray, List.set_cons_zero, List.set_cons_succ]
  refine wpAnyH_take (i := 6) (v := (.agg LP.toArray)) rfl (by kernel_rfl) (by kernel_rfl) (by kernel_rfl) (fun _ _ _ h => h) (yieldsIf_load_mid (by kernel_rfl) 56 (.tmp 3) rfl G 0 rfl LP _ (fun w' h => h.2.2.1.row0) Tryd.underlying56 rfl SZPL.out) hH0 ?_
  simp only [Act.put, List.getElem_toArray, List.getElem_cons_zero, List.getElem_cons_succ, List.setIfInBounds_toArray, List.set_cons_zero, List.set_cons_succ]
  refine wpAnyH_ready (rs := [7]) (by kernel_rfl) (by simp) ?_
  refine AllReadyH.cons rfl (fun KK hKK => ?_) AllReadyH.nil
  go_simp
  refine (HOF.out _ hS0.2.2.2).mono ?_
  rintro _ x5 ⟨rfl, hx5⟩
  have hs5 : w3.heap.size ≤ x5.heap.size ∧ x5.rangeAt b 99 LC ∧ Has x5 G 56 LP.toArray ∧ Below w3.heap.size w3 x5 := ⟨Nat.le_trans hS0.1 hx5.size, rangeAt_kept hS0.2.1 (Kept.of_below (S := fun _ => False) hx5) (fun e => e), hS0.2.2.1.below hx5 hS0.2.2.1.lt, hS0.2.2.2.trans (hx5.mono hS0.1)⟩
  clear hx5
  refine Shut.out hKK _ _ hs5 (fun hH1 => ?_)
  clear hKK KK
  try simp only [Act.put, List.getElem_toArray, List.getElem_cons_zero, List.getElem_cons_succ, List.setIfInBounds_toArray, List.set_cons_zero, List.set_cons_succ]
  apply wpAnyH_take (i := 8) (v := _) rfl (by kernel_rfl) (by kernel_rfl) (by kernel_rfl) (fun _ _ _ h => h) (Or.inl ⟨by kernel_rfl, ?hv⟩) hH1 ?_
  case hv => intro w' hS; go_simp; try exact rfl
  simp only [Act.put, List.getElem_toArray, List.getElem_cons_zero, List.getElem_cons_succ, List.setIfInBounds_toArray, List.set_cons_zero, List.set_cons_succ]
  apply wpAnyH_take (i := 9) (v := _) rfl (by kernel_rfl) (by kernel_rfl) (by kernel_rfl) (fun _ _ _ h => h) (Or.inl ⟨by kernel_rfl, ?hv⟩) hH1 ?_
  case hv => intro w' hS; go_simp; try exact rfl
  simp only [Act.put, List.getElem_toArray, List.getElem_cons_zero, List.getElem_cons_succ, List.setIfInBounds_toArray, List.set_cons_zero, List.set_cons_succ]
  apply wpAnyH_take (i := 10) (v := _) rfl (by kernel_rfl) (by kernel_rfl) (by kernel_rfl) (fun _ _ _ h => h) (Or.inl ⟨by kernel_rfl, ?hv⟩) hH1 ?_
  case hv => intro w' hS; go_simp; try exact rfl
  simp only [Act.put, List.getElem_toArray, List.getElem_cons_zero, List.getElem_cons_succ, List.setIfInBounds_toArray, List.set_cons_zero, List.set_cons_succ]
  refine wpAnyH_done (by kernel_rfl) ?_ _
  refine NoPanic.normal ?_
  have HFN := Lib.hid (HW3.out.trans (hs5.2.2.2.mono HW3.out.size))
  clear hS0 hs5
  go_wp2_with fail
  go_ret
  exact ⟨rfl, HFN.out⟩
end Go.Proofs.YtngmpcmeebcdmaaDoor
