/- The head of the laws of leaves: the document's example. -/
import Derived.Test.YtniakgoefkbkhaaGreatDoorWs
import Derived.Test.YtniakgoefkbkhaaGreatDoorWLp0
import Derived.Test.YtniakgoefkbkhaaGreatDoorWSha7
import Derived.Laws.BytesArg
import Derived.Test.YtniakgoefkbkhaaGreatDoorWLeq
import Derived.Test.YtniakgoefkbkhaaGreatDoorWRef1
namespace Go.Proofs.YtniakgoefkbkhaaGreatDoor
set_option linter.unusedVariables false
set_option linter.unusedSimpArgs false
open Go.ChangeShapes Go.WideShapes Go.ChangeAt Go.RowKit Go.Maps

theorem ofE_ok {K s0 : List Wd} {l : LeafT} {r : Nd} {bb : List Nat} {xs : List Nd} {i : Nat} (h1 : leafBad { l with sp := r } = false) (h2 : pfRoot K s0 (bareB bb) (placeK K s0 i) xs (leafNd K s0 (l.id ++ l.ow) l.am) = .ok r) (h3 : l.pl = (i : Int)) : ofE K s0 (spF r i l) bb xs = 0 := by
 unfold ofE
 rw [show leafBad (spF r i l) = false from h1, if_neg (by decide), show (spF r i l).pl = (i : Int) from h3, Int.toNat_natCast, show (spF r i l).id = l.id from rfl, show (spF r i l).ow = l.ow from rfl, show (spF r i l).am = l.am from rfl, show (spF r i l).sp = r from rfl, h2, chk_ok, if_pos (ndSame_iff.2 rfl)]
 rfl
theorem of_ok {ls : List LeafT} (hok : ∀ l ∈ ls, l.ok) (hn : ls.length ≤ 8) {T : List Lf} (hT : tlAt KS SS ls ls.length = .ok T) {i : Nat} {l : LeafT} (hi : ls[i]? = some l) {bb : List Nat} {a : Option Addr} {n : Nat} {w : World} (hp : ProofOf KS SS T (placeK KS SS i) bb a n w) :
  ofE KS SS (spF (partNd KS SS 256 T) i l) bb (nodesF KS SS (besF KS SS T (placeK KS SS i)) 256) = 0 :=
 ofE_ok (of_way hok hn hT hi hp.bits).1 (of_way hok hn hT hi hp.bits).2.1 (of_way hok hn hT hi hp.bits).2.2
def zLf (n : Nat) : LeafT := ⟨List.replicate 32 0, n, List.replicate 32 0, 0, zNd⟩
theorem zLf_ok (n : Nat) (h : n < 18446744073709551616) : (zLf n).ok := ⟨zNd_hash, h, zNd_hash, (by show (-9223372036854775808 : Int) ≤ 0; decide), (by show (0 : Int) ≤ 9223372036854775807; decide), zNd_hash, (by show 0 < 18446744073709551616; decide)⟩
theorem zLf_build (n : Nat) (w : World) : (Instr.build 41 #[(1, .int .u64 (n : Int))]).run Tryz.prog w = .ok (.agg (zLf n).cells.toArray) w := by kernel_rfl
theorem leaf_at0 (b n c : Nat) (hn : 0 < n) (w : World) : (Instr.indexAt 23 (.slice (some ⟨b, 0, none⟩) n c) (.int .i64 0)).run Tryz.prog w = .ok (.pointer (some ⟨b, 0, none⟩)) w := by simpa using at_leaf0 b n c 0 hn w
theorem leaf_at1 (b n c : Nat) (hn : 1 < n) (w : World) : (Instr.indexAt 23 (.slice (some ⟨b, 0, none⟩) n c) (.int .i64 1)).run Tryz.prog w = .ok (.pointer (some ⟨b, 99, none⟩)) w := by simpa using at_leaf0 b n c 1 hn w
def hls : List LeafT := [zLf 3, zLf 4]
theorem hls_ok : ∀ l ∈ hls, l.ok := fun l hl => by
 simp only [hls, List.mem_cons, List.not_mem_nil, or_false] at hl
 rcases hl with rfl | rfl <;> exact zLf_ok _ (by decide)
theorem hls_tree : tlAt KS SS (placed hls) 2 = .ok (partsT KS SS (placed hls)) := by
 have h := tl_makes (ls := placed hls) (placed_ok hls_ok (by decide)) (fun i l h => by
  have hi := (List.getElem?_eq_some_iff.1 h).1
  rw [placed_len] at hi
  have hi2 : i < 2 := hi
  rcases (by omega : i = 0 ∨ i = 1) with rfl | rfl
  · rw [placed_get (l := zLf 3) rfl] at h; injection h with h; subst h; exact ⟨rfl, by decide⟩
  · rw [placed_get (l := zLf 4) rfl] at h; injection h with h; subst h; exact ⟨rfl, by decide⟩) (by decide) 2 (by decide) (by decide)
 exact h
theorem hls_sum : (partNd KS SS 256 (partsT KS SS (placed hls))).s = 7 := by
 rw [part_sum KS SS 256 _ (parts_keyed (by decide)) (coh_top _), parts_sum]
 rfl
set_option maxRecDepth 100000 in
set_option maxHeartbeats 4000000 in
theorem headL_is (w : World) (hT : Tabs KS SS w) : Calls Tryz.prog 15 #[] w fun e w' => e = .returned (.bool true) ∧ Below w.heap.size w w' := by
 obtain ⟨Z, hinfo, hzs⟩ := info_leafT
 obtain ⟨Zp, hzp, -, hzps, hzpn, -⟩ := zero_proofB
 have hlow := hT.low
 have HT := Lib.hid hT
 have hb3 := zLf_build 3
 have hb4 := zLf_build 4
 obtain ⟨C3, hC3⟩ : ∃ L, L = (zLf 3).cells := ⟨_, rfl⟩
 obtain ⟨C4, hC4⟩ : ∃ L, L = (zLf 4).cells := ⟨_, rfl⟩
 rw [← hC3] at hb3
 rw [← hC4] at hb4
 have l3 : C3.length = 99 := by rw [hC3]; exact LeafT.len (zLf_ok 3 (by decide))
 have l4 : C4.length = 99 := by rw [hC4]; exact LeafT.len (zLf_ok 4 (by decide))
 have HINFO := Lib.hid hinfo
 have L3 := Lib.hid l3
 have L4 := Lib.hid l4
 have HN3 := Lib.hid (show ∀ v, (Instr.build 41 #[(1, .int .u64 3)]).run Tryz.prog v = .ok (.agg C3.toArray) v from hb3)
 have HN4 := Lib.hid (show ∀ v, (Instr.build 41 #[(1, .int .u64 4)]).run Tryz.prog v = .ok (.agg C4.toArray) v from hb4)
 obtain ⟨W1, hW1⟩ : ∃ W, W = w.alloc (.cells (C3 ++ C4).toArray 41) := ⟨_, rfl⟩
 have hh1 : Has W1 w.heap.size 41 (hls.flatMap LeafT.cells).toArray := by
   rw [hW1, hC3, hC4]
   simpa [hls] using Has.new w 41 ((zLf 3).cells ++ (zLf 4).cells).toArray
 have hb1 : Below w.heap.size w W1 := by rw [hW1]; exact (Below.refl _ _).alloc (Nat.le_refl _) _
 have hr1 := rows_has hh1 (len_cells hls_ok)
 have hcall := lfParts_is KS SS W1 (hT.below hb1 hlow) (some ⟨w.heap.size, 0, none⟩) 2 2 hls hr1 hls_ok (by decide)
 rw [hls_tree] at hcall
 have HCALL := Lib.hid hcall
 have HB1 := Lib.hid hb1
 have HW1 := Lib.hid hW1
 clear hcall hr1 hh1 hb1 hW1 hC3 hC4 hinfo l3 l4 hb3 hb4 hT
 go_enter Tryz.func15, Tryz.ntmps15
 go_wp2_with (first
   | (refine wpList_build_run rfl 41 #[(1, .const (.int .u64 3))] rfl #[(1, .int .u64 3)] (by kernel_rfl) (.agg C3.toArray) (HN3.out _) ?_)
   | (refine wpList_build_run rfl 41 #[(1, .const (.int .u64 4))] rfl #[(1, .int .u64 4)] (by kernel_rfl) (.agg C4.toArray) (HN4.out _) ?_)
   | (refine wpList_build2 rfl 23 41 (.tmp 6) (.tmp 7) rfl (.agg Z) 99 120 Tryz.underlying23 HINFO.out C3 C4 L3.out L4.out (by decide) (by decide) rfl rfl ?_))
 rw [← HW1.out]
 refine HCALL.out.mono ?_
 rintro _ w2 ⟨hb2, a, c, rfl, hown⟩
 obtain ⟨r, hr⟩ : ∃ r, r = partNd KS SS 256 (partsT KS SS (placed hls)) := ⟨_, rfl⟩
 have hrs : r.s = 7 := by rw [hr]; exact hls_sum
 have hrh : IsHash r.h := by rw [hr]; exact part_hash KS SS (by decide) 256 _
 rw [← hr] at hown
 have hok2 : ∀ l ∈ splitL r (placed hls), l.ok := split_ok hrh (by omega) (placed_ok hls_ok (by decide))
 have hlen2 : (splitL r (placed hls)).length = 2 := by rw [split_len, placed_len]; rfl
 obtain ⟨hrow, hfar⟩ := own_rows hown hlen2 (len_cells hok2)
 obtain ⟨b, o, rfl, hblt, hrr⟩ := hrow.at_ (by decide)
 have ho : o = 0 := by
   obtain ⟨g, cap, cur, e, _⟩ := own_open hown (by decide)
   injection e with e; injection e with e; injection e
 subst ho
 have g0 : (splitL r (placed hls))[0]? = some (spF r 0 (plF 0 (zLf 3))) := split_get (placed_get rfl)
 have g1 : (splitL r (placed hls))[1]? = some (spF r 1 (plF 1 (zLf 4))) := split_get (placed_get rfl)
 have o0 := hok2 _ (List.mem_of_getElem? g0)
 have o1 := hok2 _ (List.mem_of_getElem? g1)
 have c98 : w2.cell? ⟨b, 98, none⟩ = some (.int .u64 7) := by
   have := hrr 0 _ g0 98 _ (LeafT.at_ss o0)
   rw [show (spF r 0 (plF 0 (zLf 3))).sp.s = 7 from hrs] at this
   simpa using this
 have c164 : w2.cell? ⟨b, 164, none⟩ = some (.int .i64 1) := by
   have := hrr 1 _ g1 65 _ (LeafT.at_pl o1)
   simpa [spF, plF] using this
 have hway := lfWay_is KS SS w2 (HT.out.below (HB1.out.trans (hb2.mono HB1.out.size)) hlow) (some ⟨b, 0, none⟩) 2 c (splitL r (placed hls)) hrow hok2 (by decide) 1 (by decide) (by decide)
 rw [tl_split, hls_tree] at hway
 have HWAY := Lib.hid hway
 have hw2 : Below w.heap.size w w2 := HB1.out.trans (hb2.mono HB1.out.size)
 have HW2 := Lib.hid hw2
 have HRR := Lib.hid (hrr 1 _ g1)
 have HO1 := Lib.hid o1
 have HR := Lib.hid hr
 have ha0 := leaf_at0 b 2 c (by decide)
 have ha1 := leaf_at1 b 2 c (by decide)
 clear hway hw2 hrow hrr hown hfar g0 g1 o0 hok2 hlen2 hb2 hr hrs hrh o1 HCALL HW1
 go_wp2_with fail
 refine HWAY.out.mono ?_
 rintro _ w3 ⟨hb3, hm⟩
 dsimp only at hm
 rcases hm with ⟨hm, -⟩ | ⟨-, bb, pa, pn, pc, rfl, hpf, hnew⟩
 · omega
 replace hpf : ProofOf KS SS (partsT KS SS (placed hls)) (placeK KS SS 1) bb pa pn w3 := hpf
 have hpn : pn ≤ 1000000 := by have := nodesF_len (K := KS) (s0 := SS) (f := besF KS SS (partsT KS SS (placed hls)) (placeK KS SS 1)) 256; have := hpf.nodes.len; omega
 have hof0 : ofE KS SS (spF r 1 (plF 1 (zLf 4))) bb (nodesF KS SS (besF KS SS (partsT KS SS (placed hls)) (placeK KS SS 1)) 256) = 0 := by
   rw [HR.out]
   exact of_ok (ls := placed hls) (placed_ok hls_ok (by decide)) (by decide) hls_tree (placed_get rfl) hpf
 have h12 : IsHash bb := hpf.hash
 obtain ⟨LP, hLP⟩ : ∃ L, L = pcells bb pa pn pc := ⟨_, rfl⟩
 obtain ⟨LC, hLC⟩ : ∃ L, L = (spF r 1 (plF 1 (zLf 4))).cells := ⟨_, rfl⟩
 have lp : LP.length = 33 := by rw [hLP]; exact pcells_len h12 pa pn pc
 have lc : LC.length = 99 := by rw [hLC]; exact LeafT.len HO1.out
 have HRC := Lib.hid (show w3.rangeAt b 99 LC from by rw [hLC]; exact rangeAt_kept (by simpa using HRR.out) (Kept.of_below (S := fun _ => False) hb3) (fun e => e))
 obtain ⟨h4, hb4⟩ := new_row w3 107 Zp LP.toArray
 have hw3 := HW2.out.trans (hb3.mono HW2.out.size)
 have HOF := Lib.hid (show ∀ v : World, Below w3.heap.size w3 v → Calls Tryz.prog 38 #[.agg LC.toArray, .agg LP.toArray] v fun e w' => e = .returned (.int .i64 0) ∧ Below v.heap.size v w' from fun v hv => by
   have := lfOf_is KS SS v (HT.out.below (hw3.trans (hv.mono hw3.size)) hlow) (spF r 1 (plF 1 (zLf 4))) HO1.out bb h12 pa pn pc _ (hpf.nodes.below hv) hpn
   rw [hof0] at this
   rw [hLC, hLP]
   exact this)
 have HW3 := Lib.hid hw3
 have HRC4 := Lib.hid (rangeAt_kept HRC.out (Kept.of_below (S := fun _ => False) hb4) (fun e => e))
 have H4 := Lib.hid h4
 have HB4 := Lib.hid hb4
 have SZP := Lib.hid (show (Tryz.prog.info? 107).map (·.size) = some LP.toArray.size by rw [List.size_toArray, lp]; kernel_rfl)
 have SZPL := Lib.hid (show (Tryz.prog.info? 107).map (·.size) = some LP.length by rw [lp]; kernel_rfl)
 have SZC := Lib.hid (show (Tryz.prog.info? 41).map (·.size) = some LC.length by rw [lc]; kernel_rfl)
 have HZP := Lib.hid (show Zp.size = LP.toArray.size by rw [hzps, List.size_toArray, lp])
 have HOP := Lib.hid (show LP.toArray.all (·.oneCell') = true by rw [hLP]; exact pcells_one _ _ _ _)
 rw [← hLP]
 clear hLP hLC lp lc h4 hb4 hb3 hw3 hpf hnew hpn hof0 h12 HRR HO1 HR c98 c164 hzps
 go_wp2_with (refine wpList_store_row rfl 107 (.tmp 3) (.tmp 37) rfl w3.heap.size LP.toArray rfl rfl 107 Zp (heap_alloc_new w3 _) SZP.out HZP.out HOP.out ?_)
 obtain ⟨W4, hW4⟩ : ∃ W, W = (w3.alloc (.cells Zp 107)).setRow w3.heap.size LP.toArray := ⟨_, rfl⟩
 rw [← hW4] at HRC4 H4 HB4 ⊢
 clear hW4
 obtain ⟨G, hG⟩ : ∃ g, g = w3.heap.size := ⟨_, rfl⟩
 rw [← hG] at H4 ⊢
 clear hG
 have hS0 : w3.heap.size ≤ W4.drew.heap.size ∧ W4.drew.rangeAt b 99 LC ∧ Has W4.drew G 107 LP.toArray ∧ Below w3.heap.size w3 W4.drew := ⟨HB4.out.size, HRC4.out, H4.out, below_drew HB4.out⟩
 refine wp_region_noPanic ?_
 refine wp_region_held_drew (S := (fun v => w3.heap.size ≤ v.heap.size ∧ v.rangeAt b 99 LC ∧ Has v G 107 LP.toArray ∧ Below w3.heap.size w3 v)) (by kernel_rfl) hS0 (fun hH0 => ?_)
 apply tk 0 (v := _) rfl (Or.inl ⟨by kernel_rfl, ?hv⟩) hH0 ?_
 case hv => intro w' hS; go_simp; try exact rfl
 simp only [Act.put, qa]
 apply tk 1 (v := _) rfl (Or.inl ⟨by kernel_rfl, ?hv⟩) hH0 ?_
 case hv => intro w' hS; go_simp; try exact rfl
 simp only [Act.put, qa]
 apply tk 2 (v := _) rfl (Or.inl ⟨by kernel_rfl, ?hv⟩) hH0 ?_
 case hv => intro w' hS; go_simp; try exact rfl
 simp only [Act.put, qa]
 apply tk 3 (v := _) rfl (Or.inl ⟨by kernel_rfl, ?hv⟩) hH0 ?_
 case hv => intro w' hS; go_simp; try exact rfl
 simp only [Act.put, qa]
 apply tk 4 (v := _) rfl (Or.inl ⟨by kernel_rfl, ?hv⟩) hH0 ?_
 case hv => intro w' hS; go_simp; try exact rfl
 simp only [Act.put, qa]
 refine tk 5 (v := (.agg LC.toArray)) rfl (yieldsIf_load_mid (by kernel_rfl) 41 (.tmp 43) rfl b 99 rfl LC _ (fun w' h => h.2.1) Tryz.underlying41 rfl SZC.out) hH0 ?_
 simp only [Act.put, qa]
 refine tk 6 (v := (.agg LP.toArray)) rfl (yieldsIf_load_mid (by kernel_rfl) 107 (.tmp 3) rfl G 0 rfl LP _ (fun w' h => h.2.2.1.row0) Tryz.underlying107 rfl SZPL.out) hH0 ?_
 simp only [Act.put, qa]
 refine wpAnyH_ready (rs := [7]) (by kernel_rfl) (by simp) ?_
 refine AllReadyH.cons rfl (fun KK hKK => ?_) AllReadyH.nil
 go_simp
 refine (HOF.out _ hS0.2.2.2).mono ?_
 rintro _ x5 ⟨rfl, hx5⟩
 have hs5 : w3.heap.size ≤ x5.heap.size ∧ x5.rangeAt b 99 LC ∧ Has x5 G 107 LP.toArray ∧ Below w3.heap.size w3 x5 := ⟨Nat.le_trans hS0.1 hx5.size, rangeAt_kept hS0.2.1 (Kept.of_below (S := fun _ => False) hx5) (fun e => e), hS0.2.2.1.below hx5 hS0.2.2.1.lt, hS0.2.2.2.trans (hx5.mono hS0.1)⟩
 clear hx5
 refine Shut.out hKK _ _ hs5 (fun hH1 => ?_)
 clear hKK KK
 try simp only [Act.put, qa]
 apply tk 8 (v := _) rfl (Or.inl ⟨by kernel_rfl, ?hv⟩) hH1 ?_
 case hv => intro w' hS; go_simp; try exact rfl
 simp only [Act.put, qa]
 apply tk 9 (v := _) rfl (Or.inl ⟨by kernel_rfl, ?hv⟩) hH1 ?_
 case hv => intro w' hS; go_simp; try exact rfl
 simp only [Act.put, qa]
 apply tk 10 (v := _) rfl (Or.inl ⟨by kernel_rfl, ?hv⟩) hH1 ?_
 case hv => intro w' hS; go_simp; try exact rfl
 simp only [Act.put, qa]
 refine wpAnyH_done (by kernel_rfl) ?_ _
 refine NoPanic.normal ?_
 have HFN := Lib.hid (HW3.out.trans (hs5.2.2.2.mono HW3.out.size))
 clear hS0 hs5
 go_wp2_with fail
 go_ret
 exact ⟨rfl, HFN.out⟩
end Go.Proofs.YtniakgoefkbkhaaGreatDoor
/- The walk of the reference's Same. -/
namespace Go.Proofs.YtniakgoefkbkhaaGreatDoor
set_option linter.unusedVariables false
set_option linter.unusedSimpArgs false
open Go.ChangeShapes Go.WideShapes Go.ChangeAt Go.RowKit Go.Maps

def strOf (bs : List Nat) : ByteArray := strOfNums (bs.map fun (n : Nat) => (n : Int))
theorem strOf_inj {a b : List Nat} (ha : ∀ x ∈ a, x < 256) (hb : ∀ x ∈ b, x < 256) (h : strOf a = strOf b) : a = b := by
 have e := congrArg (fun s : ByteArray => s.data.toList.map UInt8.toNat) h
 simp only [strOf, strOfNums_data, List.map_map] at e
 have go : ∀ l : List Nat, (∀ x ∈ l, x < 256) → l.map (UInt8.toNat ∘ (fun n : Int => UInt8.ofNat n.toNat) ∘ fun (n : Nat) => (n : Int)) = l := fun l hl => by
  conv => rhs; rw [← List.map_id l]
  refine List.map_congr_left fun x hx => ?_
  have := hl x hx
  simp
  omega
 rw [go a ha, go b hb] at e
 exact e
theorem conv_zero (w : World) (p : Option Addr) (c : Nat) : (convert 54 9 (.slice p 0 c)).run Tryz.prog w = .ok (.string ByteArray.empty) w := by
 rw [run_convert_bytes_string w 54 9 5 p 0 c Tryz.underlying54 Tryz.underlying5 Tryz.underlying9]
 cases p <;> simp [Conv.bytesToString, loadCells, loadCellsFrom]
theorem conv_bytes {w : World} {g : Nat} {v : Value} {bs : List Nat} (h : Bytes w g v bs) : (convert 54 9 v).run Tryz.prog w = .ok (.string (strOf bs)) w := by
 obtain ⟨a, c, rfl, h1, h2, h3⟩ := h
 rcases Nat.eq_zero_or_pos bs.length with h0 | h0
 · obtain rfl : bs = [] := List.eq_nil_of_length_eq_zero h0
   exact conv_zero w a c
 · obtain ⟨bg, bo, rfl, _, hc⟩ := h3 h0
   exact run_convert_bytes_arg w 54 5 Tryz.underlying54 Tryz.underlying5 bg bo bs.length c (bs.map fun (n : Nat) => (n : Int)) (by simp) (fun i hi => by
    rw [hc i hi]
    congr 2
    rw [List.getD_eq_getElem?_getD, List.getD_eq_getElem?_getD, List.getElem?_map, List.getElem?_eq_getElem hi]
    rfl) 9 Tryz.underlying9
set_option maxRecDepth 100000 in
theorem same_is (w : World) (va vb : Value) (a b : List Nat) (ha : Bytes w w.heap.size va a) (hb : Bytes w w.heap.size vb b) :
  Calls Tryz.prog 20 #[va, vb] w fun e w' => e = .returned (.bool (decide (a = b))) ∧ w' = w := by
 have h1 := conv_bytes ha
 have h2 := conv_bytes hb
 have ht : ((strOf a).toList == (strOf b).toList) = decide (a = b) := by
  obtain ⟨_, _, _, _, la, _⟩ := ha
  obtain ⟨_, _, _, _, lb, _⟩ := hb
  rw [Bool.eq_iff_iff, beq_iff_eq, decide_eq_true_eq]
  refine ⟨fun e => strOf_inj la lb ?_, fun e => by rw [e]⟩
  rw [ByteArray.toList_eq, ByteArray.toList_eq] at e
  exact ByteArray.ext (Array.toList_inj.1 e)
 have HT := Lib.hid ht
 clear ha hb ht
 go_enter Tryz.func20, Tryz.ntmps20
 go_wp2
 go_ret
 refine ⟨?_, rfl⟩
 rw [← HT.out]
 rfl
end Go.Proofs.YtniakgoefkbkhaaGreatDoor
/- LeafReads: its plain, its walk. -/
namespace Go.Proofs.YtniakgoefkbkhaaGreatDoor
set_option linter.unusedVariables false
set_option linter.unusedSimpArgs false
open Go.ChangeShapes Go.WideShapes Go.ChangeAt Go.RowKit Go.Maps

def ldL : Except Nat LeafT → LeafT
 | .ok l => l
 | .error _ => zLeaf
def ldE : Except Nat LeafT → Nat
 | .ok _ => 0
 | .error x => x
theorem zLeaf_ok : zLeaf.ok := ⟨zNd_hash, by decide, zNd_hash, by decide, by decide, zNd_hash, by decide⟩
theorem LdP.out {w : World} {R : Except Nat LeafT} {e : Ending} {w' : World} (h : LdP w R e w') : e = .returned (.tuple #[.agg (ldL R).cells.toArray, .int .i64 (ldE R : Int)]) ∧ Below w.heap.size w w' ∧ (ldL R).ok := by
 cases R with
 | ok l => exact ⟨h.2.1, h.1, h.2.2⟩
 | error x => exact ⟨h.2, h.1, zLeaf_ok⟩
set_option maxRecDepth 100000 in
set_option maxHeartbeats 4000000 in
theorem lwPlain_is (w : World) (l : LeafT) (h : l.ok) : Calls Tryz.prog 18 #[.agg l.cells.toArray] w fun e w' => e = .returned (.agg l.cells.toArray) ∧ Below w.heap.size w w' := by
 obtain ⟨Z, hz, -, hzs, hzn, -⟩ := zero_rleafT
 obtain ⟨LC, hLC⟩ : ∃ L, L = l.cells := ⟨_, rfl⟩
 have hbx : Has ((w.alloc (.cells LC.toArray 41)).alloc (.cells Z 62)) w.heap.size 41 LC.toArray := (Has.new w _ _).alloc _
 have hrx : Has ((w.alloc (.cells LC.toArray 41)).alloc (.cells Z 62)) (w.heap.size + 1) 62 Z := by
  have := Has.new (w.alloc (.cells LC.toArray 41)) 62 Z
  simpa using this
 have hbb : Below w.heap.size w ((w.alloc (.cells LC.toArray 41)).alloc (.cells Z 62)) := ((Below.refl _ _).alloc (Nat.le_refl _) _).alloc (by simp) _
 have hset := set_box hbb hrx (Nat.le_succ _) hbb.size (L := LC) (by rw [hzs, hLC, LeafT.len h])
 obtain ⟨W1, hW1⟩ : ∃ v, v = (w.alloc (.cells LC.toArray 41)).alloc (.cells Z 62) := ⟨_, rfl⟩
 rw [← hW1] at hbx hrx hbb hset
 have hR : W1.rangeAt w.heap.size 0 (bcells l.id) ∧ W1.rangeAt w.heap.size 33 (bcells l.ow) ∧ W1.rangeAt w.heap.size 66 (bcells l.sp.h) := by
  refine ⟨fun j u hu => ?_, fun j u hu => ?_, fun j u hu => ?_⟩ <;> have hj := (List.getElem?_eq_some_iff.1 hu).1 <;> rw [bcells_length] at hj
  · rw [bcells_get _ j hj] at hu
    rw [h.id.1] at hj
    rw [← hu, Nat.zero_add]
    exact hbx.cell_is (by rw [List.getElem?_toArray, hLC]; exact LeafT.at_id h j hj)
  · rw [bcells_get _ j hj] at hu
    rw [h.ow.1] at hj
    rw [← hu]
    exact hbx.cell_is (by rw [List.getElem?_toArray, hLC]; exact LeafT.at_ow h j hj)
  · refine hbx.cell_is ?_
    rw [List.getElem?_toArray, hLC, LeafT.at_sp h, ndV, ncells, List.getElem?_append_left (by rw [bcells_length]; exact hj)]
    exact hu
 have c32 : W1.cell? ⟨w.heap.size, 32, none⟩ = some (.int .u64 (l.am : Int)) := hbx.cell_is (by rw [List.getElem?_toArray, hLC]; exact LeafT.at_am h)
 have c65 : W1.cell? ⟨w.heap.size, 65, none⟩ = some (.int .i64 l.pl) := hbx.cell_is (by rw [List.getElem?_toArray, hLC]; exact LeafT.at_pl h)
 have c98 : W1.cell? ⟨w.heap.size, 98, none⟩ = some (.int .u64 (l.sp.s : Int)) := hbx.cell_is (by rw [List.getElem?_toArray, hLC]; exact LeafT.at_ss h)
 have HB5 := Lib.hid (build_rnode l.sp.h h.sp.1 l.sp.s)
 have HB6 := Lib.hid (build_rleaf l.id l.ow l.sp.h h.id.1 h.ow.1 h.sp.1 l.am l.sp.s l.pl)
 have SZH := Lib.hid (show ∀ z : List Nat, IsHash z → (Tryz.prog.info? 25).map (·.size) = some (bcells z).length from fun z hz => by rw [bcells_length, hz.1]; kernel_rfl)
 have SZL := Lib.hid (show (Tryz.prog.info? 62).map (·.size) = some LC.toArray.size by rw [List.size_toArray, hLC, LeafT.len h]; kernel_rfl)
 have HOC := Lib.hid (show LC.toArray.all (·.oneCell') = true by rw [hLC]; exact LeafT.one _)
 have HEQ := Lib.hid (show (LeafT.cells ⟨l.id, l.am, l.ow, l.pl, ⟨l.sp.h, l.sp.s⟩⟩) = LC from hLC.symm)
 rw [HEQ.out] at HB6
 have HZL := Lib.hid (show Z.size = LC.toArray.size by rw [hzs, List.size_toArray, hLC, LeafT.len h])
 rw [← hLC]
 obtain ⟨li, hli⟩ : ∃ x, x = l.id := ⟨_, rfl⟩
 obtain ⟨lo, hlo⟩ : ∃ x, x = l.ow := ⟨_, rfl⟩
 obtain ⟨lh, hlh⟩ : ∃ x, x = l.sp.h := ⟨_, rfl⟩
 obtain ⟨ls, hls⟩ : ∃ x, x = l.sp.s := ⟨_, rfl⟩
 obtain ⟨lp, hlp⟩ : ∃ x, x = l.pl := ⟨_, rfl⟩
 obtain ⟨la, hla⟩ : ∃ x, x = l.am := ⟨_, rfl⟩
 rw [← hli, ← hlo, ← hlh] at hR
 rw [← hla] at c32
 rw [← hlp] at c65
 rw [← hls] at c98
 rw [← hlh, ← hls] at HB5
 rw [← hli, ← hlo, ← hlh, ← hls, ← hlp, ← hla] at HB6
 have HHI := Lib.hid (show IsHash li ∧ IsHash lo ∧ IsHash lh from ⟨by rw [hli]; exact h.id, by rw [hlo]; exact h.ow, by rw [hlh]; exact h.sp⟩)
 have HR := Lib.hid hR
 have HRX := Lib.hid hrx
 have EW := Lib.hid hW1
 have HSET := Lib.hid hset
 have hst : Has (W1.setRow (w.heap.size + 1) LC.toArray) (w.heap.size + 1) 62 LC.toArray ∧ Below w.heap.size w (W1.setRow (w.heap.size + 1) LC.toArray) := ⟨hrx.setRow, hbb.trans ((kept_setRow (g := w.heap.size + 1) W1 LC.toArray).below hbb.size (fun k e => by have e' : k = w.heap.size + 1 := e; omega))⟩
 have HST := Lib.hid hst
 clear hbx hrx hbb hset hW1 hR hst hli hlo hlh hls hlp hla hLC h hzs
 go_enter Tryz.func18, Tryz.ntmps18
 go_upto_region 1 with (fail)
 rw [← EW.out]
 go_wp2_with (first
  | (refine wpList_load_mid rfl 25 (.tmp 3) rfl w.heap.size 0 rfl (bcells li) _ HR.out.1 Tryz.underlying25 rfl (SZH.out _ HHI.out.1) ?_)
  | (refine wpList_load_mid rfl 25 (.tmp 7) rfl w.heap.size 33 rfl (bcells lo) _ HR.out.2.1 Tryz.underlying25 rfl (SZH.out _ HHI.out.2.1) ?_)
  | (refine wpList_load_mid rfl 25 (.tmp 12) rfl w.heap.size 66 rfl (bcells lh) _ HR.out.2.2 Tryz.underlying25 rfl (SZH.out _ HHI.out.2.2) ?_)
  | (refine wpList_build_run (by kernel_rfl) 60 _ rfl #[(0, .agg (bcells lh).toArray), (1, .int .u64 (ls : Int))] (by kernel_rfl) (.agg (ndV ⟨lh, ls⟩).toArray) (HB5.out _) ?_)
  | (refine wpList_build_run (by kernel_rfl) 62 _ rfl #[(0, .agg (bcells li).toArray), (1, .int .u64 (la : Int)), (2, .agg (bcells lo).toArray), (3, .int .i64 lp), (4, .agg (ndV ⟨lh, ls⟩).toArray)] (by kernel_rfl) (.agg LC.toArray) (HB6.out _) ?_)
  | (refine wpList_store_row rfl 62 (.tmp 2) (.tmp 18) rfl (w.heap.size + 1) LC.toArray rfl rfl 62 Z HRX.out SZL.out HZL.out HOC.out ?_))
 refine bodyPost_ret (results_cell_row rfl _ _ (w.heap.size + 1) 62 LC.toArray (0, 0) _ rfl HST.out.1 Tryz.underlying62 rfl SZL.out) rfl ?_
 exact ⟨rfl, HST.out.2⟩
end Go.Proofs.YtniakgoefkbkhaaGreatDoor
