/- The walk of the reference's Key. -/
import Derived.Test.YtniakgoefkbkhaaGreatDoorWs
import Derived.Test.YtniakgoefkbkhaaGreatDoorWTg1
import Derived.Test.YtniakgoefkbkhaaGreatDoorWLz3
import Derived.Test.YtniakgoefkbkhaaGreatDoorWLb3
namespace Go.Proofs.YtniakgoefkbkhaaGreatDoor
set_option linter.unusedVariables false
set_option linter.unusedSimpArgs false
open Go.ChangeShapes Go.WideShapes Go.ChangeAt Go.RowKit Go.Maps

theorem partsT_three {w : World} {pg : Nat} {v0 v1 v2 : Value} {p0 p1 p2 : List Nat} (h : Has w pg 54 #[v0, v1, v2]) (h0 : Bytes w w.heap.size v0 p0) (h1 : Bytes w w.heap.size v1 p1) (h2 : Bytes w w.heap.size v2 p2) : Parts w (.slice (some ⟨pg, 0, none⟩) 3 3) [p0, p1, p2] := by
 refine ⟨_, _, rfl, fun _ => ⟨pg, 0, rfl, fun i hi => ?_⟩⟩
 match i, hi with
 | 0, _ => exact ⟨v0, h.cell_is rfl, h0⟩
 | 1, _ => exact ⟨v1, h.cell_is rfl, h1⟩
 | 2, _ => exact ⟨v2, h.cell_is rfl, h2⟩
theorem boxes_rkey (w : World) (CT : Array Value) (LC : List Value) (Z : Array Value) : ∃ W1, W1 = ((w.alloc (.cells CT 72)).alloc (.cells LC.toArray 62)).alloc (.cells Z 24) ∧
   Has W1 w.heap.size 72 CT ∧ Has W1 (w.heap.size + 1) 62 LC.toArray ∧ Has W1 (w.heap.size + 1 + 1) 24 Z ∧ Below w.heap.size w W1 := by
 refine ⟨_, rfl, ((Has.new w _ _).alloc _).alloc _, ?_, ?_, (((Below.refl _ _).alloc (Nat.le_refl _) _).alloc (by simp) _).alloc (by simp; omega) _⟩
 · have := (Has.new (w.alloc (.cells CT 72)) 62 LC.toArray).alloc (.cells Z 24)
   simpa using this
 · have := Has.new ((w.alloc (.cells CT 72)).alloc (.cells LC.toArray 62)) 24 Z
   simpa using this
set_option maxRecDepth 100000 in
set_option maxHeartbeats 4000000 in
theorem rzKey_is (K s0 : List Wd) (hK : K.length = 64) (hs0 : s0.length = 8) (w : World) (l : LeafT) (h : l.ok) : Calls Tryz.prog 22 #[.agg (tabsL s0 K).toArray, .agg l.cells.toArray] w fun e w' => e = .returned (arr (keyK K s0 l)) ∧ Below w.heap.size w w' := by
 obtain ⟨zk, hzk, -, hzs, hzn, -⟩ := zero_h32
 obtain ⟨LC, hLC⟩ : ∃ L, L = l.cells := ⟨_, rfl⟩
 obtain ⟨CT, hCT⟩ : ∃ C, C = (tabsL s0 K).toArray := ⟨_, rfl⟩
 obtain ⟨D, hD⟩ : ∃ D, D = keyK K s0 l := ⟨_, rfl⟩
 have hph : IsHash D := by rw [hD]; exact digest_hash K s0 hs0 _
 have HTAG := Lib.hid (fun v vp pp h1 h2 h3 => ttag_is K s0 hK hs0 v keyS (by decide) vp pp h1 h2 h3)
 rw [← hCT] at HTAG ⊢
 rw [← hLC, ← hD]
 have HLC := Lib.hid hLC
 have HD := Lib.hid hD
 have SZ := Lib.hid (show (Tryz.prog.info? 24).map (·.size) = some (bcells D).toArray.size by rw [List.size_toArray, bcells_length, hph.1]; kernel_rfl)
 have SZ2 := Lib.hid (show zk.size = (bcells D).length by rw [hzs, bcells_length, hph.1])
 have SZT := Lib.hid (show (Tryz.prog.info? 72).map (·.size) = some CT.toList.length by rw [hCT]; simp only [Array.length_toList, List.size_toArray, tabs_length K s0 hK hs0]; kernel_rfl)
 have HOK := Lib.hid h
 clear hLC hD hph hzs hCT hK
 go_enter Tryz.func22, Tryz.ntmps22
 go_upto_region 1 with (fail)
 obtain ⟨W1, hW1, h0, h1, h2, hb1⟩ := boxes_rkey w CT LC zk
 rw [← hW1]
 clear hW1
 obtain ⟨B, hB⟩ : ∃ b, b = w.heap.size := ⟨_, rfl⟩
 rw [← hB] at h0 h1 h2 hb1 ⊢
 have hBS : B + 1 + 1 < W1.heap.size := h2.lt
 have HBQ := Lib.hid hB
 clear hB
 have hwr : IntKind.u8.wrap l.pl = (plB l : Int) := by rw [IntKind.wrap_u8]; unfold plB; omega
 obtain ⟨q, hq⟩ : ∃ q, q = plB l := ⟨_, rfl⟩
 obtain ⟨pl, hpl⟩ : ∃ q, q = l.pl := ⟨_, rfl⟩
 rw [← hq, ← hpl] at hwr
 have hq256 : q < 256 := by rw [hq]; exact plB_lt l
 have HC := Lib.hid (show ∀ v : World, Has v (B + 1) 62 LC.toArray → v.cell? ⟨B + 1, 65, none⟩ = some (.int .i64 pl) from fun v hv => hv.cell_is (by rw [List.getElem?_toArray, HLC.out, hpl]; exact LeafT.at_pl HOK.out))
 have HBY := Lib.hid (show ∀ v : World, Has v (B + 1) 62 LC.toArray → Bytes v v.heap.size (.slice (some ⟨B + 1, 0, none⟩) 32 32) l.id ∧ Bytes v v.heap.size (.slice (some ⟨B + 1, 33, none⟩) 32 32) l.ow from fun v hv => by
  obtain ⟨p1, p2, _⟩ := rleaf_three HOK.out (by rw [← HLC.out]; exact hv)
  exact ⟨p1, p2⟩)
 have hS0 : (Has W1.drew (B + 1) 62 LC.toArray ∧ Has W1.drew B 72 CT) ∧ Below B w W1.drew := ⟨⟨h1, h0⟩, below_drew hb1⟩
 have hz : Has W1.drew (B + 1 + 1) 24 zk := h2
 have hBW : B + 1 + 1 < W1.drew.heap.size := hBS
 have HWR := Lib.hid hwr
 have EQ := Lib.hid hq
 clear hb1 h0 h1 h2 hwr hq hpl h hBS
 have HDQ := Lib.hid (show tagD K s0 keyS [l.id, l.ow, [q]].flatten = D by rw [HD.out, EQ.out]; unfold keyK; simp)
 have HLN := Lib.hid (show [l.id, l.ow, [q]].flatten.length ≤ 100000 by simp [HOK.out.id.1, HOK.out.ow.1])
 refine wp_region_noPanic ?_
 refine wp_region_held_drew (S := (fun v => (Has v (B + 1) 62 LC.toArray ∧ Has v B 72 CT) ∧ Below B w v)) (by kernel_rfl) hS0 (fun hH0 => ?_)
 refine tk 0 (v := (.agg CT.toList.toArray)) rfl (yieldsIf_load_mid (by kernel_rfl) 72 (.tmp 2) rfl B 0 rfl CT.toList _ (fun w' h => (h.1.2.row0)) Tryz.underlying72 rfl SZT.out) hH0 ?_
 simp only [Act.put, qa]
 apply tk 1 (v := _) rfl (Or.inl ⟨by kernel_rfl, ?hv⟩) hH0 ?_
 case hv => intro w' hS; have z0 := HC.out w' hS.1.1; have z1 := HWR.out; go_simp; try exact rfl
 simp only [Act.put, qa]
 apply tk 2 (v := _) rfl (Or.inl ⟨by kernel_rfl, ?hv⟩) hH0 ?_
 case hv => intro w' hS; have z0 := HC.out w' hS.1.1; have z1 := HWR.out; go_simp; try exact rfl
 simp only [Act.put, qa]
 apply tk 3 (v := _) rfl (Or.inl ⟨by kernel_rfl, ?hv⟩) hH0 ?_
 case hv => intro w' hS; have z0 := HC.out w' hS.1.1; have z1 := HWR.out; go_simp; try exact rfl
 simp only [Act.put, qa]
 apply tk 4 (v := _) rfl (Or.inl ⟨by kernel_rfl, ?hv⟩) hH0 ?_
 case hv => intro w' hS; have z0 := HC.out w' hS.1.1; have z1 := HWR.out; go_simp; try exact rfl
 simp only [Act.put, qa]
 apply tk 5 (v := _) rfl (Or.inl ⟨by kernel_rfl, ?hv⟩) hH0 ?_
 case hv => intro w' hS; have z0 := HC.out w' hS.1.1; have z1 := HWR.out; go_simp; try exact rfl
 simp only [Act.put, qa]
 apply tk 6 (v := _) rfl (Or.inl ⟨by kernel_rfl, ?hv⟩) hH0 ?_
 case hv => intro w' hS; have z0 := HC.out w' hS.1.1; have z1 := HWR.out; go_simp; try exact rfl
 simp only [Act.put, qa]
 apply tk 7 (v := _) rfl (Or.inl ⟨by kernel_rfl, ?hv⟩) hH0 ?_
 case hv => intro w' hS; have z0 := HC.out w' hS.1.1; have z1 := HWR.out; go_simp; try exact rfl
 simp only [Act.put, qa]
 refine wpAnyH_ready (rs := [8]) (by kernel_rfl) (by simp) ?_
 refine AllReadyH.cons rfl (fun KK hKK => ?_) AllReadyH.nil
 refine step_buildN rfl 54 5 1 _ rfl _ 1 1 Tryz.underlying54 info_u8 [.tmp 12] rfl [.int .u8 (q : Int)] rfl (by simp [Value.cells]) rfl rfl (by decide) (by decide) (by decide) ?_
 try rw [show [Value.int IntKind.u8 (q : Int)].flatMap (fun v => v.cells.toList) = [.int .u8 (q : Int)] from rfl]
 obtain ⟨x8, hx8⟩ : ∃ y, y = W1.drew.alloc (.cells #[.int .u8 (q : Int)] 5) := ⟨_, rfl⟩
 first | rw [← hx8] | (change KK _ (W1.drew.alloc (.cells #[.int .u8 (q : Int)] 5)); rw [← hx8])
 have hnx8 : Below W1.drew.heap.size W1.drew x8 := by rw [hx8]; exact (Below.refl _ _).alloc (Nat.le_refl _) _
 have hq1 : Has x8 W1.drew.heap.size 5 #[.int .u8 (q : Int)] := by rw [hx8]; exact Has.new _ _ _
 obtain ⟨Q, hQ⟩ : ∃ g, g = W1.drew.heap.size := ⟨_, rfl⟩
 first | rw [← hQ] | (have hQ2 : W1.heap.size = Q := hQ.symm; rw [hQ2]) | skip
 rw [← hQ] at hq1
 clear hQ
 have hsx8 : ((Has x8 (B + 1) 62 LC.toArray ∧ Has x8 B 72 CT) ∧ Below B w x8) := ⟨⟨hH0.1.1.below hnx8 hH0.1.1.lt, hH0.1.2.below hnx8 hH0.1.2.lt⟩, hH0.2.trans (hnx8.mono (Nat.le_of_lt (Nat.lt_of_succ_lt (Nat.lt_of_succ_lt hBW))))⟩
 try replace hz := hz.below hnx8 hz.lt
 replace hBW : B + 1 + 1 < x8.heap.size := Nat.lt_of_lt_of_le hBW hnx8.size
 clear hx8
 refine Shut.out hKK _ _ hsx8 (fun hH1 => ?_)
 clear hKK KK
 try simp only [Act.put, qa]
 refine wpAnyH_ready (rs := [9]) (by kernel_rfl) (by simp) ?_
 refine AllReadyH.cons rfl (fun KK hKK => ?_) AllReadyH.nil
 refine step_buildN rfl 147 54 3 _ rfl _ 1 24 Tryz.underlying147 info_slice [.tmp 7, .tmp 9, .tmp 13] rfl [.slice (some ⟨B + 1, 0, none⟩) 32 32, .slice (some ⟨B + 1, 33, none⟩) 32 32, .slice (some ⟨Q, 0, none⟩) 1 1] rfl (by simp [Value.cells]) rfl rfl (by decide) (by decide) (by decide) ?_
 obtain ⟨x9, hx9⟩ : ∃ y, y = x8.alloc (.cells #[.slice (some ⟨B + 1, 0, none⟩) 32 32, .slice (some ⟨B + 1, 33, none⟩) 32 32, .slice (some ⟨Q, 0, none⟩) 1 1] 54) := ⟨_, rfl⟩
 first | rw [← hx9] | (change KK _ (x8.alloc (.cells #[.slice (some ⟨B + 1, 0, none⟩) 32 32, .slice (some ⟨B + 1, 33, none⟩) 32 32, .slice (some ⟨Q, 0, none⟩) 1 1] 54)); rw [← hx9])
 have hnx9 : Below x8.heap.size x8 x9 := by rw [hx9]; exact (Below.refl _ _).alloc (Nat.le_refl _) _
 have hp : Has x9 x8.heap.size 54 #[.slice (some ⟨B + 1, 0, none⟩) 32 32, .slice (some ⟨B + 1, 33, none⟩) 32 32, .slice (some ⟨Q, 0, none⟩) 1 1] := by rw [hx9]; exact Has.new _ _ _
 obtain ⟨R, hR⟩ : ∃ g, g = x8.heap.size := ⟨_, rfl⟩
 first | rw [← hR] | (have hR2 : W1.heap.size = R := hR.symm; rw [hR2]) | skip
 rw [← hR] at hp
 clear hR
 have hsx9 : ((Has x9 (B + 1) 62 LC.toArray ∧ Has x9 B 72 CT) ∧ Below B w x9) := ⟨⟨hH1.1.1.below hnx9 hH1.1.1.lt, hH1.1.2.below hnx9 hH1.1.2.lt⟩, hH1.2.trans (hnx9.mono (Nat.le_of_lt (Nat.lt_of_succ_lt (Nat.lt_of_succ_lt hBW))))⟩
 try replace hz := hz.below hnx9 hz.lt
 try replace hq1 := hq1.below hnx9 hq1.lt
 replace hBW : B + 1 + 1 < x9.heap.size := Nat.lt_of_lt_of_le hBW hnx9.size
 clear hx9
 refine Shut.out hKK _ _ hsx9 (fun hH2 => ?_)
 clear hKK KK
 try simp only [Act.put, qa]
 refine wpAnyH_ready (rs := [10]) (by kernel_rfl) (by simp) ?_
 refine AllReadyH.cons rfl (fun KK hKK => ?_) AllReadyH.nil
 go_simp
 have hby := HBY.out _ hH2.1.1
 have hsum := HTAG.out _ _ [l.id, l.ow, [q]] (partsT_three hp hby.1 hby.2 (one_by hq1 hq256 _ (Nat.ne_of_lt hq1.lt))) HLN.out (by show 3 ≤ 100000; omega)
 rw [HDQ.out] at hsum
 unfold arr at hsum
 refine hsum.mono ?_
 rintro _ xa ⟨rfl, hnxa⟩
 have hsxa : ((Has xa (B + 1) 62 LC.toArray ∧ Has xa B 72 CT) ∧ Below B w xa) := ⟨⟨hH2.1.1.below hnxa hH2.1.1.lt, hH2.1.2.below hnxa hH2.1.2.lt⟩, hH2.2.trans (hnxa.mono (Nat.le_of_lt (Nat.lt_of_succ_lt (Nat.lt_of_succ_lt hBW))))⟩
 try replace hz := hz.below hnxa hz.lt
 replace hBW : B + 1 + 1 < xa.heap.size := Nat.lt_of_lt_of_le hBW hnxa.size
 clear hsum hby
 refine Shut.out hKK _ _ hsxa (fun hH3 => ?_)
 clear hKK KK
 try simp only [Act.put, qa]
 refine wpAnyH_ready (rs := [11]) (by kernel_rfl) (by simp) ?_
 refine AllReadyH.cons rfl (fun KK hKK => ?_) AllReadyH.nil
 refine step_store_mid rfl 24 (.tmp 4) (.tmp 15) rfl (B + 1 + 1) 0 (bcells D).toArray rfl rfl (hz.there 0 _ (by rw [List.size_toArray, SZ2.out]; exact Nat.le_of_eq (Nat.zero_add _))) SZ.out (all_oneCell_toArray (bcells_one D)) ?_
 have hset := set_box hH3.2 hz (by omega) (by omega) SZ2.out
 obtain ⟨xb, hxb⟩ : ∃ y, y = xa.setCells (B + 1 + 1) 0 (bcells D) := ⟨_, rfl⟩
 rw [← hxb] at hset
 change KK _ (xa.setCells (B + 1 + 1) 0 (bcells D))
 rw [← hxb]
 have hsxb : ((Has xb (B + 1) 62 LC.toArray ∧ Has xb B 72 CT) ∧ Below B w xb) := ⟨⟨hH3.1.1.kept hset.2.2 (by omega), hH3.1.2.kept hset.2.2 (by omega)⟩, hset.1⟩
 clear hxb
 refine Shut.out hKK _ _ hsxb (fun hH4 => ?_)
 clear hKK KK
 try simp only [Act.put, qa]
 refine wpAnyH_done (by kernel_rfl) ?_ _
 refine NoPanic.normal ?_
 have HF := Lib.hid hset.2.1
 have HBF := Lib.hid hset.1
 clear hset hsxb
 go_wp2_with fail
 refine bodyPost_ret (results_cell_row rfl _ _ (B + 1 + 1) 24 (bcells D).toArray (0, 0) _ rfl HF.out Tryz.underlying24 rfl SZ.out) rfl ?_
 exact ⟨rfl, by rw [← HBQ.out]; exact HBF.out⟩
end Go.Proofs.YtniakgoefkbkhaaGreatDoor
/- The walk of a leaf's Sum. -/
namespace Go.Proofs.YtniakgoefkbkhaaGreatDoor
set_option linter.unusedVariables false
set_option linter.unusedSimpArgs false
open Go.ChangeShapes Go.WideShapes Go.ChangeAt Go.RowKit Go.Maps

def SumP (w : World) (l : LeafT) (e : Ending) (w' : World) : Prop :=
 Below w.heap.size w w' ∧ ((leafBad l = false ∧ ∃ a c, e = .returned (leafV (.slice a (leafB l).length c) l.am) ∧ Bytes w' w'.heap.size (.slice a (leafB l).length c) (leafB l)) ∨ (leafBad l = true ∧ e = .returned (leafV (.slice none 0 0) 0)))
theorem build_sl (v : Value) (hv : v.oneCell' = true) (n : Int) (w : World) (a : Option Addr) (k c : Nat) (e : v = .slice a k c) : (Instr.build 75 #[(0, v), (1, .int .u64 n)]).run Tryz.prog w = .ok (.agg #[v, .int .u64 n]) w := by
 subst e
 exact run_build w 75 _ _ (by kernel_rfl)
set_option maxRecDepth 100000 in
set_option maxHeartbeats 4000000 in
theorem lfSum_is (w : World) (l : LeafT) (h : l.ok) : Calls Tryz.prog 24 #[.agg l.cells.toArray] w (SumP w l) := by
 obtain ⟨LC, hLC⟩ : ∃ L, L = l.cells := ⟨_, rfl⟩
 have HEN := Lib.hid (fun v => lfEncode_is v l h)
 have hzl := zero_leaf
 unfold leafV at hzl
 rw [← hLC] at HEN ⊢
 have SZL := Lib.hid (show (Tryz.prog.info? 41).map (·.size) = some LC.toArray.size by rw [hLC, List.size_toArray, LeafT.len h]; kernel_rfl)
 have HLC := Lib.hid hLC
 have HOK := Lib.hid h
 have hbe : ∀ v, (Instr.build 75 #[]).run Tryz.prog v = .ok (.agg #[.slice none 0 0, .int .u64 0]) v := fun v => by kernel_rfl
 clear hLC
 go_enter Tryz.func24, Tryz.ntmps24
 go_upto_region 1 with (fail)
 obtain ⟨W1, hW1, h1, h2, hb1⟩ := boxes_part w LC
 rw [← hW1]
 clear hW1 hzl
 obtain ⟨B, hB⟩ : ∃ b, b = w.heap.size := ⟨_, rfl⟩
 rw [← hB] at h1 h2 hb1 ⊢
 have HBQ := Lib.hid hB
 have HS1 := Lib.hid h1
 have H2 := Lib.hid h2
 have HB1 := Lib.hid hb1
 clear hB h1 h2 hb1
 go_wp2_with (refine wpList_load_row rfl 41 (.tmp 1) rfl B rfl 41 LC.toArray (0, 0) _ HS1.out Tryz.underlying41 rfl SZL.out ?_)
 refine (HEN.out _).mono ?_
 intro e3 w3 hm
 cases hbad : leafBad l with
 | true =>
  rw [show lenc l = .error 1 by unfold lenc; rw [hbad]; rfl] at hm
  obtain ⟨rfl, hb3⟩ := (show e3 = .returned (.tuple #[.slice none 0 0, .int .i64 ((1 : Nat) : Int)]) ∧ Below _ _ w3 from hm)
  have h23 := H2.out.below hb3 H2.out.lt
  have hq3 := HB1.out.trans (hb3.mono (Nat.le_of_lt (Nat.lt_of_succ_lt H2.out.lt)))
  have H23 := Lib.hid h23
  have HFIN := Lib.hid (show Has (w3.setRow (B + 1) #[.slice none 0 0, .int .u64 0]) (B + 1) 75 #[.slice none 0 0, .int .u64 0] ∧ Below B w (w3.setRow (B + 1) #[.slice none 0 0, .int .u64 0]) from ⟨h23.setRow, hq3.trans ((kept_setRow (g := B + 1) w3 #[.slice none 0 0, .int .u64 0]).below (Nat.le_of_lt (Nat.lt_of_succ_lt h23.lt)) (fun k e => by have e' : k = B + 1 := e; omega))⟩)
  have HBD := Lib.hid hbad
  clear hm hb3 h23 hq3 hbad HEN
  go_wp2_with (refine wpList_store_row rfl 75 (.tmp 2) (.tmp 12) rfl (B + 1) #[.slice none 0 0, .int .u64 0] rfl rfl 75 _ H23.out (by kernel_rfl) rfl (by kernel_rfl) ?_)
  refine bodyPost_ret (results_cell_row rfl _ _ (B + 1) 75 #[.slice none 0 0, .int .u64 0] (0, 0) _ rfl HFIN.out.1 Tryz.underlying75 rfl (by kernel_rfl)) rfl ?_
  exact ⟨by rw [← HBQ.out]; exact HFIN.out.2, .inr ⟨HBD.out, rfl⟩⟩
 | false =>
  rw [show lenc l = .ok (leafB l) by unfold lenc; rw [hbad]; rfl] at hm
  obtain ⟨v3, rfl, ⟨sa, sc, rfl, ho3⟩, hb3⟩ := (show ∃ v', e3 = .returned (.tuple #[v', .int .i64 0]) ∧ BigW _ _ (leafB l) v' w3 from hm)
  obtain ⟨N, hN⟩ : ∃ n, n = (leafB l).length := ⟨_, rfl⟩
  rw [← hN] at ho3 ⊢
  have h13 := HS1.out.below hb3 HS1.out.lt
  have h23 := H2.out.below hb3 H2.out.lt
  have hq3 := HB1.out.trans (hb3.mono (Nat.le_of_lt (Nat.lt_of_succ_lt H2.out.lt)))
  have c32 : w3.cell? ⟨B, 32, none⟩ = some (.int .u64 (l.am : Int)) := h13.cell_is (by rw [List.getElem?_toArray, HLC.out]; exact LeafT.at_am h)
  have hk := kept_setRow (g := B + 1) w3 #[.slice sa N sc, .int .u64 (l.am : Int)]
  have H23 := Lib.hid h23
  have HFIN := Lib.hid (show Has (w3.setRow (B + 1) #[.slice sa N sc, .int .u64 (l.am : Int)]) (B + 1) 75 #[.slice sa N sc, .int .u64 (l.am : Int)] ∧ Below B w (w3.setRow (B + 1) #[.slice sa N sc, .int .u64 (l.am : Int)]) from ⟨h23.setRow, hq3.trans (hk.below (Nat.le_of_lt (Nat.lt_of_succ_lt h23.lt)) (fun k e => by have e' : k = B + 1 := e; omega))⟩)
  have hown := own_kept ho3 hk (fun j e e2 => by
    have e' : j = B + 1 := e2
    have h1 := own_blk ho3 j e
    have h2 := H2.out.lt
    omega)
  have HBY := Lib.hid (own_bytes hown hN.symm (leafB_lt l h) (Nat.le_refl _))
  have HBD := Lib.hid hbad
  have HNN := Lib.hid hN
  have hbs := build_sl (.slice sa N sc) rfl (l.am : Int)
  obtain ⟨am, ham⟩ : ∃ z, z = l.am := ⟨_, rfl⟩
  rw [← ham] at HFIN HBY c32
  have HAM := Lib.hid ham
  clear hm hb3 h13 h23 hq3 hbad HEN hk hown ho3 hN hbs ham
  go_wp2_with (first
    | (refine wpList_build_run (by kernel_rfl) 75 _ rfl #[(0, .slice sa N sc), (1, .int .u64 (am : Int))] (by kernel_rfl) (.agg #[.slice sa N sc, .int .u64 (am : Int)]) (build_sl _ rfl _ _ sa N sc rfl) ?_)
    | (refine wpList_store_row rfl 75 (.tmp 2) (.tmp 16) rfl (B + 1) #[.slice sa N sc, .int .u64 (am : Int)] rfl rfl 75 _ H23.out (by kernel_rfl) rfl (by kernel_rfl) ?_))
  refine bodyPost_ret (results_cell_row rfl _ _ (B + 1) 75 #[.slice sa N sc, .int .u64 (am : Int)] (0, 0) _ rfl HFIN.out.1 Tryz.underlying75 rfl (by kernel_rfl)) rfl ?_
  refine ⟨by rw [← HBQ.out]; exact HFIN.out.2, .inl ⟨HBD.out, sa, sc, ?_, ?_⟩⟩
  · rw [← HNN.out, ← HAM.out]; rfl
  · rw [← HNN.out]; exact HBY.out
end Go.Proofs.YtniakgoefkbkhaaGreatDoor
