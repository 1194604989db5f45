/- The walk of leaf's Encode. -/
import Derived.Test.YtknfbccbdiidjaaGreatDoorWs
import Derived.Test.YtknfbccbdiidjaaGreatDoorRLb2
import Derived.Test.YtknfbccbdiidjaaGreatDoorRTv7
namespace Go.Proofs.YtknfbccbdiidjaaGreatDoor
set_option linter.unusedVariables false
set_option linter.unusedSimpArgs false
open Go.ChangeShapes Go.WideShapes Go.ChangeAt Go.RowKit Go.Maps

def lenc (l : LeafT) : Except Nat (List Nat) := if leafBad l = true then .error 1 else .ok (leafB l)
theorem mid_bytes {w : World} {B o : Nat} {t : TypeId} {cs : Array Value} {l : List Nat} (h : Has w B t cs) (n : Nat) (hn : l.length = n) (hlt : ∀ x ∈ l, x < 256) (hc : ∀ i, i < n → cs[o + i]? = some (.int .u8 (l.getD i 0 : Nat))) : Bytes w w.heap.size (.slice (some ⟨B, o, none⟩) n n) l :=
 ⟨_, _, by rw [hn], by rw [hn]; exact Nat.le_refl _, hlt, fun _ => ⟨B, o, rfl, Nat.ne_of_lt h.lt, fun i hi => h.cell_is (hc i (by omega))⟩⟩
theorem leaf_three {w : World} {B : Nat} {l : LeafT} (hl : l.ok) (h : Has w B 32 l.cells.toArray) :
   Bytes w w.heap.size (.slice (some ⟨B, 0, none⟩) 32 32) l.id ∧ Bytes w w.heap.size (.slice (some ⟨B, 33, none⟩) 32 32) l.ow ∧ Bytes w w.heap.size (.slice (some ⟨B, 66, none⟩) 32 32) l.sp.h := by
 refine ⟨mid_bytes h 32 hl.id.1 hl.id.2 (fun i hi => ?_), mid_bytes h 32 hl.ow.1 hl.ow.2 (fun i hi => ?_), mid_bytes h 32 hl.sp.1 hl.sp.2 (fun i hi => ?_)⟩
 · rw [List.getElem?_toArray, Nat.zero_add]; exact LeafT.at_id hl i hi
 · rw [List.getElem?_toArray]; exact LeafT.at_ow hl i hi
 · rw [List.getElem?_toArray, LeafT.at_sp hl, ndV, ncells, List.getElem?_append_left (by rw [bcells_length, hl.sp.1]; exact hi)]
   exact bcells_get _ i (by rw [hl.sp.1]; exact hi)
def recM5 (l : LeafT) (B Q : Nat) (a1 oa : Option Addr) (oc : Nat) : List RecM := [⟨0, some ⟨B, 0, none⟩, l.id, 32⟩, ⟨2, a1, eight l.am, 8⟩, ⟨4, some ⟨B, 33, none⟩, l.ow, 32⟩, ⟨6, some ⟨Q, 0, none⟩, [plB l], 1⟩, ⟨8, oa, l.sp.h ++ eight l.sp.s, oc⟩]
theorem recM5_r (l : LeafT) (B Q : Nat) (a1 oa : Option Addr) (oc : Nat) : (recM5 l B Q a1 oa oc).map RecM.r = recsOf l := rfl
theorem recM5_cells (l : LeafT) (h : l.ok) (B Q : Nat) (a1 oa : Option Addr) (oc : Nat) : [Value.int .u64 0, .slice (some ⟨B, 0, none⟩) 32 32, .int .u64 2, .slice a1 8 8, .int .u64 4, .slice (some ⟨B, 33, none⟩) 32 32, .int .u64 6, .slice (some ⟨Q, 0, none⟩) 1 1, .int .u64 8, .slice oa 40 oc] = (recM5 l B Q a1 oa oc).flatMap RecM.cells := by
 simp [recM5, RecM.cells, h.id.1, h.ow.1, h.sp.1, eight_len']
theorem recs_five {w : World} (l : LeafT) (h : l.ok) {B Q R : Nat} {a1 oa : Option Addr} {oc : Nat} (hr : Has w R 139 ((recM5 l B Q a1 oa oc).flatMap RecM.cells).toArray)
   (h0 : Bytes w w.heap.size (.slice (some ⟨B, 0, none⟩) 32 32) l.id) (h1 : Bytes w w.heap.size (.slice a1 8 8) (eight l.am)) (h2 : Bytes w w.heap.size (.slice (some ⟨B, 33, none⟩) 32 32) l.ow) (h3 : Bytes w w.heap.size (.slice (some ⟨Q, 0, none⟩) 1 1) [plB l]) (h4 : Bytes w w.heap.size (.slice oa 40 oc) (l.sp.h ++ eight l.sp.s)) :
   RecsAt w (some ⟨R, 0, none⟩) 5 (recM5 l B Q a1 oa oc) := by
 refine ⟨rows_has (xs := recM5 l B Q a1 oa oc) hr (fun x _ => rfl), fun x hx => ?_⟩
 have e4 : (l.sp.h ++ eight l.sp.s).length = 40 := by rw [List.length_append, h.sp.1, eight_len']
 simp only [recM5, List.mem_cons, List.not_mem_nil, or_false] at hx
 rcases hx with rfl | rfl | rfl | rfl | rfl
 · exact ⟨by dsimp only; omega, by dsimp only; rw [h.id.1]; omega, by dsimp only; rw [h.id.1]; exact h0⟩
 · exact ⟨by dsimp only; omega, by dsimp only; rw [eight_len']; omega, by dsimp only; rw [eight_len']; exact h1⟩
 · exact ⟨by dsimp only; omega, by dsimp only; rw [h.ow.1]; omega, by dsimp only; rw [h.ow.1]; exact h2⟩
 · exact ⟨by dsimp only; omega, by show 1 ≤ _; omega, h3⟩
 · exact ⟨by dsimp only; omega, by dsimp only; rw [e4]; omega, by dsimp only; rw [e4]; exact h4⟩
set_option maxRecDepth 100000 in
set_option maxHeartbeats 4000000 in
theorem lfEncode_is (w : World) (l : LeafT) (h : l.ok) : Calls Tryz.prog 55 #[.agg l.cells.toArray] w (TvP w (lenc l)) := by
 obtain ⟨LC, hLC⟩ : ∃ L, L = l.cells := ⟨_, rfl⟩
 have HCK := Lib.hid (fun v => leafCheck_is v l h)
 rw [← hLC] at HCK ⊢
 have SZL := Lib.hid (show (Tryz.prog.info? 32).map (·.size) = some LC.toArray.size by rw [hLC, List.size_toArray, LeafT.len h]; kernel_rfl)
 have HLC := Lib.hid hLC
 have HOK := Lib.hid h
 have HB0 := Lib.hid (Has.new w 32 LC.toArray)
 clear hLC
 obtain ⟨E, hE⟩ : ∃ e, e = lenc l := ⟨_, rfl⟩
 rw [← hE]
 have HE := Lib.hid hE
 clear hE
 go_enter Tryz.func55, Tryz.ntmps55
 go_wp2_with (refine wpList_load_row rfl 32 (.tmp 1) rfl w.heap.size rfl 32 LC.toArray (0, 0) _ HB0.out Tryz.underlying32 rfl SZL.out ?_)
 refine (HCK.out _).mono ?_
 rintro _ w1 ⟨rfl, hw1⟩
 have hbx : Has w1 w.heap.size 32 LC.toArray := by rw [hw1]; exact HB0.out.alloc _
 have hbb : Below w.heap.size w w1 := by rw [hw1]; exact ((Below.refl _ _).alloc (Nat.le_refl _) _).alloc (by simp) _
 have HBX := Lib.hid hbx
 have HBB := Lib.hid hbb
 clear hw1 hbx hbb HCK
 cases hbad : leafBad l with
 | true =>
   have he1 : leafE l = 1 := by unfold leafE; rw [hbad]; rfl
   have HEE := Lib.hid (show E = .error 1 by rw [HE.out]; unfold lenc; rw [hbad]; rfl)
   rw [he1]
   clear hbad he1
   go_wp2_with fail
   go_ret2
   rw [HEE.out]
   exact ⟨rfl, HBB.out⟩
 | false =>
 have he1 : leafE l = 0 := by unfold leafE; rw [hbad]; rfl
 have HEE := Lib.hid (show E = .ok (leafB l) by rw [HE.out]; unfold lenc; rw [hbad]; rfl)
 rw [he1]
 clear hbad he1 HE
 go_upto_region 4 with (fail)
 obtain ⟨B, hB⟩ : ∃ b, b = w.heap.size := ⟨_, rfl⟩
 have HBQ := Lib.hid hB
 have hbx := HBX.out
 have hbb := HBB.out
 rw [← hB] at hbx hbb ⊢
 have hBW : B < w1.drew.heap.size := hbx.lt
 have hS0 : Has w1.drew B 32 LC.toArray ∧ Below B w w1.drew := ⟨hbx, below_drew hbb⟩
 clear hB hbx hbb HBX HBB HB0
 obtain ⟨am, ham⟩ : ∃ x, x = l.am := ⟨_, rfl⟩
 obtain ⟨ss, hss⟩ : ∃ x, x = l.sp.s := ⟨_, rfl⟩
 obtain ⟨pl, hpl⟩ : ∃ x, x = l.pl := ⟨_, rfl⟩
 obtain ⟨q, hq⟩ : ∃ q, q = plB l := ⟨_, rfl⟩
 have hwr : IntKind.u8.wrap l.pl = (plB l : Int) := by rw [IntKind.wrap_u8]; unfold plB; omega
 rw [← hq, ← hpl] at hwr
 have hq256 : q < 256 := by rw [hq]; exact plB_lt l
 have HAM := Lib.hid (show am < 18446744073709551616 by rw [ham]; exact h.am)
 have HSS := Lib.hid (show ss < 18446744073709551616 by rw [hss]; exact h.ss)
 have HC := Lib.hid (show ∀ v : World, Has v B 32 LC.toArray → v.cell? ⟨B, 65, none⟩ = some (.int .i64 pl) ∧ v.cell? ⟨B, 32, none⟩ = some (.int .u64 (am : Int)) ∧ v.cell? ⟨B, 98, none⟩ = some (.int .u64 (ss : Int)) from fun v hv =>
   ⟨hv.cell_is (by rw [List.getElem?_toArray, HLC.out, hpl]; exact LeafT.at_pl HOK.out), hv.cell_is (by rw [List.getElem?_toArray, HLC.out, ham]; exact LeafT.at_am HOK.out), hv.cell_is (by rw [List.getElem?_toArray, HLC.out, hss]; exact LeafT.at_ss HOK.out)⟩)
 have HBY := Lib.hid (show ∀ (v : World), Has v B 32 LC.toArray → Bytes v v.heap.size (.slice (some ⟨B, 0, none⟩) 32 32) l.id ∧ Bytes v v.heap.size (.slice (some ⟨B, 33, none⟩) 32 32) l.ow ∧ Bytes v v.heap.size (.slice (some ⟨B, 66, none⟩) 32 32) l.sp.h from fun v hv => leaf_three HOK.out (by rw [← HLC.out]; exact hv))
 have HL0 := Lib.hid (show 0 + l.sp.h.length = 32 by rw [h.sp.1])
 have HL1 := Lib.hid (show 32 + (eight ss).length = 40 by rw [eight_len'])
 have HWR := Lib.hid hwr
 have EQ := Lib.hid hq
 have EAM := Lib.hid ham
 have ESS := Lib.hid hss
 have HOB := Lib.hid (show ∀ (v : World) (base : Nat) (oa : Option Addr) (oc : Nat), v.ownsRow base 5 1 (.slice oa 40 oc) 40 ([] ++ bcells l.sp.h ++ bcells (eight ss)) → Bytes v v.heap.size (.slice oa 40 oc) (l.sp.h ++ eight l.sp.s) from fun v base oa oc ho => by
   rw [List.nil_append, ← bcells_cat, ESS.out] at ho
   exact own_bytes ho (by rw [List.length_append, HOK.out.sp.1, eight_len']) (fun x hx => (List.mem_append.1 hx).elim (HOK.out.sp.2 x) (eight_lt' _ x)) (Nat.le_refl _))
 clear hwr hq hpl ham hss h
 refine wp_region_noPanic ?_
 refine wp_region_held_drew (S := (fun v => Has v B 32 LC.toArray ∧ Below B w v)) (by kernel_rfl) hS0 (fun hH0 => ?_)
 apply tk 0 (v := _) rfl (Or.inl ⟨by kernel_rfl, ?hv⟩) hH0 ?_
 case hv => intro w' hS; obtain ⟨z0, z1, z2⟩ := HC.out w' hS.1; have z3 := HWR.out; go_simp; try exact rfl
 simp only [Act.put, qa]
 apply tk 1 (v := _) rfl (Or.inl ⟨by kernel_rfl, ?hv⟩) hH0 ?_
 case hv => intro w' hS; obtain ⟨z0, z1, z2⟩ := HC.out w' hS.1; have z3 := HWR.out; go_simp; try exact rfl
 simp only [Act.put, qa]
 apply tk 2 (v := _) rfl (Or.inl ⟨by kernel_rfl, ?hv⟩) hH0 ?_
 case hv => intro w' hS; obtain ⟨z0, z1, z2⟩ := HC.out w' hS.1; have z3 := HWR.out; go_simp; try exact rfl
 simp only [Act.put, qa]
 apply tk 3 (v := _) rfl (Or.inl ⟨by kernel_rfl, ?hv⟩) hH0 ?_
 case hv => intro w' hS; obtain ⟨z0, z1, z2⟩ := HC.out w' hS.1; have z3 := HWR.out; go_simp; try exact rfl
 simp only [Act.put, qa]
 apply tk 4 (v := _) rfl (Or.inl ⟨by kernel_rfl, ?hv⟩) hH0 ?_
 case hv => intro w' hS; obtain ⟨z0, z1, z2⟩ := HC.out w' hS.1; have z3 := HWR.out; go_simp; try exact rfl
 simp only [Act.put, qa]
 apply tk 7 (v := _) rfl (Or.inl ⟨by kernel_rfl, ?hv⟩) hH0 ?_
 case hv => intro w' hS; obtain ⟨z0, z1, z2⟩ := HC.out w' hS.1; have z3 := HWR.out; go_simp; try exact rfl
 simp only [Act.put, qa]
 apply tk 8 (v := _) rfl (Or.inl ⟨by kernel_rfl, ?hv⟩) hH0 ?_
 case hv => intro w' hS; obtain ⟨z0, z1, z2⟩ := HC.out w' hS.1; have z3 := HWR.out; go_simp; try exact rfl
 simp only [Act.put, qa]
 apply tk 9 (v := _) rfl (Or.inl ⟨by kernel_rfl, ?hv⟩) hH0 ?_
 case hv => intro w' hS; obtain ⟨z0, z1, z2⟩ := HC.out w' hS.1; have z3 := HWR.out; go_simp; try exact rfl
 simp only [Act.put, qa]
 apply tk 10 (v := _) rfl (Or.inl ⟨by kernel_rfl, ?hv⟩) hH0 ?_
 case hv => intro w' hS; obtain ⟨z0, z1, z2⟩ := HC.out w' hS.1; have z3 := HWR.out; go_simp; try exact rfl
 simp only [Act.put, qa]
 apply tk 11 (v := _) rfl (Or.inl ⟨by kernel_rfl, ?hv⟩) hH0 ?_
 case hv => intro w' hS; obtain ⟨z0, z1, z2⟩ := HC.out w' hS.1; have z3 := HWR.out; go_simp; try exact rfl
 simp only [Act.put, qa]
 apply tk 12 (v := _) rfl (Or.inl ⟨by kernel_rfl, ?hv⟩) hH0 ?_
 case hv => intro w' hS; obtain ⟨z0, z1, z2⟩ := HC.out w' hS.1; have z3 := HWR.out; go_simp; try exact rfl
 simp only [Act.put, qa]
 apply tk 15 (v := _) rfl (Or.inl ⟨by kernel_rfl, ?hv⟩) hH0 ?_
 case hv => intro w' hS; obtain ⟨z0, z1, z2⟩ := HC.out w' hS.1; have z3 := HWR.out; go_simp; try exact rfl
 simp only [Act.put, qa]
 apply tk 16 (v := _) rfl (Or.inl ⟨by kernel_rfl, ?hv⟩) hH0 ?_
 case hv => intro w' hS; obtain ⟨z0, z1, z2⟩ := HC.out w' hS.1; have z3 := HWR.out; go_simp; try exact rfl
 simp only [Act.put, qa]
 apply tk 17 (v := _) rfl (Or.inl ⟨by kernel_rfl, ?hv⟩) hH0 ?_
 case hv => intro w' hS; obtain ⟨z0, z1, z2⟩ := HC.out w' hS.1; have z3 := HWR.out; go_simp; try exact rfl
 simp only [Act.put, qa]
 apply tk 19 (v := _) rfl (Or.inl ⟨by kernel_rfl, ?hv⟩) hH0 ?_
 case hv => intro w' hS; obtain ⟨z0, z1, z2⟩ := HC.out w' hS.1; have z3 := HWR.out; go_simp; try exact rfl
 simp only [Act.put, qa]
 apply tk 20 (v := _) rfl (Or.inl ⟨by kernel_rfl, ?hv⟩) hH0 ?_
 case hv => intro w' hS; obtain ⟨z0, z1, z2⟩ := HC.out w' hS.1; have z3 := HWR.out; go_simp; try exact rfl
 simp only [Act.put, qa]
 apply tk 21 (v := _) rfl (Or.inl ⟨by kernel_rfl, ?hv⟩) hH0 ?_
 case hv => intro w' hS; obtain ⟨z0, z1, z2⟩ := HC.out w' hS.1; have z3 := HWR.out; go_simp; try exact rfl
 simp only [Act.put, qa]
 refine wpAnyH_ready (rs := [5, 13]) (by kernel_rfl) (by simp) ?_
 refine AllReadyH.cons rfl (fun KK hKK => ?_) (AllReadyH.cons rfl (fun KK hKK => ?_) AllReadyH.nil)
 · go_simp
   refine (lfEight_is _ am HAM.out).mono ?_
   rintro _ x5 ⟨ax5, rfl, he_x5, hnx5⟩
   have hsx5 : Has x5 B 32 LC.toArray ∧ Below B w x5 := ⟨hH0.1.below hnx5 hH0.1.lt, hH0.2.trans (hnx5.mono (Nat.le_of_lt hBW))⟩
   try replace hq1 := hq1.below hnx5 hq1.lt
   try replace hown := own_kept hown (Kept.of_below (S := fun _ => False) hnx5) (fun _ _ e => e)
   try replace he2 := he2.alive hnx5 hnx5.size
   try replace hb5 := hb5.trans (hnx5.mono hb5.size)
   try replace hrow := hrow.alive hnx5 hnx5.size
   try replace hB18 := Nat.le_trans hB18 hnx5.size
   replace hBW : B < x5.heap.size := Nat.lt_of_lt_of_le hBW hnx5.size
   have he1 := he_x5
   have hb5 := Below.refl x5.heap.size x5
   have hB5 : B ≤ x5.heap.size := Nat.le_of_lt hBW
   have he5 := he1
   clear he1
   refine Shut.out hKK _ _ hsx5 (fun hH1 => ?_)
   clear hKK KK
   try simp only [Act.put, qa]
   apply tk 6 (v := _) rfl (Or.inl ⟨by kernel_rfl, ?hv⟩) hH1 ?_
   case hv => intro w' hS; obtain ⟨z0, z1, z2⟩ := HC.out w' hS.1; have z3 := HWR.out; go_simp; try exact rfl
   simp only [Act.put, qa]
   refine wpAnyH_ready (rs := [13, 18]) (by kernel_rfl) (by simp) ?_
   refine AllReadyH.cons rfl (fun KK hKK => ?_) (AllReadyH.cons rfl (fun KK hKK => ?_) AllReadyH.nil)
   · refine step_buildN rfl 48 5 1 _ rfl _ 1 1 Tryz.underlying48 info_u8 [.tmp 22] rfl [.int .u8 (q : Int)] rfl (by simp [Value.cells]) rfl rfl (by decide) (by decide) (by decide) ?_
     try rw [show [Value.int IntKind.u8 (q : Int)].flatMap (fun v => v.cells.toList) = [.int .u8 (q : Int)] from rfl]
     try have hneq0 := fun k e => Nat.ne_of_lt (own_lt hown k e)
     obtain ⟨x13, hx13⟩ : ∃ y, y = x5.alloc (.cells #[.int .u8 (q : Int)] 5) := ⟨_, rfl⟩
     first | rw [← hx13] | (change KK _ (x5.alloc (.cells #[.int .u8 (q : Int)] 5)); rw [← hx13])
     have hnx13 : Below x5.heap.size x5 x13 := by rw [hx13]; exact (Below.refl _ _).alloc (Nat.le_refl _) _
     have hq1 : Has x13 x5.heap.size 5 #[.int .u8 (q : Int)] := by rw [hx13]; exact Has.new _ _ _
     have hq1b : B < x5.heap.size := hBW
     obtain ⟨Q, hQ⟩ : ∃ g, g = x5.heap.size := ⟨_, rfl⟩
     first | rw [← hQ] | (have hQ2 : w1.heap.size = Q := hQ.symm; rw [hQ2]) | skip
     rw [← hQ] at hq1
     rw [← hQ] at hq1b
     try rw [← hQ] at hneq0
     clear hQ
     have hsx13 : Has x13 B 32 LC.toArray ∧ Below B w x13 := ⟨hH1.1.below hnx13 hH1.1.lt, hH1.2.trans (hnx13.mono (Nat.le_of_lt hBW))⟩
     try replace he1 := he1.alive hnx13 hnx13.size
     try replace hown := own_kept hown (Kept.of_below (S := fun _ => False) hnx13) (fun _ _ e => e)
     try replace he2 := he2.alive hnx13 hnx13.size
     try replace hb5 := hb5.trans (hnx13.mono hb5.size)
     try replace hrow := hrow.alive hnx13 hnx13.size
     try replace hB18 := Nat.le_trans hB18 hnx13.size
     replace hBW : B < x13.heap.size := Nat.lt_of_lt_of_le hBW hnx13.size
     clear hx13
     refine Shut.out hKK _ _ hsx13 (fun hH2 => ?_)
     clear hKK KK
     try simp only [Act.put, qa]
     apply tk 14 (v := _) rfl (Or.inl ⟨by kernel_rfl, ?hv⟩) hH2 ?_
     case hv => intro w' hS; obtain ⟨z0, z1, z2⟩ := HC.out w' hS.1; have z3 := HWR.out; go_simp; try exact rfl
     simp only [Act.put, qa]
     refine wpAnyH_ready (rs := [18]) (by kernel_rfl) (by simp) ?_
     refine AllReadyH.cons rfl (fun KK hKK => ?_) AllReadyH.nil
     refine step_append_bytes rfl _ (.tmp 27) rfl x13.heap.size (.slice none 0 0) 0 [] rfl (World.ownsRow_nil _ _ _ _) _ _ l.sp.h rfl (HBY.out _ hH2.1).2.2 (by have := HL0.out; omega) (Nat.le_refl _) ?_
     intro oa18 oc18 x18 hown hgr
     try have hneq0 : ∀ k, (Value.slice oa18 (0 + l.sp.h.length) oc18).ownBlock = some k → k ≠ Q := fun k e => by have h1 := own_blk hown k e; have h2 := hq1.lt; omega
     have hsx18 : Has x18 B 32 LC.toArray ∧ Below B w x18 := ⟨hH2.1.grown hgr (fun e => by cases e), hH2.2.grown hgr (Nat.le_of_lt hBW) (fun k e => by cases e)⟩
     have hN18 : x5.heap.size ≤ x13.heap.size := hb5.size
     replace hb5 := hb5.grown hgr hb5.size (fun k e => by cases e)
     try replace hq1 := hq1.grown hgr (fun e => by cases e)
     try rw [HL0.out] at hneq0
     rw [HL0.out] at hown ⊢
     have hB18 := (Kept.of_grown hgr).size
     replace hBW : B < x18.heap.size := Nat.lt_of_lt_of_le hBW hB18
     clear hgr
     refine Shut.out hKK _ _ hsx18 (fun hH3 => ?_)
     clear hKK KK
     try simp only [Act.put, qa]
     refine wpAnyH_ready (rs := [22]) (by kernel_rfl) (by simp) ?_
     refine AllReadyH.cons rfl (fun KK hKK => ?_) AllReadyH.nil
     go_simp
     refine (lfEight_is _ ss HSS.out).mono ?_
     rintro _ x22 ⟨ax22, rfl, he_x22, hnx22⟩
     have hsx22 : Has x22 B 32 LC.toArray ∧ Below B w x22 := ⟨hH3.1.below hnx22 hH3.1.lt, hH3.2.trans (hnx22.mono (Nat.le_of_lt hBW))⟩
     try replace he1 := he1.alive hnx22 hnx22.size
     try replace hq1 := hq1.below hnx22 hq1.lt
     try replace hown := own_kept hown (Kept.of_below (S := fun _ => False) hnx22) (fun _ _ e => e)
     try replace hb5 := hb5.trans (hnx22.mono hb5.size)
     try replace hrow := hrow.alive hnx22 hnx22.size
     try replace hB18 := Nat.le_trans hB18 hnx22.size
     replace hBW : B < x22.heap.size := Nat.lt_of_lt_of_le hBW hnx22.size
     have he2 := he_x22
     refine Shut.out hKK _ _ hsx22 (fun hH4 => ?_)
     clear hKK KK
     try simp only [Act.put, qa]
     refine wpAnyH_ready (rs := [23]) (by kernel_rfl) (by simp) ?_
     refine AllReadyH.cons rfl (fun KK hKK => ?_) AllReadyH.nil
     refine step_append_bytes rfl (.tmp 28) (.tmp 32) rfl _ _ 32 ([] ++ bcells l.sp.h) rfl hown _ _ (eight ss) rfl he2 (by have := HL1.out; omega) hB18 ?_
     intro oa23 oc23 x23 hown2 hgr2
     have hsx23 : Has x23 B 32 LC.toArray ∧ Below B w x23 := ⟨hH4.1.grown hgr2 (fun e => own_has_ne hown hH4.1 (by decide) B e.symm rfl), hH4.2.grown hgr2 (Nat.le_of_lt hBW) (fun k e => Nat.le_trans (Nat.le_trans hB5 hN18) (own_blk hown k e))⟩
     replace hb5 := hb5.grown hgr2 hb5.size (fun k e => Nat.le_trans hN18 (own_blk hown k e))
     try replace hq1 := hq1.grown hgr2 (fun e => hneq0 Q e.symm rfl)
     rw [HL1.out] at hown2 ⊢
     have hrow := HOB.out _ _ _ _ hown2
     replace hBW : B < x23.heap.size := Nat.lt_of_lt_of_le hBW (Kept.of_grown hgr2).size
     clear hgr2 hown2 hown he2
     refine Shut.out hKK _ _ hsx23 (fun hH5 => ?_)
     clear hKK KK
     try simp only [Act.put, qa]
     apply tk 24 (v := _) rfl (Or.inl ⟨by kernel_rfl, ?hv⟩) hH5 ?_
     case hv => intro w' hS; obtain ⟨z0, z1, z2⟩ := HC.out w' hS.1; have z3 := HWR.out; go_simp; try exact rfl
     simp only [Act.put, qa]
     refine wpAnyH_ready (rs := [25]) (by kernel_rfl) (by simp) ?_
     refine AllReadyH.cons rfl (fun KK hKK => ?_) AllReadyH.nil
     refine step_buildN rfl 136 139 5 _ rfl _ 2 32 Tryz.underlying136 info_rec [.tmp 12, .tmp 16, .tmp 19, .tmp 24, .tmp 34] rfl [.agg #[.int .u64 0, .slice (some ⟨B, 0, none⟩) 32 32], .agg #[.int .u64 2, .slice ax5 8 8], .agg #[.int .u64 4, .slice (some ⟨B, 33, none⟩) 32 32], .agg #[.int .u64 6, .slice (some ⟨Q, 0, none⟩) 1 1], .agg #[.int .u64 8, .slice oa23 40 oc23]] rfl (by simp [Value.cells]) rfl rfl (by decide) (by decide) (by decide) ?_
     change KK _ (x23.alloc (.cells [Value.int .u64 0, .slice (some ⟨B, 0, none⟩) 32 32, .int .u64 2, .slice ax5 8 8, .int .u64 4, .slice (some ⟨B, 33, none⟩) 32 32, .int .u64 6, .slice (some ⟨Q, 0, none⟩) 1 1, .int .u64 8, .slice oa23 40 oc23].toArray 139))
     rw [recM5_cells l HOK.out]
     obtain ⟨x25, hx25⟩ : ∃ y, y = x23.alloc (.cells ((recM5 l B Q ax5 oa23 oc23).flatMap RecM.cells).toArray 139) := ⟨_, rfl⟩
     first | rw [← hx25] | (change KK _ (x23.alloc (.cells ((recM5 l B Q ax5 oa23 oc23).flatMap RecM.cells).toArray 139)); rw [← hx25])
     have hnx25 : Below x23.heap.size x23 x25 := by rw [hx25]; exact (Below.refl _ _).alloc (Nat.le_refl _) _
     have hr5 : Has x25 x23.heap.size 139 ((recM5 l B Q ax5 oa23 oc23).flatMap RecM.cells).toArray := by rw [hx25]; exact Has.new _ _ _
     have hr5b : B < x23.heap.size := hBW
     obtain ⟨R, hR⟩ : ∃ g, g = x23.heap.size := ⟨_, rfl⟩
     first | rw [← hR] | (have hR2 : w1.heap.size = R := hR.symm; rw [hR2]) | skip
     rw [← hR] at hr5
     rw [← hR] at hr5b
     clear hR
     have hsx25 : Has x25 B 32 LC.toArray ∧ Below B w x25 := ⟨hH5.1.below hnx25 hH5.1.lt, hH5.2.trans (hnx25.mono (Nat.le_of_lt hBW))⟩
     try replace he1 := he1.alive hnx25 hnx25.size
     try replace hq1 := hq1.below hnx25 hq1.lt
     try replace hown := own_kept hown (Kept.of_below (S := fun _ => False) hnx25) (fun _ _ e => e)
     try replace he2 := he2.alive hnx25 hnx25.size
     try replace hb5 := hb5.trans (hnx25.mono hb5.size)
     try replace hrow := hrow.alive hnx25 hnx25.size
     try replace hB18 := Nat.le_trans hB18 hnx25.size
     replace hBW : B < x25.heap.size := Nat.lt_of_lt_of_le hBW hnx25.size
     clear hx25
     refine Shut.out hKK _ _ hsx25 (fun hH6 => ?_)
     clear hKK KK
     try simp only [Act.put, qa]
     refine wpAnyH_ready (rs := [26]) (by kernel_rfl) (by simp) ?_
     refine AllReadyH.cons rfl (fun KK hKK => ?_) AllReadyH.nil
     go_simp
     have hr5b' := hBW
     have hby := HBY.out _ hH6.1
     refine (tvEnc_is _ _ 5 5 (recM5 l B Q ax5 oa23 oc23) (recs_five l HOK.out hr5 hby.1 (by rw [← EAM.out]; exact he5.alive hb5 hb5.size) hby.2.1 (by rw [← EQ.out]; exact one_by hq1 hq256 _ (Nat.ne_of_lt hq1.lt)) hrow) (by decide)).mono ?_
     rintro _ x26 hm
     rw [recM5_r, enc_leaf l HOK.out] at hm
     obtain ⟨v26, rfl, hbw⟩ := (show ∃ v', _ = Ending.returned (.tuple #[v', .int .i64 0]) ∧ BigW _ _ _ v' x26 from hm)
     have hnx26 := hbw.bel
     have hsx26 : Has x26 B 32 LC.toArray ∧ Below B w x26 := ⟨hH6.1.below hnx26 hH6.1.lt, hH6.2.trans (hnx26.mono (Nat.le_of_lt hBW))⟩
     replace hBW : B < x26.heap.size := Nat.lt_of_lt_of_le hBW hnx26.size
     clear hm hby
     refine Shut.out hKK _ _ hsx26 (fun hH7 => ?_)
     clear hKK KK
     try simp only [Act.put, qa]
     apply tk 27 (v := _) rfl (Or.inl ⟨by kernel_rfl, ?hv⟩) hH7 ?_
     case hv => intro w' hS; obtain ⟨z0, z1, z2⟩ := HC.out w' hS.1; have z3 := HWR.out; go_simp; try exact rfl
     simp only [Act.put, qa]
     apply tk 28 (v := _) rfl (Or.inl ⟨by kernel_rfl, ?hv⟩) hH7 ?_
     case hv => intro w' hS; obtain ⟨z0, z1, z2⟩ := HC.out w' hS.1; have z3 := HWR.out; go_simp; try exact rfl
     simp only [Act.put, qa]
     apply tk 29 (v := _) rfl (Or.inl ⟨by kernel_rfl, ?hv⟩) hH7 ?_
     case hv => intro w' hS; obtain ⟨z0, z1, z2⟩ := HC.out w' hS.1; have z3 := HWR.out; go_simp; try exact rfl
     simp only [Act.put, qa]
     apply tk 30 (v := _) rfl (Or.inl ⟨by kernel_rfl, ?hv⟩) hH7 ?_
     case hv => intro w' hS; obtain ⟨z0, z1, z2⟩ := HC.out w' hS.1; have z3 := HWR.out; go_simp; try exact rfl
     simp only [Act.put, qa]
     refine wpAnyH_done (by kernel_rfl) ?_ _
     refine NoPanic.normal ?_
     have HFN := Lib.hid (show BigW w.heap.size w (leafB l) v26 x26 from ⟨by obtain ⟨a, c, e, ho⟩ := hbw.own; exact ⟨a, c, e, own_base ho (by rw [← HBQ.out]; exact Nat.le_of_lt hr5b')⟩, by have := hsx26.2; rwa [HBQ.out] at this⟩)
     clear hbw hsx26 hsx25
     go_wp2_with fail
     go_ret2
     rw [HEE.out]
     exact ⟨_, rfl, HFN.out⟩
   · refine step_append_bytes rfl _ (.tmp 27) rfl x5.heap.size (.slice none 0 0) 0 [] rfl (World.ownsRow_nil _ _ _ _) _ _ l.sp.h rfl (HBY.out _ hH1.1).2.2 (by have := HL0.out; omega) (Nat.le_refl _) ?_
     intro oa18 oc18 x18 hown hgr
     try have hneq0 : ∀ k, (Value.slice oa18 (0 + l.sp.h.length) oc18).ownBlock = some k → k ≠ Q := fun k e => by have h1 := own_blk hown k e; have h2 := hq1.lt; omega
     have hsx18 : Has x18 B 32 LC.toArray ∧ Below B w x18 := ⟨hH1.1.grown hgr (fun e => by cases e), hH1.2.grown hgr (Nat.le_of_lt hBW) (fun k e => by cases e)⟩
     have hN18 : x5.heap.size ≤ x5.heap.size := hb5.size
     replace hb5 := hb5.grown hgr hb5.size (fun k e => by cases e)
     try replace hq1 := hq1.grown hgr (fun e => by cases e)
     try rw [HL0.out] at hneq0
     rw [HL0.out] at hown ⊢
     have hB18 := (Kept.of_grown hgr).size
     replace hBW : B < x18.heap.size := Nat.lt_of_lt_of_le hBW hB18
     clear hgr
     refine Shut.out hKK _ _ hsx18 (fun hH2 => ?_)
     clear hKK KK
     try simp only [Act.put, qa]
     refine wpAnyH_ready (rs := [13, 22]) (by kernel_rfl) (by simp) ?_
     refine AllReadyH.cons rfl (fun KK hKK => ?_) (AllReadyH.cons rfl (fun KK hKK => ?_) AllReadyH.nil)
     · refine step_buildN rfl 48 5 1 _ rfl _ 1 1 Tryz.underlying48 info_u8 [.tmp 22] rfl [.int .u8 (q : Int)] rfl (by simp [Value.cells]) rfl rfl (by decide) (by decide) (by decide) ?_
       try rw [show [Value.int IntKind.u8 (q : Int)].flatMap (fun v => v.cells.toList) = [.int .u8 (q : Int)] from rfl]
       try have hneq0 := fun k e => Nat.ne_of_lt (own_lt hown k e)
       obtain ⟨x13, hx13⟩ : ∃ y, y = x18.alloc (.cells #[.int .u8 (q : Int)] 5) := ⟨_, rfl⟩
       first | rw [← hx13] | (change KK _ (x18.alloc (.cells #[.int .u8 (q : Int)] 5)); rw [← hx13])
       have hnx13 : Below x18.heap.size x18 x13 := by rw [hx13]; exact (Below.refl _ _).alloc (Nat.le_refl _) _
       have hq1 : Has x13 x18.heap.size 5 #[.int .u8 (q : Int)] := by rw [hx13]; exact Has.new _ _ _
       have hq1b : B < x18.heap.size := hBW
       obtain ⟨Q, hQ⟩ : ∃ g, g = x18.heap.size := ⟨_, rfl⟩
       first | rw [← hQ] | (have hQ2 : w1.heap.size = Q := hQ.symm; rw [hQ2]) | skip
       rw [← hQ] at hq1
       rw [← hQ] at hq1b
       try rw [← hQ] at hneq0
       clear hQ
       have hsx13 : Has x13 B 32 LC.toArray ∧ Below B w x13 := ⟨hH2.1.below hnx13 hH2.1.lt, hH2.2.trans (hnx13.mono (Nat.le_of_lt hBW))⟩
       try replace he1 := he1.alive hnx13 hnx13.size
       try replace hown := own_kept hown (Kept.of_below (S := fun _ => False) hnx13) (fun _ _ e => e)
       try replace he2 := he2.alive hnx13 hnx13.size
       try replace hb5 := hb5.trans (hnx13.mono hb5.size)
       try replace hrow := hrow.alive hnx13 hnx13.size
       try replace hB18 := Nat.le_trans hB18 hnx13.size
       replace hBW : B < x13.heap.size := Nat.lt_of_lt_of_le hBW hnx13.size
       clear hx13
       refine Shut.out hKK _ _ hsx13 (fun hH3 => ?_)
       clear hKK KK
       try simp only [Act.put, qa]
       apply tk 14 (v := _) rfl (Or.inl ⟨by kernel_rfl, ?hv⟩) hH3 ?_
       case hv => intro w' hS; obtain ⟨z0, z1, z2⟩ := HC.out w' hS.1; have z3 := HWR.out; go_simp; try exact rfl
       simp only [Act.put, qa]
       refine wpAnyH_ready (rs := [22]) (by kernel_rfl) (by simp) ?_
       refine AllReadyH.cons rfl (fun KK hKK => ?_) AllReadyH.nil
       go_simp
       refine (lfEight_is _ ss HSS.out).mono ?_
       rintro _ x22 ⟨ax22, rfl, he_x22, hnx22⟩
       have hsx22 : Has x22 B 32 LC.toArray ∧ Below B w x22 := ⟨hH3.1.below hnx22 hH3.1.lt, hH3.2.trans (hnx22.mono (Nat.le_of_lt hBW))⟩
       try replace he1 := he1.alive hnx22 hnx22.size
       try replace hq1 := hq1.below hnx22 hq1.lt
       try replace hown := own_kept hown (Kept.of_below (S := fun _ => False) hnx22) (fun _ _ e => e)
       try replace hb5 := hb5.trans (hnx22.mono hb5.size)
       try replace hrow := hrow.alive hnx22 hnx22.size
       try replace hB18 := Nat.le_trans hB18 hnx22.size
       replace hBW : B < x22.heap.size := Nat.lt_of_lt_of_le hBW hnx22.size
       have he2 := he_x22
       refine Shut.out hKK _ _ hsx22 (fun hH4 => ?_)
       clear hKK KK
       try simp only [Act.put, qa]
       refine wpAnyH_ready (rs := [23]) (by kernel_rfl) (by simp) ?_
       refine AllReadyH.cons rfl (fun KK hKK => ?_) AllReadyH.nil
       refine step_append_bytes rfl (.tmp 28) (.tmp 32) rfl _ _ 32 ([] ++ bcells l.sp.h) rfl hown _ _ (eight ss) rfl he2 (by have := HL1.out; omega) hB18 ?_
       intro oa23 oc23 x23 hown2 hgr2
       have hsx23 : Has x23 B 32 LC.toArray ∧ Below B w x23 := ⟨hH4.1.grown hgr2 (fun e => own_has_ne hown hH4.1 (by decide) B e.symm rfl), hH4.2.grown hgr2 (Nat.le_of_lt hBW) (fun k e => Nat.le_trans (Nat.le_trans hB5 hN18) (own_blk hown k e))⟩
       replace hb5 := hb5.grown hgr2 hb5.size (fun k e => Nat.le_trans hN18 (own_blk hown k e))
       try replace hq1 := hq1.grown hgr2 (fun e => hneq0 Q e.symm rfl)
       rw [HL1.out] at hown2 ⊢
       have hrow := HOB.out _ _ _ _ hown2
       replace hBW : B < x23.heap.size := Nat.lt_of_lt_of_le hBW (Kept.of_grown hgr2).size
       clear hgr2 hown2 hown he2
       refine Shut.out hKK _ _ hsx23 (fun hH5 => ?_)
       clear hKK KK
       try simp only [Act.put, qa]
       apply tk 24 (v := _) rfl (Or.inl ⟨by kernel_rfl, ?hv⟩) hH5 ?_
       case hv => intro w' hS; obtain ⟨z0, z1, z2⟩ := HC.out w' hS.1; have z3 := HWR.out; go_simp; try exact rfl
       simp only [Act.put, qa]
       refine wpAnyH_ready (rs := [25]) (by kernel_rfl) (by simp) ?_
       refine AllReadyH.cons rfl (fun KK hKK => ?_) AllReadyH.nil
       refine step_buildN rfl 136 139 5 _ rfl _ 2 32 Tryz.underlying136 info_rec [.tmp 12, .tmp 16, .tmp 19, .tmp 24, .tmp 34] rfl [.agg #[.int .u64 0, .slice (some ⟨B, 0, none⟩) 32 32], .agg #[.int .u64 2, .slice ax5 8 8], .agg #[.int .u64 4, .slice (some ⟨B, 33, none⟩) 32 32], .agg #[.int .u64 6, .slice (some ⟨Q, 0, none⟩) 1 1], .agg #[.int .u64 8, .slice oa23 40 oc23]] rfl (by simp [Value.cells]) rfl rfl (by decide) (by decide) (by decide) ?_
       change KK _ (x23.alloc (.cells [Value.int .u64 0, .slice (some ⟨B, 0, none⟩) 32 32, .int .u64 2, .slice ax5 8 8, .int .u64 4, .slice (some ⟨B, 33, none⟩) 32 32, .int .u64 6, .slice (some ⟨Q, 0, none⟩) 1 1, .int .u64 8, .slice oa23 40 oc23].toArray 139))
       rw [recM5_cells l HOK.out]
       obtain ⟨x25, hx25⟩ : ∃ y, y = x23.alloc (.cells ((recM5 l B Q ax5 oa23 oc23).flatMap RecM.cells).toArray 139) := ⟨_, rfl⟩
       first | rw [← hx25] | (change KK _ (x23.alloc (.cells ((recM5 l B Q ax5 oa23 oc23).flatMap RecM.cells).toArray 139)); rw [← hx25])
       have hnx25 : Below x23.heap.size x23 x25 := by rw [hx25]; exact (Below.refl _ _).alloc (Nat.le_refl _) _
       have hr5 : Has x25 x23.heap.size 139 ((recM5 l B Q ax5 oa23 oc23).flatMap RecM.cells).toArray := by rw [hx25]; exact Has.new _ _ _
       have hr5b : B < x23.heap.size := hBW
       obtain ⟨R, hR⟩ : ∃ g, g = x23.heap.size := ⟨_, rfl⟩
       first | rw [← hR] | (have hR2 : w1.heap.size = R := hR.symm; rw [hR2]) | skip
       rw [← hR] at hr5
       rw [← hR] at hr5b
       clear hR
       have hsx25 : Has x25 B 32 LC.toArray ∧ Below B w x25 := ⟨hH5.1.below hnx25 hH5.1.lt, hH5.2.trans (hnx25.mono (Nat.le_of_lt hBW))⟩
       try replace he1 := he1.alive hnx25 hnx25.size
       try replace hq1 := hq1.below hnx25 hq1.lt
       try replace hown := own_kept hown (Kept.of_below (S := fun _ => False) hnx25) (fun _ _ e => e)
       try replace he2 := he2.alive hnx25 hnx25.size
       try replace hb5 := hb5.trans (hnx25.mono hb5.size)
       try replace hrow := hrow.alive hnx25 hnx25.size
       try replace hB18 := Nat.le_trans hB18 hnx25.size
       replace hBW : B < x25.heap.size := Nat.lt_of_lt_of_le hBW hnx25.size
       clear hx25
       refine Shut.out hKK _ _ hsx25 (fun hH6 => ?_)
       clear hKK KK
       try simp only [Act.put, qa]
       refine wpAnyH_ready (rs := [26]) (by kernel_rfl) (by simp) ?_
       refine AllReadyH.cons rfl (fun KK hKK => ?_) AllReadyH.nil
       go_simp
       have hr5b' := hBW
       have hby := HBY.out _ hH6.1
       refine (tvEnc_is _ _ 5 5 (recM5 l B Q ax5 oa23 oc23) (recs_five l HOK.out hr5 hby.1 (by rw [← EAM.out]; exact he5.alive hb5 hb5.size) hby.2.1 (by rw [← EQ.out]; exact one_by hq1 hq256 _ (Nat.ne_of_lt hq1.lt)) hrow) (by decide)).mono ?_
       rintro _ x26 hm
       rw [recM5_r, enc_leaf l HOK.out] at hm
       obtain ⟨v26, rfl, hbw⟩ := (show ∃ v', _ = Ending.returned (.tuple #[v', .int .i64 0]) ∧ BigW _ _ _ v' x26 from hm)
       have hnx26 := hbw.bel
       have hsx26 : Has x26 B 32 LC.toArray ∧ Below B w x26 := ⟨hH6.1.below hnx26 hH6.1.lt, hH6.2.trans (hnx26.mono (Nat.le_of_lt hBW))⟩
       replace hBW : B < x26.heap.size := Nat.lt_of_lt_of_le hBW hnx26.size
       clear hm hby
       refine Shut.out hKK _ _ hsx26 (fun hH7 => ?_)
       clear hKK KK
       try simp only [Act.put, qa]
       apply tk 27 (v := _) rfl (Or.inl ⟨by kernel_rfl, ?hv⟩) hH7 ?_
       case hv => intro w' hS; obtain ⟨z0, z1, z2⟩ := HC.out w' hS.1; have z3 := HWR.out; go_simp; try exact rfl
       simp only [Act.put, qa]
       apply tk 28 (v := _) rfl (Or.inl ⟨by kernel_rfl, ?hv⟩) hH7 ?_
       case hv => intro w' hS; obtain ⟨z0, z1, z2⟩ := HC.out w' hS.1; have z3 := HWR.out; go_simp; try exact rfl
       simp only [Act.put, qa]
       apply tk 29 (v := _) rfl (Or.inl ⟨by kernel_rfl, ?hv⟩) hH7 ?_
       case hv => intro w' hS; obtain ⟨z0, z1, z2⟩ := HC.out w' hS.1; have z3 := HWR.out; go_simp; try exact rfl
       simp only [Act.put, qa]
       apply tk 30 (v := _) rfl (Or.inl ⟨by kernel_rfl, ?hv⟩) hH7 ?_
       case hv => intro w' hS; obtain ⟨z0, z1, z2⟩ := HC.out w' hS.1; have z3 := HWR.out; go_simp; try exact rfl
       simp only [Act.put, qa]
       refine wpAnyH_done (by kernel_rfl) ?_ _
       refine NoPanic.normal ?_
       have HFN := Lib.hid (show BigW w.heap.size w (leafB l) v26 x26 from ⟨by obtain ⟨a, c, e, ho⟩ := hbw.own; exact ⟨a, c, e, own_base ho (by rw [← HBQ.out]; exact Nat.le_of_lt hr5b')⟩, by have := hsx26.2; rwa [HBQ.out] at this⟩)
       clear hbw hsx26 hsx25
       go_wp2_with fail
       go_ret2
       rw [HEE.out]
       exact ⟨_, rfl, HFN.out⟩
     · go_simp
       refine (lfEight_is _ ss HSS.out).mono ?_
       rintro _ x22 ⟨ax22, rfl, he_x22, hnx22⟩
       have hsx22 : Has x22 B 32 LC.toArray ∧ Below B w x22 := ⟨hH2.1.below hnx22 hH2.1.lt, hH2.2.trans (hnx22.mono (Nat.le_of_lt hBW))⟩
       try replace he1 := he1.alive hnx22 hnx22.size
       try replace hq1 := hq1.below hnx22 hq1.lt
       try replace hown := own_kept hown (Kept.of_below (S := fun _ => False) hnx22) (fun _ _ e => e)
       try replace hb5 := hb5.trans (hnx22.mono hb5.size)
       try replace hrow := hrow.alive hnx22 hnx22.size
       try replace hB18 := Nat.le_trans hB18 hnx22.size
       replace hBW : B < x22.heap.size := Nat.lt_of_lt_of_le hBW hnx22.size
       have he2 := he_x22
       refine Shut.out hKK _ _ hsx22 (fun hH3 => ?_)
       clear hKK KK
       try simp only [Act.put, qa]
       refine wpAnyH_ready (rs := [13, 23]) (by kernel_rfl) (by simp) ?_
       refine AllReadyH.cons rfl (fun KK hKK => ?_) (AllReadyH.cons rfl (fun KK hKK => ?_) AllReadyH.nil)
       · refine step_buildN rfl 48 5 1 _ rfl _ 1 1 Tryz.underlying48 info_u8 [.tmp 22] rfl [.int .u8 (q : Int)] rfl (by simp [Value.cells]) rfl rfl (by decide) (by decide) (by decide) ?_
         try rw [show [Value.int IntKind.u8 (q : Int)].flatMap (fun v => v.cells.toList) = [.int .u8 (q : Int)] from rfl]
         try have hneq0 := fun k e => Nat.ne_of_lt (own_lt hown k e)
         obtain ⟨x13, hx13⟩ : ∃ y, y = x22.alloc (.cells #[.int .u8 (q : Int)] 5) := ⟨_, rfl⟩
         first | rw [← hx13] | (change KK _ (x22.alloc (.cells #[.int .u8 (q : Int)] 5)); rw [← hx13])
         have hnx13 : Below x22.heap.size x22 x13 := by rw [hx13]; exact (Below.refl _ _).alloc (Nat.le_refl _) _
         have hq1 : Has x13 x22.heap.size 5 #[.int .u8 (q : Int)] := by rw [hx13]; exact Has.new _ _ _
         have hq1b : B < x22.heap.size := hBW
         obtain ⟨Q, hQ⟩ : ∃ g, g = x22.heap.size := ⟨_, rfl⟩
         first | rw [← hQ] | (have hQ2 : w1.heap.size = Q := hQ.symm; rw [hQ2]) | skip
         rw [← hQ] at hq1
         rw [← hQ] at hq1b
         try rw [← hQ] at hneq0
         clear hQ
         have hsx13 : Has x13 B 32 LC.toArray ∧ Below B w x13 := ⟨hH3.1.below hnx13 hH3.1.lt, hH3.2.trans (hnx13.mono (Nat.le_of_lt hBW))⟩
         try replace he1 := he1.alive hnx13 hnx13.size
         try replace hown := own_kept hown (Kept.of_below (S := fun _ => False) hnx13) (fun _ _ e => e)
         try replace he2 := he2.alive hnx13 hnx13.size
         try replace hb5 := hb5.trans (hnx13.mono hb5.size)
         try replace hrow := hrow.alive hnx13 hnx13.size
         try replace hB18 := Nat.le_trans hB18 hnx13.size
         replace hBW : B < x13.heap.size := Nat.lt_of_lt_of_le hBW hnx13.size
         clear hx13
         refine Shut.out hKK _ _ hsx13 (fun hH4 => ?_)
         clear hKK KK
         try simp only [Act.put, qa]
         apply tk 14 (v := _) rfl (Or.inl ⟨by kernel_rfl, ?hv⟩) hH4 ?_
         case hv => intro w' hS; obtain ⟨z0, z1, z2⟩ := HC.out w' hS.1; have z3 := HWR.out; go_simp; try exact rfl
         simp only [Act.put, qa]
         refine wpAnyH_ready (rs := [23]) (by kernel_rfl) (by simp) ?_
         refine AllReadyH.cons rfl (fun KK hKK => ?_) AllReadyH.nil
         refine step_append_bytes rfl (.tmp 28) (.tmp 32) rfl _ _ 32 ([] ++ bcells l.sp.h) rfl hown _ _ (eight ss) rfl he2 (by have := HL1.out; omega) hB18 ?_
         intro oa23 oc23 x23 hown2 hgr2
         have hsx23 : Has x23 B 32 LC.toArray ∧ Below B w x23 := ⟨hH4.1.grown hgr2 (fun e => own_has_ne hown hH4.1 (by decide) B e.symm rfl), hH4.2.grown hgr2 (Nat.le_of_lt hBW) (fun k e => Nat.le_trans (Nat.le_trans hB5 hN18) (own_blk hown k e))⟩
         replace hb5 := hb5.grown hgr2 hb5.size (fun k e => Nat.le_trans hN18 (own_blk hown k e))
         try replace hq1 := hq1.grown hgr2 (fun e => hneq0 Q e.symm rfl)
         rw [HL1.out] at hown2 ⊢
         have hrow := HOB.out _ _ _ _ hown2
         replace hBW : B < x23.heap.size := Nat.lt_of_lt_of_le hBW (Kept.of_grown hgr2).size
         clear hgr2 hown2 hown he2
         refine Shut.out hKK _ _ hsx23 (fun hH5 => ?_)
         clear hKK KK
         try simp only [Act.put, qa]
         apply tk 24 (v := _) rfl (Or.inl ⟨by kernel_rfl, ?hv⟩) hH5 ?_
         case hv => intro w' hS; obtain ⟨z0, z1, z2⟩ := HC.out w' hS.1; have z3 := HWR.out; go_simp; try exact rfl
         simp only [Act.put, qa]
         refine wpAnyH_ready (rs := [25]) (by kernel_rfl) (by simp) ?_
         refine AllReadyH.cons rfl (fun KK hKK => ?_) AllReadyH.nil
         refine step_buildN rfl 136 139 5 _ rfl _ 2 32 Tryz.underlying136 info_rec [.tmp 12, .tmp 16, .tmp 19, .tmp 24, .tmp 34] rfl [.agg #[.int .u64 0, .slice (some ⟨B, 0, none⟩) 32 32], .agg #[.int .u64 2, .slice ax5 8 8], .agg #[.int .u64 4, .slice (some ⟨B, 33, none⟩) 32 32], .agg #[.int .u64 6, .slice (some ⟨Q, 0, none⟩) 1 1], .agg #[.int .u64 8, .slice oa23 40 oc23]] rfl (by simp [Value.cells]) rfl rfl (by decide) (by decide) (by decide) ?_
         change KK _ (x23.alloc (.cells [Value.int .u64 0, .slice (some ⟨B, 0, none⟩) 32 32, .int .u64 2, .slice ax5 8 8, .int .u64 4, .slice (some ⟨B, 33, none⟩) 32 32, .int .u64 6, .slice (some ⟨Q, 0, none⟩) 1 1, .int .u64 8, .slice oa23 40 oc23].toArray 139))
         rw [recM5_cells l HOK.out]
         obtain ⟨x25, hx25⟩ : ∃ y, y = x23.alloc (.cells ((recM5 l B Q ax5 oa23 oc23).flatMap RecM.cells).toArray 139) := ⟨_, rfl⟩
         first | rw [← hx25] | (change KK _ (x23.alloc (.cells ((recM5 l B Q ax5 oa23 oc23).flatMap RecM.cells).toArray 139)); rw [← hx25])
         have hnx25 : Below x23.heap.size x23 x25 := by rw [hx25]; exact (Below.refl _ _).alloc (Nat.le_refl _) _
         have hr5 : Has x25 x23.heap.size 139 ((recM5 l B Q ax5 oa23 oc23).flatMap RecM.cells).toArray := by rw [hx25]; exact Has.new _ _ _
         have hr5b : B < x23.heap.size := hBW
         obtain ⟨R, hR⟩ : ∃ g, g = x23.heap.size := ⟨_, rfl⟩
         first | rw [← hR] | (have hR2 : w1.heap.size = R := hR.symm; rw [hR2]) | skip
         rw [← hR] at hr5
         rw [← hR] at hr5b
         clear hR
         have hsx25 : Has x25 B 32 LC.toArray ∧ Below B w x25 := ⟨hH5.1.below hnx25 hH5.1.lt, hH5.2.trans (hnx25.mono (Nat.le_of_lt hBW))⟩
         try replace he1 := he1.alive hnx25 hnx25.size
         try replace hq1 := hq1.below hnx25 hq1.lt
         try replace hown := own_kept hown (Kept.of_below (S := fun _ => False) hnx25) (fun _ _ e => e)
         try replace he2 := he2.alive hnx25 hnx25.size
         try replace hb5 := hb5.trans (hnx25.mono hb5.size)
         try replace hrow := hrow.alive hnx25 hnx25.size
         try replace hB18 := Nat.le_trans hB18 hnx25.size
         replace hBW : B < x25.heap.size := Nat.lt_of_lt_of_le hBW hnx25.size
         clear hx25
         refine Shut.out hKK _ _ hsx25 (fun hH6 => ?_)
         clear hKK KK
         try simp only [Act.put, qa]
         refine wpAnyH_ready (rs := [26]) (by kernel_rfl) (by simp) ?_
         refine AllReadyH.cons rfl (fun KK hKK => ?_) AllReadyH.nil
         go_simp
         have hr5b' := hBW
         have hby := HBY.out _ hH6.1
         refine (tvEnc_is _ _ 5 5 (recM5 l B Q ax5 oa23 oc23) (recs_five l HOK.out hr5 hby.1 (by rw [← EAM.out]; exact he5.alive hb5 hb5.size) hby.2.1 (by rw [← EQ.out]; exact one_by hq1 hq256 _ (Nat.ne_of_lt hq1.lt)) hrow) (by decide)).mono ?_
         rintro _ x26 hm
         rw [recM5_r, enc_leaf l HOK.out] at hm
         obtain ⟨v26, rfl, hbw⟩ := (show ∃ v', _ = Ending.returned (.tuple #[v', .int .i64 0]) ∧ BigW _ _ _ v' x26 from hm)
         have hnx26 := hbw.bel
         have hsx26 : Has x26 B 32 LC.toArray ∧ Below B w x26 := ⟨hH6.1.below hnx26 hH6.1.lt, hH6.2.trans (hnx26.mono (Nat.le_of_lt hBW))⟩
         replace hBW : B < x26.heap.size := Nat.lt_of_lt_of_le hBW hnx26.size
         clear hm hby
         refine Shut.out hKK _ _ hsx26 (fun hH7 => ?_)
         clear hKK KK
         try simp only [Act.put, qa]
         apply tk 27 (v := _) rfl (Or.inl ⟨by kernel_rfl, ?hv⟩) hH7 ?_
         case hv => intro w' hS; obtain ⟨z0, z1, z2⟩ := HC.out w' hS.1; have z3 := HWR.out; go_simp; try exact rfl
         simp only [Act.put, qa]
         apply tk 28 (v := _) rfl (Or.inl ⟨by kernel_rfl, ?hv⟩) hH7 ?_
         case hv => intro w' hS; obtain ⟨z0, z1, z2⟩ := HC.out w' hS.1; have z3 := HWR.out; go_simp; try exact rfl
         simp only [Act.put, qa]
         apply tk 29 (v := _) rfl (Or.inl ⟨by kernel_rfl, ?hv⟩) hH7 ?_
         case hv => intro w' hS; obtain ⟨z0, z1, z2⟩ := HC.out w' hS.1; have z3 := HWR.out; go_simp; try exact rfl
         simp only [Act.put, qa]
         apply tk 30 (v := _) rfl (Or.inl ⟨by kernel_rfl, ?hv⟩) hH7 ?_
         case hv => intro w' hS; obtain ⟨z0, z1, z2⟩ := HC.out w' hS.1; have z3 := HWR.out; go_simp; try exact rfl
         simp only [Act.put, qa]
         refine wpAnyH_done (by kernel_rfl) ?_ _
         refine NoPanic.normal ?_
         have HFN := Lib.hid (show BigW w.heap.size w (leafB l) v26 x26 from ⟨by obtain ⟨a, c, e, ho⟩ := hbw.own; exact ⟨a, c, e, own_base ho (by rw [← HBQ.out]; exact Nat.le_of_lt hr5b')⟩, by have := hsx26.2; rwa [HBQ.out] at this⟩)
         clear hbw hsx26 hsx25
         go_wp2_with fail
         go_ret2
         rw [HEE.out]
         exact ⟨_, rfl, HFN.out⟩
       · refine step_append_bytes rfl (.tmp 28) (.tmp 32) rfl _ _ 32 ([] ++ bcells l.sp.h) rfl hown _ _ (eight ss) rfl he2 (by have := HL1.out; omega) hB18 ?_
         intro oa23 oc23 x23 hown2 hgr2
         have hsx23 : Has x23 B 32 LC.toArray ∧ Below B w x23 := ⟨hH3.1.grown hgr2 (fun e => own_has_ne hown hH3.1 (by decide) B e.symm rfl), hH3.2.grown hgr2 (Nat.le_of_lt hBW) (fun k e => Nat.le_trans (Nat.le_trans hB5 hN18) (own_blk hown k e))⟩
         replace hb5 := hb5.grown hgr2 hb5.size (fun k e => Nat.le_trans hN18 (own_blk hown k e))
         try replace hq1 := hq1.grown hgr2 (fun e => hneq0 Q e.symm rfl)
         rw [HL1.out] at hown2 ⊢
         have hrow := HOB.out _ _ _ _ hown2
         replace hBW : B < x23.heap.size := Nat.lt_of_lt_of_le hBW (Kept.of_grown hgr2).size
         clear hgr2 hown2 hown he2
         refine Shut.out hKK _ _ hsx23 (fun hH4 => ?_)
         clear hKK KK
         try simp only [Act.put, qa]
         apply tk 24 (v := _) rfl (Or.inl ⟨by kernel_rfl, ?hv⟩) hH4 ?_
         case hv => intro w' hS; obtain ⟨z0, z1, z2⟩ := HC.out w' hS.1; have z3 := HWR.out; go_simp; try exact rfl
         simp only [Act.put, qa]
         refine wpAnyH_ready (rs := [13]) (by kernel_rfl) (by simp) ?_
         refine AllReadyH.cons rfl (fun KK hKK => ?_) AllReadyH.nil
         refine step_buildN rfl 48 5 1 _ rfl _ 1 1 Tryz.underlying48 info_u8 [.tmp 22] rfl [.int .u8 (q : Int)] rfl (by simp [Value.cells]) rfl rfl (by decide) (by decide) (by decide) ?_
         try rw [show [Value.int IntKind.u8 (q : Int)].flatMap (fun v => v.cells.toList) = [.int .u8 (q : Int)] from rfl]
         try have hneq0 := fun k e => Nat.ne_of_lt (own_lt hown k e)
         obtain ⟨x13, hx13⟩ : ∃ y, y = x23.alloc (.cells #[.int .u8 (q : Int)] 5) := ⟨_, rfl⟩
         first | rw [← hx13] | (change KK _ (x23.alloc (.cells #[.int .u8 (q : Int)] 5)); rw [← hx13])
         have hnx13 : Below x23.heap.size x23 x13 := by rw [hx13]; exact (Below.refl _ _).alloc (Nat.le_refl _) _
         have hq1 : Has x13 x23.heap.size 5 #[.int .u8 (q : Int)] := by rw [hx13]; exact Has.new _ _ _
         have hq1b : B < x23.heap.size := hBW
         obtain ⟨Q, hQ⟩ : ∃ g, g = x23.heap.size := ⟨_, rfl⟩
         first | rw [← hQ] | (have hQ2 : w1.heap.size = Q := hQ.symm; rw [hQ2]) | skip
         rw [← hQ] at hq1
         rw [← hQ] at hq1b
         try rw [← hQ] at hneq0
         clear hQ
         have hsx13 : Has x13 B 32 LC.toArray ∧ Below B w x13 := ⟨hH4.1.below hnx13 hH4.1.lt, hH4.2.trans (hnx13.mono (Nat.le_of_lt hBW))⟩
         try replace he1 := he1.alive hnx13 hnx13.size
         try replace hown := own_kept hown (Kept.of_below (S := fun _ => False) hnx13) (fun _ _ e => e)
         try replace he2 := he2.alive hnx13 hnx13.size
         try replace hb5 := hb5.trans (hnx13.mono hb5.size)
         try replace hrow := hrow.alive hnx13 hnx13.size
         try replace hB18 := Nat.le_trans hB18 hnx13.size
         replace hBW : B < x13.heap.size := Nat.lt_of_lt_of_le hBW hnx13.size
         clear hx13
         refine Shut.out hKK _ _ hsx13 (fun hH5 => ?_)
         clear hKK KK
         try simp only [Act.put, qa]
         apply tk 14 (v := _) rfl (Or.inl ⟨by kernel_rfl, ?hv⟩) hH5 ?_
         case hv => intro w' hS; obtain ⟨z0, z1, z2⟩ := HC.out w' hS.1; have z3 := HWR.out; go_simp; try exact rfl
         simp only [Act.put, qa]
         refine wpAnyH_ready (rs := [25]) (by kernel_rfl) (by simp) ?_
         refine AllReadyH.cons rfl (fun KK hKK => ?_) AllReadyH.nil
         refine step_buildN rfl 136 139 5 _ rfl _ 2 32 Tryz.underlying136 info_rec [.tmp 12, .tmp 16, .tmp 19, .tmp 24, .tmp 34] rfl [.agg #[.int .u64 0, .slice (some ⟨B, 0, none⟩) 32 32], .agg #[.int .u64 2, .slice ax5 8 8], .agg #[.int .u64 4, .slice (some ⟨B, 33, none⟩) 32 32], .agg #[.int .u64 6, .slice (some ⟨Q, 0, none⟩) 1 1], .agg #[.int .u64 8, .slice oa23 40 oc23]] rfl (by simp [Value.cells]) rfl rfl (by decide) (by decide) (by decide) ?_
         change KK _ (x13.alloc (.cells [Value.int .u64 0, .slice (some ⟨B, 0, none⟩) 32 32, .int .u64 2, .slice ax5 8 8, .int .u64 4, .slice (some ⟨B, 33, none⟩) 32 32, .int .u64 6, .slice (some ⟨Q, 0, none⟩) 1 1, .int .u64 8, .slice oa23 40 oc23].toArray 139))
         rw [recM5_cells l HOK.out]
         obtain ⟨x25, hx25⟩ : ∃ y, y = x13.alloc (.cells ((recM5 l B Q ax5 oa23 oc23).flatMap RecM.cells).toArray 139) := ⟨_, rfl⟩
         first | rw [← hx25] | (change KK _ (x13.alloc (.cells ((recM5 l B Q ax5 oa23 oc23).flatMap RecM.cells).toArray 139)); rw [← hx25])
         have hnx25 : Below x13.heap.size x13 x25 := by rw [hx25]; exact (Below.refl _ _).alloc (Nat.le_refl _) _
         have hr5 : Has x25 x13.heap.size 139 ((recM5 l B Q ax5 oa23 oc23).flatMap RecM.cells).toArray := by rw [hx25]; exact Has.new _ _ _
         have hr5b : B < x13.heap.size := hBW
         obtain ⟨R, hR⟩ : ∃ g, g = x13.heap.size := ⟨_, rfl⟩
         first | rw [← hR] | (have hR2 : w1.heap.size = R := hR.symm; rw [hR2]) | skip
         rw [← hR] at hr5
         rw [← hR] at hr5b
         clear hR
         have hsx25 : Has x25 B 32 LC.toArray ∧ Below B w x25 := ⟨hH5.1.below hnx25 hH5.1.lt, hH5.2.trans (hnx25.mono (Nat.le_of_lt hBW))⟩
         try replace he1 := he1.alive hnx25 hnx25.size
         try replace hq1 := hq1.below hnx25 hq1.lt
         try replace hown := own_kept hown (Kept.of_below (S := fun _ => False) hnx25) (fun _ _ e => e)
         try replace he2 := he2.alive hnx25 hnx25.size
         try replace hb5 := hb5.trans (hnx25.mono hb5.size)
         try replace hrow := hrow.alive hnx25 hnx25.size
         try replace hB18 := Nat.le_trans hB18 hnx25.size
         replace hBW : B < x25.heap.size := Nat.lt_of_lt_of_le hBW hnx25.size
         clear hx25
         refine Shut.out hKK _ _ hsx25 (fun hH6 => ?_)
         clear hKK KK
         try simp only [Act.put, qa]
         refine wpAnyH_ready (rs := [26]) (by kernel_rfl) (by simp) ?_
         refine AllReadyH.cons rfl (fun KK hKK => ?_) AllReadyH.nil
         go_simp
         have hr5b' := hBW
         have hby := HBY.out _ hH6.1
         refine (tvEnc_is _ _ 5 5 (recM5 l B Q ax5 oa23 oc23) (recs_five l HOK.out hr5 hby.1 (by rw [← EAM.out]; exact he5.alive hb5 hb5.size) hby.2.1 (by rw [← EQ.out]; exact one_by hq1 hq256 _ (Nat.ne_of_lt hq1.lt)) hrow) (by decide)).mono ?_
         rintro _ x26 hm
         rw [recM5_r, enc_leaf l HOK.out] at hm
         obtain ⟨v26, rfl, hbw⟩ := (show ∃ v', _ = Ending.returned (.tuple #[v', .int .i64 0]) ∧ BigW _ _ _ v' x26 from hm)
         have hnx26 := hbw.bel
         have hsx26 : Has x26 B 32 LC.toArray ∧ Below B w x26 := ⟨hH6.1.below hnx26 hH6.1.lt, hH6.2.trans (hnx26.mono (Nat.le_of_lt hBW))⟩
         replace hBW : B < x26.heap.size := Nat.lt_of_lt_of_le hBW hnx26.size
         clear hm hby
         refine Shut.out hKK _ _ hsx26 (fun hH7 => ?_)
         clear hKK KK
         try simp only [Act.put, qa]
         apply tk 27 (v := _) rfl (Or.inl ⟨by kernel_rfl, ?hv⟩) hH7 ?_
         case hv => intro w' hS; obtain ⟨z0, z1, z2⟩ := HC.out w' hS.1; have z3 := HWR.out; go_simp; try exact rfl
         simp only [Act.put, qa]
         apply tk 28 (v := _) rfl (Or.inl ⟨by kernel_rfl, ?hv⟩) hH7 ?_
         case hv => intro w' hS; obtain ⟨z0, z1, z2⟩ := HC.out w' hS.1; have z3 := HWR.out; go_simp; try exact rfl
         simp only [Act.put, qa]
         apply tk 29 (v := _) rfl (Or.inl ⟨by kernel_rfl, ?hv⟩) hH7 ?_
         case hv => intro w' hS; obtain ⟨z0, z1, z2⟩ := HC.out w' hS.1; have z3 := HWR.out; go_simp; try exact rfl
         simp only [Act.put, qa]
         apply tk 30 (v := _) rfl (Or.inl ⟨by kernel_rfl, ?hv⟩) hH7 ?_
         case hv => intro w' hS; obtain ⟨z0, z1, z2⟩ := HC.out w' hS.1; have z3 := HWR.out; go_simp; try exact rfl
         simp only [Act.put, qa]
         refine wpAnyH_done (by kernel_rfl) ?_ _
         refine NoPanic.normal ?_
         have HFN := Lib.hid (show BigW w.heap.size w (leafB l) v26 x26 from ⟨by obtain ⟨a, c, e, ho⟩ := hbw.own; exact ⟨a, c, e, own_base ho (by rw [← HBQ.out]; exact Nat.le_of_lt hr5b')⟩, by have := hsx26.2; rwa [HBQ.out] at this⟩)
         clear hbw hsx26 hsx25
         go_wp2_with fail
         go_ret2
         rw [HEE.out]
         exact ⟨_, rfl, HFN.out⟩
 · refine step_buildN rfl 48 5 1 _ rfl _ 1 1 Tryz.underlying48 info_u8 [.tmp 22] rfl [.int .u8 (q : Int)] rfl (by simp [Value.cells]) rfl rfl (by decide) (by decide) (by decide) ?_
   try rw [show [Value.int IntKind.u8 (q : Int)].flatMap (fun v => v.cells.toList) = [.int .u8 (q : Int)] from rfl]
   try have hneq0 := fun k e => Nat.ne_of_lt (own_lt hown k e)
   obtain ⟨x13, hx13⟩ : ∃ y, y = w1.drew.alloc (.cells #[.int .u8 (q : Int)] 5) := ⟨_, rfl⟩
   first | rw [← hx13] | (change KK _ (w1.drew.alloc (.cells #[.int .u8 (q : Int)] 5)); rw [← hx13])
   have hnx13 : Below w1.drew.heap.size w1.drew x13 := by rw [hx13]; exact (Below.refl _ _).alloc (Nat.le_refl _) _
   have hq1 : Has x13 w1.drew.heap.size 5 #[.int .u8 (q : Int)] := by rw [hx13]; exact Has.new _ _ _
   have hq1b : B < w1.drew.heap.size := hBW
   obtain ⟨Q, hQ⟩ : ∃ g, g = w1.drew.heap.size := ⟨_, rfl⟩
   first | rw [← hQ] | (have hQ2 : w1.heap.size = Q := hQ.symm; rw [hQ2]) | skip
   rw [← hQ] at hq1
   rw [← hQ] at hq1b
   try rw [← hQ] at hneq0
   clear hQ
   have hsx13 : Has x13 B 32 LC.toArray ∧ Below B w x13 := ⟨hH0.1.below hnx13 hH0.1.lt, hH0.2.trans (hnx13.mono (Nat.le_of_lt hBW))⟩
   try replace he1 := he1.alive hnx13 hnx13.size
   try replace hown := own_kept hown (Kept.of_below (S := fun _ => False) hnx13) (fun _ _ e => e)
   try replace he2 := he2.alive hnx13 hnx13.size
   try replace hb5 := hb5.trans (hnx13.mono hb5.size)
   try replace hrow := hrow.alive hnx13 hnx13.size
   try replace hB18 := Nat.le_trans hB18 hnx13.size
   replace hBW : B < x13.heap.size := Nat.lt_of_lt_of_le hBW hnx13.size
   clear hx13
   refine Shut.out hKK _ _ hsx13 (fun hH1 => ?_)
   clear hKK KK
   try simp only [Act.put, qa]
   apply tk 14 (v := _) rfl (Or.inl ⟨by kernel_rfl, ?hv⟩) hH1 ?_
   case hv => intro w' hS; obtain ⟨z0, z1, z2⟩ := HC.out w' hS.1; have z3 := HWR.out; go_simp; try exact rfl
   simp only [Act.put, qa]
   refine wpAnyH_ready (rs := [5]) (by kernel_rfl) (by simp) ?_
   refine AllReadyH.cons rfl (fun KK hKK => ?_) AllReadyH.nil
   go_simp
   refine (lfEight_is _ am HAM.out).mono ?_
   rintro _ x5 ⟨ax5, rfl, he_x5, hnx5⟩
   have hsx5 : Has x5 B 32 LC.toArray ∧ Below B w x5 := ⟨hH1.1.below hnx5 hH1.1.lt, hH1.2.trans (hnx5.mono (Nat.le_of_lt hBW))⟩
   try replace hq1 := hq1.below hnx5 hq1.lt
   try replace hown := own_kept hown (Kept.of_below (S := fun _ => False) hnx5) (fun _ _ e => e)
   try replace he2 := he2.alive hnx5 hnx5.size
   try replace hb5 := hb5.trans (hnx5.mono hb5.size)
   try replace hrow := hrow.alive hnx5 hnx5.size
   try replace hB18 := Nat.le_trans hB18 hnx5.size
   replace hBW : B < x5.heap.size := Nat.lt_of_lt_of_le hBW hnx5.size
   have he1 := he_x5
   have hb5 := Below.refl x5.heap.size x5
   have hB5 : B ≤ x5.heap.size := Nat.le_of_lt hBW
   have he5 := he1
   clear he1
   refine Shut.out hKK _ _ hsx5 (fun hH2 => ?_)
   clear hKK KK
   try simp only [Act.put, qa]
   apply tk 6 (v := _) rfl (Or.inl ⟨by kernel_rfl, ?hv⟩) hH2 ?_
   case hv => intro w' hS; obtain ⟨z0, z1, z2⟩ := HC.out w' hS.1; have z3 := HWR.out; go_simp; try exact rfl
   simp only [Act.put, qa]
   refine wpAnyH_ready (rs := [18]) (by kernel_rfl) (by simp) ?_
   refine AllReadyH.cons rfl (fun KK hKK => ?_) AllReadyH.nil
   refine step_append_bytes rfl _ (.tmp 27) rfl x5.heap.size (.slice none 0 0) 0 [] rfl (World.ownsRow_nil _ _ _ _) _ _ l.sp.h rfl (HBY.out _ hH2.1).2.2 (by have := HL0.out; omega) (Nat.le_refl _) ?_
   intro oa18 oc18 x18 hown hgr
   try have hneq0 : ∀ k, (Value.slice oa18 (0 + l.sp.h.length) oc18).ownBlock = some k → k ≠ Q := fun k e => by have h1 := own_blk hown k e; have h2 := hq1.lt; omega
   have hsx18 : Has x18 B 32 LC.toArray ∧ Below B w x18 := ⟨hH2.1.grown hgr (fun e => by cases e), hH2.2.grown hgr (Nat.le_of_lt hBW) (fun k e => by cases e)⟩
   have hN18 : x5.heap.size ≤ x5.heap.size := hb5.size
   replace hb5 := hb5.grown hgr hb5.size (fun k e => by cases e)
   try replace hq1 := hq1.grown hgr (fun e => by cases e)
   try rw [HL0.out] at hneq0
   rw [HL0.out] at hown ⊢
   have hB18 := (Kept.of_grown hgr).size
   replace hBW : B < x18.heap.size := Nat.lt_of_lt_of_le hBW hB18
   clear hgr
   refine Shut.out hKK _ _ hsx18 (fun hH3 => ?_)
   clear hKK KK
   try simp only [Act.put, qa]
   refine wpAnyH_ready (rs := [22]) (by kernel_rfl) (by simp) ?_
   refine AllReadyH.cons rfl (fun KK hKK => ?_) AllReadyH.nil
   go_simp
   refine (lfEight_is _ ss HSS.out).mono ?_
   rintro _ x22 ⟨ax22, rfl, he_x22, hnx22⟩
   have hsx22 : Has x22 B 32 LC.toArray ∧ Below B w x22 := ⟨hH3.1.below hnx22 hH3.1.lt, hH3.2.trans (hnx22.mono (Nat.le_of_lt hBW))⟩
   try replace he1 := he1.alive hnx22 hnx22.size
   try replace hq1 := hq1.below hnx22 hq1.lt
   try replace hown := own_kept hown (Kept.of_below (S := fun _ => False) hnx22) (fun _ _ e => e)
   try replace hb5 := hb5.trans (hnx22.mono hb5.size)
   try replace hrow := hrow.alive hnx22 hnx22.size
   try replace hB18 := Nat.le_trans hB18 hnx22.size
   replace hBW : B < x22.heap.size := Nat.lt_of_lt_of_le hBW hnx22.size
   have he2 := he_x22
   refine Shut.out hKK _ _ hsx22 (fun hH4 => ?_)
   clear hKK KK
   try simp only [Act.put, qa]
   refine wpAnyH_ready (rs := [23]) (by kernel_rfl) (by simp) ?_
   refine AllReadyH.cons rfl (fun KK hKK => ?_) AllReadyH.nil
   refine step_append_bytes rfl (.tmp 28) (.tmp 32) rfl _ _ 32 ([] ++ bcells l.sp.h) rfl hown _ _ (eight ss) rfl he2 (by have := HL1.out; omega) hB18 ?_
   intro oa23 oc23 x23 hown2 hgr2
   have hsx23 : Has x23 B 32 LC.toArray ∧ Below B w x23 := ⟨hH4.1.grown hgr2 (fun e => own_has_ne hown hH4.1 (by decide) B e.symm rfl), hH4.2.grown hgr2 (Nat.le_of_lt hBW) (fun k e => Nat.le_trans (Nat.le_trans hB5 hN18) (own_blk hown k e))⟩
   replace hb5 := hb5.grown hgr2 hb5.size (fun k e => Nat.le_trans hN18 (own_blk hown k e))
   try replace hq1 := hq1.grown hgr2 (fun e => hneq0 Q e.symm rfl)
   rw [HL1.out] at hown2 ⊢
   have hrow := HOB.out _ _ _ _ hown2
   replace hBW : B < x23.heap.size := Nat.lt_of_lt_of_le hBW (Kept.of_grown hgr2).size
   clear hgr2 hown2 hown he2
   refine Shut.out hKK _ _ hsx23 (fun hH5 => ?_)
   clear hKK KK
   try simp only [Act.put, qa]
   apply tk 24 (v := _) rfl (Or.inl ⟨by kernel_rfl, ?hv⟩) hH5 ?_
   case hv => intro w' hS; obtain ⟨z0, z1, z2⟩ := HC.out w' hS.1; have z3 := HWR.out; go_simp; try exact rfl
   simp only [Act.put, qa]
   refine wpAnyH_ready (rs := [25]) (by kernel_rfl) (by simp) ?_
   refine AllReadyH.cons rfl (fun KK hKK => ?_) AllReadyH.nil
   refine step_buildN rfl 136 139 5 _ rfl _ 2 32 Tryz.underlying136 info_rec [.tmp 12, .tmp 16, .tmp 19, .tmp 24, .tmp 34] rfl [.agg #[.int .u64 0, .slice (some ⟨B, 0, none⟩) 32 32], .agg #[.int .u64 2, .slice ax5 8 8], .agg #[.int .u64 4, .slice (some ⟨B, 33, none⟩) 32 32], .agg #[.int .u64 6, .slice (some ⟨Q, 0, none⟩) 1 1], .agg #[.int .u64 8, .slice oa23 40 oc23]] rfl (by simp [Value.cells]) rfl rfl (by decide) (by decide) (by decide) ?_
   change KK _ (x23.alloc (.cells [Value.int .u64 0, .slice (some ⟨B, 0, none⟩) 32 32, .int .u64 2, .slice ax5 8 8, .int .u64 4, .slice (some ⟨B, 33, none⟩) 32 32, .int .u64 6, .slice (some ⟨Q, 0, none⟩) 1 1, .int .u64 8, .slice oa23 40 oc23].toArray 139))
   rw [recM5_cells l HOK.out]
   obtain ⟨x25, hx25⟩ : ∃ y, y = x23.alloc (.cells ((recM5 l B Q ax5 oa23 oc23).flatMap RecM.cells).toArray 139) := ⟨_, rfl⟩
   first | rw [← hx25] | (change KK _ (x23.alloc (.cells ((recM5 l B Q ax5 oa23 oc23).flatMap RecM.cells).toArray 139)); rw [← hx25])
   have hnx25 : Below x23.heap.size x23 x25 := by rw [hx25]; exact (Below.refl _ _).alloc (Nat.le_refl _) _
   have hr5 : Has x25 x23.heap.size 139 ((recM5 l B Q ax5 oa23 oc23).flatMap RecM.cells).toArray := by rw [hx25]; exact Has.new _ _ _
   have hr5b : B < x23.heap.size := hBW
   obtain ⟨R, hR⟩ : ∃ g, g = x23.heap.size := ⟨_, rfl⟩
   first | rw [← hR] | (have hR2 : w1.heap.size = R := hR.symm; rw [hR2]) | skip
   rw [← hR] at hr5
   rw [← hR] at hr5b
   clear hR
   have hsx25 : Has x25 B 32 LC.toArray ∧ Below B w x25 := ⟨hH5.1.below hnx25 hH5.1.lt, hH5.2.trans (hnx25.mono (Nat.le_of_lt hBW))⟩
   try replace he1 := he1.alive hnx25 hnx25.size
   try replace hq1 := hq1.below hnx25 hq1.lt
   try replace hown := own_kept hown (Kept.of_below (S := fun _ => False) hnx25) (fun _ _ e => e)
   try replace he2 := he2.alive hnx25 hnx25.size
   try replace hb5 := hb5.trans (hnx25.mono hb5.size)
   try replace hrow := hrow.alive hnx25 hnx25.size
   try replace hB18 := Nat.le_trans hB18 hnx25.size
   replace hBW : B < x25.heap.size := Nat.lt_of_lt_of_le hBW hnx25.size
   clear hx25
   refine Shut.out hKK _ _ hsx25 (fun hH6 => ?_)
   clear hKK KK
   try simp only [Act.put, qa]
   refine wpAnyH_ready (rs := [26]) (by kernel_rfl) (by simp) ?_
   refine AllReadyH.cons rfl (fun KK hKK => ?_) AllReadyH.nil
   go_simp
   have hr5b' := hBW
   have hby := HBY.out _ hH6.1
   refine (tvEnc_is _ _ 5 5 (recM5 l B Q ax5 oa23 oc23) (recs_five l HOK.out hr5 hby.1 (by rw [← EAM.out]; exact he5.alive hb5 hb5.size) hby.2.1 (by rw [← EQ.out]; exact one_by hq1 hq256 _ (Nat.ne_of_lt hq1.lt)) hrow) (by decide)).mono ?_
   rintro _ x26 hm
   rw [recM5_r, enc_leaf l HOK.out] at hm
   obtain ⟨v26, rfl, hbw⟩ := (show ∃ v', _ = Ending.returned (.tuple #[v', .int .i64 0]) ∧ BigW _ _ _ v' x26 from hm)
   have hnx26 := hbw.bel
   have hsx26 : Has x26 B 32 LC.toArray ∧ Below B w x26 := ⟨hH6.1.below hnx26 hH6.1.lt, hH6.2.trans (hnx26.mono (Nat.le_of_lt hBW))⟩
   replace hBW : B < x26.heap.size := Nat.lt_of_lt_of_le hBW hnx26.size
   clear hm hby
   refine Shut.out hKK _ _ hsx26 (fun hH7 => ?_)
   clear hKK KK
   try simp only [Act.put, qa]
   apply tk 27 (v := _) rfl (Or.inl ⟨by kernel_rfl, ?hv⟩) hH7 ?_
   case hv => intro w' hS; obtain ⟨z0, z1, z2⟩ := HC.out w' hS.1; have z3 := HWR.out; go_simp; try exact rfl
   simp only [Act.put, qa]
   apply tk 28 (v := _) rfl (Or.inl ⟨by kernel_rfl, ?hv⟩) hH7 ?_
   case hv => intro w' hS; obtain ⟨z0, z1, z2⟩ := HC.out w' hS.1; have z3 := HWR.out; go_simp; try exact rfl
   simp only [Act.put, qa]
   apply tk 29 (v := _) rfl (Or.inl ⟨by kernel_rfl, ?hv⟩) hH7 ?_
   case hv => intro w' hS; obtain ⟨z0, z1, z2⟩ := HC.out w' hS.1; have z3 := HWR.out; go_simp; try exact rfl
   simp only [Act.put, qa]
   apply tk 30 (v := _) rfl (Or.inl ⟨by kernel_rfl, ?hv⟩) hH7 ?_
   case hv => intro w' hS; obtain ⟨z0, z1, z2⟩ := HC.out w' hS.1; have z3 := HWR.out; go_simp; try exact rfl
   simp only [Act.put, qa]
   refine wpAnyH_done (by kernel_rfl) ?_ _
   refine NoPanic.normal ?_
   have HFN := Lib.hid (show BigW w.heap.size w (leafB l) v26 x26 from ⟨by obtain ⟨a, c, e, ho⟩ := hbw.own; exact ⟨a, c, e, own_base ho (by rw [← HBQ.out]; exact Nat.le_of_lt hr5b')⟩, by have := hsx26.2; rwa [HBQ.out] at this⟩)
   clear hbw hsx26 hsx25
   go_wp2_with fail
   go_ret2
   rw [HEE.out]
   exact ⟨_, rfl, HFN.out⟩
end Go.Proofs.YtknfbccbdiidjaaGreatDoor

