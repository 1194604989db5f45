/- The walk of the reference's Encode of leaves. -/
import Derived.Test.YtniakgoefkbkhaaGreatDoorWs
import Derived.Test.YtniakgoefkbkhaaGreatDoorWLb3
import Derived.Test.YtniakgoefkbkhaaGreatDoorWLz1
import Derived.Test.YtniakgoefkbkhaaGreatDoorWRz4
namespace Go.Proofs.YtniakgoefkbkhaaGreatDoor
set_option linter.unusedVariables false
set_option linter.unusedSimpArgs false
open Go.ChangeShapes Go.WideShapes Go.ChangeAt Go.RowKit Go.Maps

theorem rleaf_three {w : World} {B : Nat} {l : LeafT} (hl : l.ok) (h : Has w B 62 l.cells.toArray) :
   Bytes w w.heap.size (.slice (some ⟨B, 0, none⟩) 32 32) l.id ∧ Bytes w w.heap.size (.slice (some ⟨B, 33, none⟩) 32 32) l.ow ∧ Bytes w w.heap.size (.slice (some ⟨B, 66, none⟩) 32 32) l.sp.h := by
 refine ⟨mid_bytes h 32 hl.id.1 hl.id.2 (fun i hi => ?_), mid_bytes h 32 hl.ow.1 hl.ow.2 (fun i hi => ?_), mid_bytes h 32 hl.sp.1 hl.sp.2 (fun i hi => ?_)⟩
 · rw [List.getElem?_toArray, Nat.zero_add]; exact LeafT.at_id hl i hi
 · rw [List.getElem?_toArray]; exact LeafT.at_ow hl i hi
 · rw [List.getElem?_toArray, LeafT.at_sp hl, ndV, ncells, List.getElem?_append_left (by rw [bcells_length, hl.sp.1]; exact hi)]
   exact bcells_get _ i (by rw [hl.sp.1]; exact hi)
def rrecM5 (l : LeafT) (B Q : Nat) (a1 : Option Addr) (ac : Nat) (oa : Option Addr) (oc : Nat) : List RecM := [⟨0, some ⟨B, 0, none⟩, l.id, 32⟩, ⟨2, a1, eight l.am, ac⟩, ⟨4, some ⟨B, 33, none⟩, l.ow, 32⟩, ⟨6, some ⟨Q, 0, none⟩, [plB l], 1⟩, ⟨8, oa, l.sp.h ++ eight l.sp.s, oc⟩]
theorem rrecM5_r (l : LeafT) (B Q : Nat) (a1 : Option Addr) (ac : Nat) (oa : Option Addr) (oc : Nat) : (rrecM5 l B Q a1 ac oa oc).map RecM.r = recsOf l := rfl
theorem rrecM5_cells (l : LeafT) (h : l.ok) (B Q : Nat) (a1 : Option Addr) (ac : Nat) (oa : Option Addr) (oc : Nat) : [Value.int .u64 0, .slice (some ⟨B, 0, none⟩) 32 32, .int .u64 2, .slice a1 8 ac, .int .u64 4, .slice (some ⟨B, 33, none⟩) 32 32, .int .u64 6, .slice (some ⟨Q, 0, none⟩) 1 1, .int .u64 8, .slice oa 40 oc] = (rrecM5 l B Q a1 ac oa oc).flatMap RecM.cells := by
 simp [rrecM5, RecM.cells, h.id.1, h.ow.1, h.sp.1, eight_len']
theorem rrecs_five {w : World} (l : LeafT) (h : l.ok) {B Q R : Nat} {a1 : Option Addr} {ac : Nat} {oa : Option Addr} {oc : Nat} (hr : Has w R 118 ((rrecM5 l B Q a1 ac oa oc).flatMap RecM.cells).toArray)
   (h0 : Bytes w w.heap.size (.slice (some ⟨B, 0, none⟩) 32 32) l.id) (h1 : Bytes w w.heap.size (.slice a1 8 ac) (eight l.am)) (h2 : Bytes w w.heap.size (.slice (some ⟨B, 33, none⟩) 32 32) l.ow) (h3 : Bytes w w.heap.size (.slice (some ⟨Q, 0, none⟩) 1 1) [plB l]) (h4 : Bytes w w.heap.size (.slice oa 40 oc) (l.sp.h ++ eight l.sp.s)) :
   RecsAt w (some ⟨R, 0, none⟩) 5 (rrecM5 l B Q a1 ac oa oc) := by
 refine ⟨rows_has (xs := rrecM5 l B Q a1 ac oa oc) hr (fun x _ => rfl), fun x hx => ?_⟩
 have e4 : (l.sp.h ++ eight l.sp.s).length = 40 := by rw [List.length_append, h.sp.1, eight_len']
 simp only [rrecM5, List.mem_cons, List.not_mem_nil, or_false] at hx
 rcases hx with rfl | rfl | rfl | rfl | rfl
 · exact ⟨by dsimp only; omega, by dsimp only; rw [h.id.1]; omega, by dsimp only; rw [h.id.1]; exact h0⟩
 · exact ⟨by dsimp only; omega, by dsimp only; rw [eight_len']; omega, by dsimp only; rw [eight_len']; exact h1⟩
 · exact ⟨by dsimp only; omega, by dsimp only; rw [h.ow.1]; omega, by dsimp only; rw [h.ow.1]; exact h2⟩
 · exact ⟨by dsimp only; omega, by show 1 ≤ _; omega, h3⟩
 · exact ⟨by dsimp only; omega, by dsimp only; rw [e4]; omega, by dsimp only; rw [e4]; exact h4⟩
set_option maxRecDepth 100000 in
set_option maxHeartbeats 4000000 in
theorem rzEncode_is (w : World) (l : LeafT) (h : l.ok) : Calls Tryz.prog 17 #[.agg l.cells.toArray] w (TvP w (lenc l)) := by
 obtain ⟨LC, hLC⟩ : ∃ L, L = l.cells := ⟨_, rfl⟩
 have HCK := Lib.hid (fun v => rzRight_is v l h)
 rw [← hLC] at HCK ⊢
 have SZL := Lib.hid (show (Tryz.prog.info? 62).map (·.size) = some LC.toArray.size by rw [hLC, List.size_toArray, LeafT.len h]; kernel_rfl)
 have HLC := Lib.hid hLC
 have HOK := Lib.hid h
 have HB0 := Lib.hid (Has.new w 62 LC.toArray)
 clear hLC
 obtain ⟨E, hE⟩ : ∃ e, e = lenc l := ⟨_, rfl⟩
 rw [← hE]
 have HE := Lib.hid hE
 clear hE
 go_enter Tryz.func17, Tryz.ntmps17
 go_wp2_with (refine wpList_load_row rfl 62 (.tmp 1) rfl w.heap.size rfl 62 LC.toArray (0, 0) _ HB0.out Tryz.underlying62 rfl SZL.out ?_)
 refine (HCK.out _).mono ?_
 rintro _ w1 ⟨rfl, hw1⟩
 have hbx : Has w1 w.heap.size 62 LC.toArray := by rw [hw1]; exact HB0.out.alloc _
 have hbb : Below w.heap.size w w1 := by rw [hw1]; exact ((Below.refl _ _).alloc (Nat.le_refl _) _).alloc (by simp) _
 have HBX := Lib.hid hbx
 have HBB := Lib.hid hbb
 clear hw1 hbx hbb HCK
 obtain ⟨Bd, hBd⟩ : ∃ z, z = leafBad l := ⟨_, rfl⟩
 rw [← hBd]
 have HBD := Lib.hid hBd
 clear hBd
 cases Bd with
 | true =>
   have HEE := Lib.hid (show E = .error 1 by rw [HE.out]; unfold lenc; rw [← HBD.out]; rfl)
   go_wp2_with fail
   go_ret2
   rw [HEE.out]
   exact ⟨rfl, HBB.out⟩
 | false =>
 have HEE := Lib.hid (show E = .ok (leafB l) by rw [HE.out]; unfold lenc; rw [← HBD.out]; rfl)
 clear HE
 go_upto_region 3 with (fail)
 obtain ⟨B, hB⟩ : ∃ b, b = w.heap.size := ⟨_, rfl⟩
 have HBQ := Lib.hid hB
 have hbx := HBX.out
 have hbb := HBB.out
 rw [← hB] at hbx hbb ⊢
 have hBW : B < w1.drew.heap.size := hbx.lt
 have hS0 : Has w1.drew B 62 LC.toArray ∧ Below B w w1.drew := ⟨hbx, below_drew hbb⟩
 clear hB hbx hbb HBX HBB HB0
 obtain ⟨am, ham⟩ : ∃ x, x = l.am := ⟨_, rfl⟩
 obtain ⟨ss, hss⟩ : ∃ x, x = l.sp.s := ⟨_, rfl⟩
 obtain ⟨pl, hpl⟩ : ∃ x, x = l.pl := ⟨_, rfl⟩
 obtain ⟨q, hq⟩ : ∃ q, q = plB l := ⟨_, rfl⟩
 have hwr : IntKind.u8.wrap l.pl = (plB l : Int) := by rw [IntKind.wrap_u8]; unfold plB; omega
 rw [← hq, ← hpl] at hwr
 have hq256 : q < 256 := by rw [hq]; exact plB_lt l
 have HAM := Lib.hid (show am < 18446744073709551616 by rw [ham]; exact h.am)
 have HSS := Lib.hid (show ss < 18446744073709551616 by rw [hss]; exact h.ss)
 have HC := Lib.hid (show ∀ v : World, Has v B 62 LC.toArray → v.cell? ⟨B, 65, none⟩ = some (.int .i64 pl) ∧ v.cell? ⟨B, 32, none⟩ = some (.int .u64 (am : Int)) ∧ v.cell? ⟨B, 98, none⟩ = some (.int .u64 (ss : Int)) from fun v hv =>
   ⟨hv.cell_is (by rw [List.getElem?_toArray, HLC.out, hpl]; exact LeafT.at_pl HOK.out), hv.cell_is (by rw [List.getElem?_toArray, HLC.out, ham]; exact LeafT.at_am HOK.out), hv.cell_is (by rw [List.getElem?_toArray, HLC.out, hss]; exact LeafT.at_ss HOK.out)⟩)
 have HBY := Lib.hid (show ∀ (v : World), Has v B 62 LC.toArray → Bytes v v.heap.size (.slice (some ⟨B, 0, none⟩) 32 32) l.id ∧ Bytes v v.heap.size (.slice (some ⟨B, 33, none⟩) 32 32) l.ow ∧ Bytes v v.heap.size (.slice (some ⟨B, 66, none⟩) 32 32) l.sp.h from fun v hv => rleaf_three HOK.out (by rw [← HLC.out]; exact hv))
 have HL0 := Lib.hid (show 0 + l.sp.h.length = 32 by rw [h.sp.1])
 have HL1 := Lib.hid (show 32 + (eight ss).length = 40 by rw [eight_len'])
 have HWR := Lib.hid hwr
 have EQ := Lib.hid hq
 have EAM := Lib.hid ham
 have ESS := Lib.hid hss
 have HOB := Lib.hid (show ∀ (v : World) (base : Nat) (oa : Option Addr) (oc : Nat), v.ownsRow base 5 1 (.slice oa 40 oc) 40 ([] ++ bcells l.sp.h ++ bcells (eight ss)) → Bytes v v.heap.size (.slice oa 40 oc) (l.sp.h ++ eight l.sp.s) from fun v base oa oc ho => by
   rw [List.nil_append, ← bcells_cat, ESS.out] at ho
   exact own_bytes ho (by rw [List.length_append, HOK.out.sp.1, eight_len']) (fun x hx => (List.mem_append.1 hx).elim (HOK.out.sp.2 x) (eight_lt' _ x)) (Nat.le_refl _))
 clear hwr hq hpl ham hss h
 refine wp_region_noPanic ?_
 refine wp_region_held_drew (S := (fun v => Has v B 62 LC.toArray ∧ Below B w v)) (by kernel_rfl) hS0 (fun hH0 => ?_)
 apply tk 1 (v := _) rfl (Or.inl ⟨by kernel_rfl, ?hv⟩) hH0 ?_
 case hv => intro w' hS; obtain ⟨z0, z1, z2⟩ := HC.out w' hS.1; go_simp; try exact rfl
 simp only [Act.put, qa]
 apply tk 2 (v := _) rfl (Or.inl ⟨by kernel_rfl, ?hv⟩) hH0 ?_
 case hv => intro w' hS; obtain ⟨z0, z1, z2⟩ := HC.out w' hS.1; go_simp; try exact rfl
 simp only [Act.put, qa]
 apply tk 3 (v := _) rfl (Or.inl ⟨by kernel_rfl, ?hv⟩) hH0 ?_
 case hv => intro w' hS; obtain ⟨z0, z1, z2⟩ := HC.out w' hS.1; go_simp; try exact rfl
 simp only [Act.put, qa]
 apply tk 5 (v := _) rfl (Or.inl ⟨by kernel_rfl, ?hv⟩) hH0 ?_
 case hv => intro w' hS; obtain ⟨z0, z1, z2⟩ := HC.out w' hS.1; go_simp; try exact rfl
 simp only [Act.put, qa]
 apply tk 6 (v := _) rfl (Or.inl ⟨by kernel_rfl, ?hv⟩) hH0 ?_
 case hv => intro w' hS; obtain ⟨z0, z1, z2⟩ := HC.out w' hS.1; go_simp; try exact rfl
 simp only [Act.put, qa]
 apply tk 7 (v := _) rfl (Or.inl ⟨by kernel_rfl, ?hv⟩) hH0 ?_
 case hv => intro w' hS; obtain ⟨z0, z1, z2⟩ := HC.out w' hS.1; go_simp; try exact rfl
 simp only [Act.put, qa]
 refine wpAnyH_ready (rs := [0]) (by kernel_rfl) (by simp) ?_
 refine AllReadyH.cons rfl (fun KK hKK => ?_) AllReadyH.nil
 go_simp
 have hb0 : B ≤ w1.drew.heap.size := Nat.le_of_lt hBW
 obtain ⟨x0, hx0⟩ : ∃ y, y = w1.drew.alloc (.cells #[] 5) := ⟨_, rfl⟩
 have hp0 : x0.ownsRow B 5 1 (.slice (some ⟨w1.drew.heap.size, 0, none⟩) 0 0) 0 [] := by rw [hx0]; exact own_empty hb0 _ _
 have hnx0 : Below w1.drew.heap.size w1.drew x0 := by rw [hx0]; exact (Below.refl _ _).alloc (Nat.le_refl _) _
 first | rw [← hx0] | (change KK _ (w1.drew.alloc (.cells #[] 5)); rw [← hx0])
 clear hx0
 have hsx0 : Has x0 B 62 LC.toArray ∧ Below B w x0 := ⟨hH0.1.below hnx0 hH0.1.lt, hH0.2.trans (hnx0.mono (Nat.le_of_lt hBW))⟩
 replace hBW : B < x0.heap.size := Nat.lt_of_lt_of_le hBW hnx0.size
 refine Shut.out hKK _ _ hsx0 (fun hH1 => ?_)
 clear hKK KK
 try simp only [Act.put, qa]
 refine wpAnyH_ready (rs := [4]) (by kernel_rfl) (by simp) ?_
 refine AllReadyH.cons rfl (fun KK hKK => ?_) AllReadyH.nil
 refine step_append_bytes rfl _ (.tmp 11) rfl B _ 0 [] rfl hp0 _ _ l.sp.h rfl (HBY.out _ hH1.1).2.2 (by have := HL0.out; omega) (Nat.le_of_lt hBW) ?_
 intro oa4 oc4 x4 hown hgr
 have hsx4 : Has x4 B 62 LC.toArray ∧ Below B w x4 := ⟨hH1.1.grown hgr (fun e => own_has_ne hp0 hH1.1 (by decide) B e.symm rfl), hH1.2.grown hgr (Nat.le_of_lt hBW) (own_blk hp0)⟩
 rw [HL0.out] at hown ⊢
 replace hBW : B < x4.heap.size := Nat.lt_of_lt_of_le hBW (Kept.of_grown hgr).size
 clear hgr hp0
 refine Shut.out hKK _ _ hsx4 (fun hH2 => ?_)
 clear hKK KK
 try simp only [Act.put, qa]
 refine wpAnyH_ready (rs := [8]) (by kernel_rfl) (by simp) ?_
 refine AllReadyH.cons rfl (fun KK hKK => ?_) AllReadyH.nil
 go_simp
 refine (eight_is _ ss HSS.out).mono ?_
 rintro _ x8 ⟨⟨ax8, cx8, rfl, he_x8⟩, hnx8⟩
 have hsx8 : Has x8 B 62 LC.toArray ∧ Below B w x8 := ⟨hH2.1.below hnx8 hH2.1.lt, hH2.2.trans (hnx8.mono (Nat.le_of_lt hBW))⟩
 try replace he1 := he1.alive hnx8 hnx8.size
 try replace hq1 := hq1.below hnx8 hq1.lt
 try replace hown := own_kept hown (Kept.of_below (S := fun _ => False) hnx8) (fun _ _ e => e)
 try replace hrow := hrow.alive hnx8 hnx8.size
 try replace hB18 := Nat.le_trans hB18 hnx8.size
 try replace hp0 := own_kept hp0 (Kept.of_below (S := fun _ => False) hnx8) (fun _ _ e => e)
 replace hBW : B < x8.heap.size := Nat.lt_of_lt_of_le hBW hnx8.size
 have he2 := he_x8
 refine Shut.out hKK _ _ hsx8 (fun hH3 => ?_)
 clear hKK KK
 try simp only [Act.put, qa]
 refine wpAnyH_ready (rs := [9]) (by kernel_rfl) (by simp) ?_
 refine AllReadyH.cons rfl (fun KK hKK => ?_) AllReadyH.nil
 refine step_append_bytes rfl (.tmp 12) (.tmp 16) rfl _ _ 32 ([] ++ bcells l.sp.h) rfl hown _ _ (eight ss) rfl he2 (by have := HL1.out; omega) (Nat.le_of_lt hBW) ?_
 intro oa9 oc9 x9 hown2 hgr2
 have hsx9 : Has x9 B 62 LC.toArray ∧ Below B w x9 := ⟨hH3.1.grown hgr2 (fun e => own_has_ne hown hH3.1 (by decide) B e.symm rfl), hH3.2.grown hgr2 (Nat.le_of_lt hBW) (own_blk hown)⟩
 rw [HL1.out] at hown2 ⊢
 have hrow := HOB.out _ _ _ _ hown2
 replace hBW : B < x9.heap.size := Nat.lt_of_lt_of_le hBW (Kept.of_grown hgr2).size
 clear hgr2 hown2 hown he2
 refine Shut.out hKK _ _ hsx9 (fun hH4 => ?_)
 clear hKK KK
 try simp only [Act.put, qa]
 apply tk 10 (v := _) rfl (Or.inl ⟨by kernel_rfl, ?hv⟩) hH4 ?_
 case hv => intro w' hS; obtain ⟨z0, z1, z2⟩ := HC.out w' hS.1; go_simp; try exact rfl
 simp only [Act.put, qa]
 refine wpAnyH_done (by kernel_rfl) ?_ _
 refine NoPanic.normal ?_
 have HS9 := Lib.hid hsx9
 have HR9 := Lib.hid hrow
 have HBW9 := Lib.hid hBW
 clear hsx9 hrow hBW hS0
 go_upto_region 4 with (fail)
 have hS0 : Has x9.drew B 62 LC.toArray ∧ Below B w x9.drew := ⟨HS9.out.1, below_drew HS9.out.2⟩
 have hBW : B < x9.drew.heap.size := HBW9.out
 have hrow : Bytes x9.drew x9.drew.heap.size (.slice oa9 40 oc9) (l.sp.h ++ eight l.sp.s) := HR9.out.alive (below_drew (Below.refl _ _)) (Nat.le_refl _)
 refine wp_region_noPanic ?_
 refine wp_region_held_drew (S := (fun v => Has v B 62 LC.toArray ∧ Below B w v)) (by kernel_rfl) hS0 (fun hH0 => ?_)
 apply tk 0 (v := _) rfl (Or.inl ⟨by kernel_rfl, ?hv⟩) hH0 ?_
 case hv => intro w' hS; obtain ⟨z0, z1, z2⟩ := HC.out w' hS.1; have z3 := HWR.out; go_simp; try exact rfl
 simp only [Act.put, qa]
 apply tk 1 (v := _) rfl (Or.inl ⟨by kernel_rfl, ?hv⟩) hH0 ?_
 case hv => intro w' hS; obtain ⟨z0, z1, z2⟩ := HC.out w' hS.1; have z3 := HWR.out; go_simp; try exact rfl
 simp only [Act.put, qa]
 apply tk 2 (v := _) rfl (Or.inl ⟨by kernel_rfl, ?hv⟩) hH0 ?_
 case hv => intro w' hS; obtain ⟨z0, z1, z2⟩ := HC.out w' hS.1; have z3 := HWR.out; go_simp; try exact rfl
 simp only [Act.put, qa]
 apply tk 3 (v := _) rfl (Or.inl ⟨by kernel_rfl, ?hv⟩) hH0 ?_
 case hv => intro w' hS; obtain ⟨z0, z1, z2⟩ := HC.out w' hS.1; have z3 := HWR.out; go_simp; try exact rfl
 simp only [Act.put, qa]
 apply tk 4 (v := _) rfl (Or.inl ⟨by kernel_rfl, ?hv⟩) hH0 ?_
 case hv => intro w' hS; obtain ⟨z0, z1, z2⟩ := HC.out w' hS.1; have z3 := HWR.out; go_simp; try exact rfl
 simp only [Act.put, qa]
 apply tk 7 (v := _) rfl (Or.inl ⟨by kernel_rfl, ?hv⟩) hH0 ?_
 case hv => intro w' hS; obtain ⟨z0, z1, z2⟩ := HC.out w' hS.1; have z3 := HWR.out; go_simp; try exact rfl
 simp only [Act.put, qa]
 apply tk 8 (v := _) rfl (Or.inl ⟨by kernel_rfl, ?hv⟩) hH0 ?_
 case hv => intro w' hS; obtain ⟨z0, z1, z2⟩ := HC.out w' hS.1; have z3 := HWR.out; go_simp; try exact rfl
 simp only [Act.put, qa]
 apply tk 9 (v := _) rfl (Or.inl ⟨by kernel_rfl, ?hv⟩) hH0 ?_
 case hv => intro w' hS; obtain ⟨z0, z1, z2⟩ := HC.out w' hS.1; have z3 := HWR.out; go_simp; try exact rfl
 simp only [Act.put, qa]
 apply tk 10 (v := _) rfl (Or.inl ⟨by kernel_rfl, ?hv⟩) hH0 ?_
 case hv => intro w' hS; obtain ⟨z0, z1, z2⟩ := HC.out w' hS.1; have z3 := HWR.out; go_simp; try exact rfl
 simp only [Act.put, qa]
 apply tk 11 (v := _) rfl (Or.inl ⟨by kernel_rfl, ?hv⟩) hH0 ?_
 case hv => intro w' hS; obtain ⟨z0, z1, z2⟩ := HC.out w' hS.1; have z3 := HWR.out; go_simp; try exact rfl
 simp only [Act.put, qa]
 apply tk 12 (v := _) rfl (Or.inl ⟨by kernel_rfl, ?hv⟩) hH0 ?_
 case hv => intro w' hS; obtain ⟨z0, z1, z2⟩ := HC.out w' hS.1; have z3 := HWR.out; go_simp; try exact rfl
 simp only [Act.put, qa]
 apply tk 15 (v := _) rfl (Or.inl ⟨by kernel_rfl, ?hv⟩) hH0 ?_
 case hv => intro w' hS; obtain ⟨z0, z1, z2⟩ := HC.out w' hS.1; have z3 := HWR.out; go_simp; try exact rfl
 simp only [Act.put, qa]
 apply tk 16 (v := _) rfl (Or.inl ⟨by kernel_rfl, ?hv⟩) hH0 ?_
 case hv => intro w' hS; obtain ⟨z0, z1, z2⟩ := HC.out w' hS.1; have z3 := HWR.out; go_simp; try exact rfl
 simp only [Act.put, qa]
 refine wpAnyH_ready (rs := [5, 13]) (by kernel_rfl) (by simp) ?_
 refine AllReadyH.cons rfl (fun KK hKK => ?_) (AllReadyH.cons rfl (fun KK hKK => ?_) AllReadyH.nil)
 · go_simp
   refine (eight_is _ am HAM.out).mono ?_
   rintro _ x5 ⟨⟨ax5, cx5, rfl, he_x5⟩, hnx5⟩
   have hsx5 : Has x5 B 62 LC.toArray ∧ Below B w x5 := ⟨hH0.1.below hnx5 hH0.1.lt, hH0.2.trans (hnx5.mono (Nat.le_of_lt hBW))⟩
   try replace hq1 := hq1.below hnx5 hq1.lt
   try replace hown := own_kept hown (Kept.of_below (S := fun _ => False) hnx5) (fun _ _ e => e)
   try replace he2 := he2.alive hnx5 hnx5.size
   try replace hrow := hrow.alive hnx5 hnx5.size
   try replace hB18 := Nat.le_trans hB18 hnx5.size
   try replace hp0 := own_kept hp0 (Kept.of_below (S := fun _ => False) hnx5) (fun _ _ e => e)
   replace hBW : B < x5.heap.size := Nat.lt_of_lt_of_le hBW hnx5.size
   have he1 := he_x5
   refine Shut.out hKK _ _ hsx5 (fun hH1 => ?_)
   clear hKK KK
   try simp only [Act.put, qa]
   apply tk 6 (v := _) rfl (Or.inl ⟨by kernel_rfl, ?hv⟩) hH1 ?_
   case hv => intro w' hS; obtain ⟨z0, z1, z2⟩ := HC.out w' hS.1; have z3 := HWR.out; go_simp; try exact rfl
   simp only [Act.put, qa]
   refine wpAnyH_ready (rs := [13]) (by kernel_rfl) (by simp) ?_
   refine AllReadyH.cons rfl (fun KK hKK => ?_) AllReadyH.nil
   refine step_buildN rfl 54 5 1 _ rfl _ 1 1 Tryz.underlying54 info_u8 [.tmp 30] rfl [.int .u8 (q : Int)] rfl (by simp [Value.cells]) rfl rfl (by decide) (by decide) (by decide) ?_
   try rw [show [Value.int IntKind.u8 (q : Int)].flatMap (fun v => v.cells.toList) = [.int .u8 (q : Int)] from rfl]
   obtain ⟨x13, hx13⟩ : ∃ y, y = x5.alloc (.cells #[.int .u8 (q : Int)] 5) := ⟨_, rfl⟩
   first | rw [← hx13] | (change KK _ (x5.alloc (.cells #[.int .u8 (q : Int)] 5)); rw [← hx13])
   have hnx13 : Below x5.heap.size x5 x13 := by rw [hx13]; exact (Below.refl _ _).alloc (Nat.le_refl _) _
   have hq1 : Has x13 x5.heap.size 5 #[.int .u8 (q : Int)] := by rw [hx13]; exact Has.new _ _ _
   have hq1b : B < x5.heap.size := hBW
   obtain ⟨Q, hQ⟩ : ∃ g, g = x5.heap.size := ⟨_, rfl⟩
   first | rw [← hQ] | (have hQ2 : x9.heap.size = Q := hQ.symm; rw [hQ2]) | skip
   rw [← hQ] at hq1
   rw [← hQ] at hq1b
   clear hQ
   have hsx13 : Has x13 B 62 LC.toArray ∧ Below B w x13 := ⟨hH1.1.below hnx13 hH1.1.lt, hH1.2.trans (hnx13.mono (Nat.le_of_lt hBW))⟩
   try replace he1 := he1.alive hnx13 hnx13.size
   try replace hown := own_kept hown (Kept.of_below (S := fun _ => False) hnx13) (fun _ _ e => e)
   try replace he2 := he2.alive hnx13 hnx13.size
   try replace hrow := hrow.alive hnx13 hnx13.size
   try replace hB18 := Nat.le_trans hB18 hnx13.size
   try replace hp0 := own_kept hp0 (Kept.of_below (S := fun _ => False) hnx13) (fun _ _ e => e)
   replace hBW : B < x13.heap.size := Nat.lt_of_lt_of_le hBW hnx13.size
   clear hx13
   refine Shut.out hKK _ _ hsx13 (fun hH2 => ?_)
   clear hKK KK
   try simp only [Act.put, qa]
   apply tk 14 (v := _) rfl (Or.inl ⟨by kernel_rfl, ?hv⟩) hH2 ?_
   case hv => intro w' hS; obtain ⟨z0, z1, z2⟩ := HC.out w' hS.1; have z3 := HWR.out; go_simp; try exact rfl
   simp only [Act.put, qa]
   refine wpAnyH_ready (rs := [17]) (by kernel_rfl) (by simp) ?_
   refine AllReadyH.cons rfl (fun KK hKK => ?_) AllReadyH.nil
   refine step_buildN rfl 119 118 5 _ rfl _ 2 32 Tryz.underlying119 info_rrec [.tmp 20, .tmp 24, .tmp 27, .tmp 32, .tmp 34] rfl [.agg #[.int .u64 0, .slice (some ⟨B, 0, none⟩) 32 32], .agg #[.int .u64 2, .slice ax5 8 cx5], .agg #[.int .u64 4, .slice (some ⟨B, 33, none⟩) 32 32], .agg #[.int .u64 6, .slice (some ⟨Q, 0, none⟩) 1 1], .agg #[.int .u64 8, .slice oa9 40 oc9]] rfl (by simp [Value.cells]) rfl rfl (by decide) (by decide) (by decide) ?_
   change KK _ (x13.alloc (.cells [Value.int .u64 0, .slice (some ⟨B, 0, none⟩) 32 32, .int .u64 2, .slice ax5 8 cx5, .int .u64 4, .slice (some ⟨B, 33, none⟩) 32 32, .int .u64 6, .slice (some ⟨Q, 0, none⟩) 1 1, .int .u64 8, .slice oa9 40 oc9].toArray 118))
   rw [rrecM5_cells l HOK.out]
   obtain ⟨x17, hx17⟩ : ∃ y, y = x13.alloc (.cells ((rrecM5 l B Q ax5 cx5 oa9 oc9).flatMap RecM.cells).toArray 118) := ⟨_, rfl⟩
   first | rw [← hx17] | (change KK _ (x13.alloc (.cells ((rrecM5 l B Q ax5 cx5 oa9 oc9).flatMap RecM.cells).toArray 118)); rw [← hx17])
   have hnx17 : Below x13.heap.size x13 x17 := by rw [hx17]; exact (Below.refl _ _).alloc (Nat.le_refl _) _
   have hr5 : Has x17 x13.heap.size 118 ((rrecM5 l B Q ax5 cx5 oa9 oc9).flatMap RecM.cells).toArray := by rw [hx17]; exact Has.new _ _ _
   have hr5b : B < x13.heap.size := hBW
   obtain ⟨R, hR⟩ : ∃ g, g = x13.heap.size := ⟨_, rfl⟩
   first | rw [← hR] | (have hR2 : x9.heap.size = R := hR.symm; rw [hR2]) | skip
   rw [← hR] at hr5
   rw [← hR] at hr5b
   clear hR
   have hsx17 : Has x17 B 62 LC.toArray ∧ Below B w x17 := ⟨hH2.1.below hnx17 hH2.1.lt, hH2.2.trans (hnx17.mono (Nat.le_of_lt hBW))⟩
   try replace he1 := he1.alive hnx17 hnx17.size
   try replace hq1 := hq1.below hnx17 hq1.lt
   try replace hown := own_kept hown (Kept.of_below (S := fun _ => False) hnx17) (fun _ _ e => e)
   try replace he2 := he2.alive hnx17 hnx17.size
   try replace hrow := hrow.alive hnx17 hnx17.size
   try replace hB18 := Nat.le_trans hB18 hnx17.size
   try replace hp0 := own_kept hp0 (Kept.of_below (S := fun _ => False) hnx17) (fun _ _ e => e)
   replace hBW : B < x17.heap.size := Nat.lt_of_lt_of_le hBW hnx17.size
   clear hx17
   refine Shut.out hKK _ _ hsx17 (fun hH3 => ?_)
   clear hKK KK
   try simp only [Act.put, qa]
   refine wpAnyH_ready (rs := [18]) (by kernel_rfl) (by simp) ?_
   refine AllReadyH.cons rfl (fun KK hKK => ?_) AllReadyH.nil
   go_simp
   have hr5b' := hBW
   have hby := HBY.out _ hH3.1
   refine (rzEnc_is _ _ 5 5 (rrecM5 l B Q ax5 cx5 oa9 oc9) (rrecs_five l HOK.out hr5 hby.1 (by rw [← EAM.out]; exact he1) hby.2.1 (by rw [← EQ.out]; exact one_by hq1 hq256 _ (Nat.ne_of_lt hq1.lt)) hrow) (by decide)).mono ?_
   rintro _ x18 hm
   rw [rrecM5_r, enc_leaf l HOK.out] at hm
   obtain ⟨v18, rfl, hbw⟩ := (show ∃ v', _ = Ending.returned (.tuple #[v', .int .i64 0]) ∧ BigW _ _ _ v' x18 from hm)
   have hnx18 := hbw.bel
   have hsx18 : Has x18 B 62 LC.toArray ∧ Below B w x18 := ⟨hH3.1.below hnx18 hH3.1.lt, hH3.2.trans (hnx18.mono (Nat.le_of_lt hBW))⟩
   replace hBW : B < x18.heap.size := Nat.lt_of_lt_of_le hBW hnx18.size
   clear hm hby
   refine Shut.out hKK _ _ hsx18 (fun hH4 => ?_)
   clear hKK KK
   try simp only [Act.put, qa]
   apply tk 19 (v := _) rfl (Or.inl ⟨by kernel_rfl, ?hv⟩) hH4 ?_
   case hv => intro w' hS; obtain ⟨z0, z1, z2⟩ := HC.out w' hS.1; have z3 := HWR.out; go_simp; try exact rfl
   simp only [Act.put, qa]
   apply tk 20 (v := _) rfl (Or.inl ⟨by kernel_rfl, ?hv⟩) hH4 ?_
   case hv => intro w' hS; obtain ⟨z0, z1, z2⟩ := HC.out w' hS.1; have z3 := HWR.out; go_simp; try exact rfl
   simp only [Act.put, qa]
   apply tk 21 (v := _) rfl (Or.inl ⟨by kernel_rfl, ?hv⟩) hH4 ?_
   case hv => intro w' hS; obtain ⟨z0, z1, z2⟩ := HC.out w' hS.1; have z3 := HWR.out; go_simp; try exact rfl
   simp only [Act.put, qa]
   apply tk 22 (v := _) rfl (Or.inl ⟨by kernel_rfl, ?hv⟩) hH4 ?_
   case hv => intro w' hS; obtain ⟨z0, z1, z2⟩ := HC.out w' hS.1; have z3 := HWR.out; go_simp; try exact rfl
   simp only [Act.put, qa]
   refine wpAnyH_done (by kernel_rfl) ?_ _
   refine NoPanic.normal ?_
   have HFN := Lib.hid (show BigW w.heap.size w (leafB l) v18 x18 from ⟨by obtain ⟨a, c, e, ho⟩ := hbw.own; exact ⟨a, c, e, own_base ho (by rw [← HBQ.out]; exact Nat.le_of_lt hr5b')⟩, by have := hsx18.2; rwa [HBQ.out] at this⟩)
   clear hbw hsx18 hsx17
   go_wp2_with fail
   go_ret2
   rw [HEE.out]
   exact ⟨_, rfl, HFN.out⟩
 · refine step_buildN rfl 54 5 1 _ rfl _ 1 1 Tryz.underlying54 info_u8 [.tmp 30] rfl [.int .u8 (q : Int)] rfl (by simp [Value.cells]) rfl rfl (by decide) (by decide) (by decide) ?_
   try rw [show [Value.int IntKind.u8 (q : Int)].flatMap (fun v => v.cells.toList) = [.int .u8 (q : Int)] from rfl]
   obtain ⟨x13, hx13⟩ : ∃ y, y = x9.drew.alloc (.cells #[.int .u8 (q : Int)] 5) := ⟨_, rfl⟩
   first | rw [← hx13] | (change KK _ (x9.drew.alloc (.cells #[.int .u8 (q : Int)] 5)); rw [← hx13])
   have hnx13 : Below x9.drew.heap.size x9.drew x13 := by rw [hx13]; exact (Below.refl _ _).alloc (Nat.le_refl _) _
   have hq1 : Has x13 x9.drew.heap.size 5 #[.int .u8 (q : Int)] := by rw [hx13]; exact Has.new _ _ _
   have hq1b : B < x9.drew.heap.size := hBW
   obtain ⟨Q, hQ⟩ : ∃ g, g = x9.drew.heap.size := ⟨_, rfl⟩
   first | rw [← hQ] | (have hQ2 : x9.heap.size = Q := hQ.symm; rw [hQ2]) | skip
   rw [← hQ] at hq1
   rw [← hQ] at hq1b
   clear hQ
   have hsx13 : Has x13 B 62 LC.toArray ∧ Below B w x13 := ⟨hH0.1.below hnx13 hH0.1.lt, hH0.2.trans (hnx13.mono (Nat.le_of_lt hBW))⟩
   try replace he1 := he1.alive hnx13 hnx13.size
   try replace hown := own_kept hown (Kept.of_below (S := fun _ => False) hnx13) (fun _ _ e => e)
   try replace he2 := he2.alive hnx13 hnx13.size
   try replace hrow := hrow.alive hnx13 hnx13.size
   try replace hB18 := Nat.le_trans hB18 hnx13.size
   try replace hp0 := own_kept hp0 (Kept.of_below (S := fun _ => False) hnx13) (fun _ _ e => e)
   replace hBW : B < x13.heap.size := Nat.lt_of_lt_of_le hBW hnx13.size
   clear hx13
   refine Shut.out hKK _ _ hsx13 (fun hH1 => ?_)
   clear hKK KK
   try simp only [Act.put, qa]
   apply tk 14 (v := _) rfl (Or.inl ⟨by kernel_rfl, ?hv⟩) hH1 ?_
   case hv => intro w' hS; obtain ⟨z0, z1, z2⟩ := HC.out w' hS.1; have z3 := HWR.out; go_simp; try exact rfl
   simp only [Act.put, qa]
   refine wpAnyH_ready (rs := [5]) (by kernel_rfl) (by simp) ?_
   refine AllReadyH.cons rfl (fun KK hKK => ?_) AllReadyH.nil
   go_simp
   refine (eight_is _ am HAM.out).mono ?_
   rintro _ x5 ⟨⟨ax5, cx5, rfl, he_x5⟩, hnx5⟩
   have hsx5 : Has x5 B 62 LC.toArray ∧ Below B w x5 := ⟨hH1.1.below hnx5 hH1.1.lt, hH1.2.trans (hnx5.mono (Nat.le_of_lt hBW))⟩
   try replace hq1 := hq1.below hnx5 hq1.lt
   try replace hown := own_kept hown (Kept.of_below (S := fun _ => False) hnx5) (fun _ _ e => e)
   try replace he2 := he2.alive hnx5 hnx5.size
   try replace hrow := hrow.alive hnx5 hnx5.size
   try replace hB18 := Nat.le_trans hB18 hnx5.size
   try replace hp0 := own_kept hp0 (Kept.of_below (S := fun _ => False) hnx5) (fun _ _ e => e)
   replace hBW : B < x5.heap.size := Nat.lt_of_lt_of_le hBW hnx5.size
   have he1 := he_x5
   refine Shut.out hKK _ _ hsx5 (fun hH2 => ?_)
   clear hKK KK
   try simp only [Act.put, qa]
   apply tk 6 (v := _) rfl (Or.inl ⟨by kernel_rfl, ?hv⟩) hH2 ?_
   case hv => intro w' hS; obtain ⟨z0, z1, z2⟩ := HC.out w' hS.1; have z3 := HWR.out; go_simp; try exact rfl
   simp only [Act.put, qa]
   refine wpAnyH_ready (rs := [17]) (by kernel_rfl) (by simp) ?_
   refine AllReadyH.cons rfl (fun KK hKK => ?_) AllReadyH.nil
   refine step_buildN rfl 119 118 5 _ rfl _ 2 32 Tryz.underlying119 info_rrec [.tmp 20, .tmp 24, .tmp 27, .tmp 32, .tmp 34] rfl [.agg #[.int .u64 0, .slice (some ⟨B, 0, none⟩) 32 32], .agg #[.int .u64 2, .slice ax5 8 cx5], .agg #[.int .u64 4, .slice (some ⟨B, 33, none⟩) 32 32], .agg #[.int .u64 6, .slice (some ⟨Q, 0, none⟩) 1 1], .agg #[.int .u64 8, .slice oa9 40 oc9]] rfl (by simp [Value.cells]) rfl rfl (by decide) (by decide) (by decide) ?_
   change KK _ (x5.alloc (.cells [Value.int .u64 0, .slice (some ⟨B, 0, none⟩) 32 32, .int .u64 2, .slice ax5 8 cx5, .int .u64 4, .slice (some ⟨B, 33, none⟩) 32 32, .int .u64 6, .slice (some ⟨Q, 0, none⟩) 1 1, .int .u64 8, .slice oa9 40 oc9].toArray 118))
   rw [rrecM5_cells l HOK.out]
   obtain ⟨x17, hx17⟩ : ∃ y, y = x5.alloc (.cells ((rrecM5 l B Q ax5 cx5 oa9 oc9).flatMap RecM.cells).toArray 118) := ⟨_, rfl⟩
   first | rw [← hx17] | (change KK _ (x5.alloc (.cells ((rrecM5 l B Q ax5 cx5 oa9 oc9).flatMap RecM.cells).toArray 118)); rw [← hx17])
   have hnx17 : Below x5.heap.size x5 x17 := by rw [hx17]; exact (Below.refl _ _).alloc (Nat.le_refl _) _
   have hr5 : Has x17 x5.heap.size 118 ((rrecM5 l B Q ax5 cx5 oa9 oc9).flatMap RecM.cells).toArray := by rw [hx17]; exact Has.new _ _ _
   have hr5b : B < x5.heap.size := hBW
   obtain ⟨R, hR⟩ : ∃ g, g = x5.heap.size := ⟨_, rfl⟩
   first | rw [← hR] | (have hR2 : x9.heap.size = R := hR.symm; rw [hR2]) | skip
   rw [← hR] at hr5
   rw [← hR] at hr5b
   clear hR
   have hsx17 : Has x17 B 62 LC.toArray ∧ Below B w x17 := ⟨hH2.1.below hnx17 hH2.1.lt, hH2.2.trans (hnx17.mono (Nat.le_of_lt hBW))⟩
   try replace he1 := he1.alive hnx17 hnx17.size
   try replace hq1 := hq1.below hnx17 hq1.lt
   try replace hown := own_kept hown (Kept.of_below (S := fun _ => False) hnx17) (fun _ _ e => e)
   try replace he2 := he2.alive hnx17 hnx17.size
   try replace hrow := hrow.alive hnx17 hnx17.size
   try replace hB18 := Nat.le_trans hB18 hnx17.size
   try replace hp0 := own_kept hp0 (Kept.of_below (S := fun _ => False) hnx17) (fun _ _ e => e)
   replace hBW : B < x17.heap.size := Nat.lt_of_lt_of_le hBW hnx17.size
   clear hx17
   refine Shut.out hKK _ _ hsx17 (fun hH3 => ?_)
   clear hKK KK
   try simp only [Act.put, qa]
   refine wpAnyH_ready (rs := [18]) (by kernel_rfl) (by simp) ?_
   refine AllReadyH.cons rfl (fun KK hKK => ?_) AllReadyH.nil
   go_simp
   have hr5b' := hBW
   have hby := HBY.out _ hH3.1
   refine (rzEnc_is _ _ 5 5 (rrecM5 l B Q ax5 cx5 oa9 oc9) (rrecs_five l HOK.out hr5 hby.1 (by rw [← EAM.out]; exact he1) hby.2.1 (by rw [← EQ.out]; exact one_by hq1 hq256 _ (Nat.ne_of_lt hq1.lt)) hrow) (by decide)).mono ?_
   rintro _ x18 hm
   rw [rrecM5_r, enc_leaf l HOK.out] at hm
   obtain ⟨v18, rfl, hbw⟩ := (show ∃ v', _ = Ending.returned (.tuple #[v', .int .i64 0]) ∧ BigW _ _ _ v' x18 from hm)
   have hnx18 := hbw.bel
   have hsx18 : Has x18 B 62 LC.toArray ∧ Below B w x18 := ⟨hH3.1.below hnx18 hH3.1.lt, hH3.2.trans (hnx18.mono (Nat.le_of_lt hBW))⟩
   replace hBW : B < x18.heap.size := Nat.lt_of_lt_of_le hBW hnx18.size
   clear hm hby
   refine Shut.out hKK _ _ hsx18 (fun hH4 => ?_)
   clear hKK KK
   try simp only [Act.put, qa]
   apply tk 19 (v := _) rfl (Or.inl ⟨by kernel_rfl, ?hv⟩) hH4 ?_
   case hv => intro w' hS; obtain ⟨z0, z1, z2⟩ := HC.out w' hS.1; have z3 := HWR.out; go_simp; try exact rfl
   simp only [Act.put, qa]
   apply tk 20 (v := _) rfl (Or.inl ⟨by kernel_rfl, ?hv⟩) hH4 ?_
   case hv => intro w' hS; obtain ⟨z0, z1, z2⟩ := HC.out w' hS.1; have z3 := HWR.out; go_simp; try exact rfl
   simp only [Act.put, qa]
   apply tk 21 (v := _) rfl (Or.inl ⟨by kernel_rfl, ?hv⟩) hH4 ?_
   case hv => intro w' hS; obtain ⟨z0, z1, z2⟩ := HC.out w' hS.1; have z3 := HWR.out; go_simp; try exact rfl
   simp only [Act.put, qa]
   apply tk 22 (v := _) rfl (Or.inl ⟨by kernel_rfl, ?hv⟩) hH4 ?_
   case hv => intro w' hS; obtain ⟨z0, z1, z2⟩ := HC.out w' hS.1; have z3 := HWR.out; go_simp; try exact rfl
   simp only [Act.put, qa]
   refine wpAnyH_done (by kernel_rfl) ?_ _
   refine NoPanic.normal ?_
   have HFN := Lib.hid (show BigW w.heap.size w (leafB l) v18 x18 from ⟨by obtain ⟨a, c, e, ho⟩ := hbw.own; exact ⟨a, c, e, own_base ho (by rw [← HBQ.out]; exact Nat.le_of_lt hr5b')⟩, by have := hsx18.2; rwa [HBQ.out] at this⟩)
   clear hbw hsx18 hsx17
   go_wp2_with fail
   go_ret2
   rw [HEE.out]
   exact ⟨_, rfl, HFN.out⟩
end Go.Proofs.YtniakgoefkbkhaaGreatDoor

