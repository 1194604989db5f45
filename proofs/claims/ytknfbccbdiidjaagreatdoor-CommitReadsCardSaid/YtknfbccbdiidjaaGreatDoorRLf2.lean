/- A leaf as a part of a transfer; the tree of all that comes of one transfer. -/
import Derived.Test.YtknfbccbdiidjaaGreatDoorWs
import Derived.Test.YtknfbccbdiidjaaGreatDoorRLb1
import Derived.Test.YtknfbccbdiidjaaGreatDoorRGr
namespace Go.Proofs.YtknfbccbdiidjaaGreatDoor
set_option linter.unusedVariables false
set_option linter.unusedSimpArgs false
open Go.ChangeShapes Go.WideShapes Go.ChangeAt Go.RowKit Go.Maps

theorem boxes_part (w : World) (LC : List Value) : ∃ W1, W1 = (((w.alloc (.cells LC.toArray 32))).alloc (.cells #[.slice none 0 0, .int .u64 0] 50)) ∧
   Has W1 (w.heap.size) 32 LC.toArray ∧ Has W1 (w.heap.size + 1) 50 #[.slice none 0 0, .int .u64 0] ∧ Below w.heap.size w W1 := by
 refine ⟨_, rfl, ?_, ?_, ?_⟩
 · have := Has.new w 32 LC.toArray
   exact (this).alloc _
 · have := Has.new (w.alloc (.cells LC.toArray 32)) 50 #[.slice none 0 0, .int .u64 0]
   exact (by simpa using this : Has _ (w.heap.size + 1) _ _)
 · exact ((Below.refl _ _).alloc (Nat.le_refl _) _).alloc (by simp) _
theorem leaf_bytes {w : World} {B : Nat} {l : LeafT} (hl : l.ok) (h : Has w B 32 l.cells.toArray) (g : Nat) (hg : w.heap.size ≤ g) :
   Bytes w g (.slice (some ⟨B, 0, none⟩) 32 32) l.id ∧ Bytes w g (.slice (some ⟨B, 33, none⟩) 32 32) l.ow := by
 have hb := h.lt
 refine ⟨⟨_, _, by rw [hl.id.1], by rw [hl.id.1]; exact Nat.le_refl _, hl.id.2, fun _ => ⟨B, 0, rfl, by omega, fun i hi => ?_⟩⟩, ⟨_, _, by rw [hl.ow.1], by rw [hl.ow.1]; exact Nat.le_refl _, hl.ow.2, fun _ => ⟨B, 33, rfl, by omega, fun i hi => ?_⟩⟩⟩
 · rw [Nat.zero_add]
   exact h.cell_is (by rw [List.getElem?_toArray]; exact LeafT.at_id hl i (by rw [hl.id.1] at hi; exact hi))
 · exact h.cell_is (by rw [List.getElem?_toArray]; exact LeafT.at_ow hl i (by rw [hl.ow.1] at hi; exact hi))
set_option maxRecDepth 100000 in
set_option maxHeartbeats 4000000 in
theorem lfPart_is (w : World) (l : LeafT) (h : l.ok) : Calls Tryz.prog 100 #[.agg l.cells.toArray] w fun e w' => ∃ a c, e = .returned (leafV (.slice a 64 c) l.am) ∧ Bytes w' w'.heap.size (.slice a 64 c) (l.id ++ l.ow) ∧ Below w.heap.size w w' := by
 obtain ⟨LC, hLC⟩ : ∃ L, L = l.cells := ⟨_, rfl⟩
 obtain ⟨am, ham⟩ : ∃ x, x = l.am := ⟨_, rfl⟩
 have hzl := zero_leaf
 unfold leafV at hzl
 rw [← hLC, ← ham]
 have HLC := Lib.hid hLC
 have HAM := Lib.hid ham
 clear hLC ham
 go_enter Tryz.func100, Tryz.ntmps100
 go_upto_region 1 with (fail)
 obtain ⟨W1, hW1, h1, h2, hb1⟩ := boxes_part w LC
 rw [← hW1]
 clear hW1 hzl
 obtain ⟨B, hB⟩ : ∃ b, b = w.heap.size := ⟨_, rfl⟩
 rw [← hB] at h1 h2 hb1 ⊢
 have HBQ := Lib.hid hB
 have HBS := Lib.hid (show B ≤ W1.heap.size by rw [hB]; exact hb1.size)
 clear hB
 have HC := Lib.hid (show ∀ v : World, Has v B 32 LC.toArray → v.cell? ⟨B, 32, none⟩ = some (.int .u64 (am : Int)) from fun v hv => hv.cell_is (by rw [List.getElem?_toArray, HLC.out, HAM.out]; exact LeafT.at_am h))
 have HBY := Lib.hid (show ∀ v : World, Has v B 32 LC.toArray → Bytes v v.heap.size (.slice (some ⟨B, 0, none⟩) 32 32) l.id ∧ Bytes v v.heap.size (.slice (some ⟨B, 33, none⟩) 32 32) l.ow from fun v hv => leaf_bytes h (by rw [← HLC.out]; exact hv) v.heap.size (Nat.le_refl _))
 have E1 := Lib.hid (show 0 + l.id.length = 32 by rw [h.id.1])
 have E2 := Lib.hid (show 32 + l.ow.length = 64 by rw [h.ow.1])
 have HLT := Lib.hid (show (∀ x ∈ l.id ++ l.ow, x < 256) ∧ (l.id ++ l.ow).length = 64 from ⟨fun x hx => (List.mem_append.1 hx).elim (h.id.2 x) (h.ow.2 x), by rw [List.length_append, h.id.1, h.ow.1]⟩)
 have HS0 := Lib.hid h1
 have H2 := Lib.hid h2
 have HB1 := Lib.hid hb1
 clear h1 h2 hb1 h HLC HAM
 have hS0 := HS0.out
 obtain ⟨ids, hids⟩ : ∃ x, x = l.id := ⟨_, rfl⟩
 obtain ⟨ows, hows⟩ : ∃ x, x = l.ow := ⟨_, rfl⟩
 rw [← hids] at HBY E1 HLT
 rw [← hows] at HBY E2 HLT
 have EI := Lib.hid hids
 have EO := Lib.hid hows
 clear hids hows HS0
 refine wp_region_noPanic ?_
 refine wp_region_held_drew (S := (fun v => Has v B 32 LC.toArray)) (by kernel_rfl) hS0 (fun hH0 => ?_)
 refine tk 0 (v := ((.pointer (some ⟨B, 0, none⟩)))) rfl (Or.inl ⟨by kernel_rfl, by intro w' hS; have z0 := HC.out w' hS; go_simp⟩) hH0 ?_
 simp only [Act.put, qa]
 refine tk 1 (v := ((.slice (some ⟨B, 0, none⟩) 32 32))) rfl (Or.inl ⟨by kernel_rfl, by intro w' hS; have z0 := HC.out w' hS; go_simp⟩) hH0 ?_
 simp only [Act.put, qa]
 refine tk 3 (v := ((.pointer (some ⟨B, 33, none⟩)))) rfl (Or.inl ⟨by kernel_rfl, by intro w' hS; have z0 := HC.out w' hS; go_simp⟩) hH0 ?_
 simp only [Act.put, qa]
 refine tk 4 (v := ((.slice (some ⟨B, 33, none⟩) 32 32))) rfl (Or.inl ⟨by kernel_rfl, by intro w' hS; have z0 := HC.out w' hS; go_simp⟩) hH0 ?_
 simp only [Act.put, qa]
 refine tk 6 (v := ((.pointer (some ⟨B, 32, none⟩)))) rfl (Or.inl ⟨by kernel_rfl, by intro w' hS; have z0 := HC.out w' hS; go_simp⟩) hH0 ?_
 simp only [Act.put, qa]
 refine tk 7 (v := ((.int .u64 (am : Int)))) rfl (Or.inl ⟨by kernel_rfl, by intro w' hS; have z0 := HC.out w' hS; go_simp⟩) hH0 ?_
 simp only [Act.put, qa]
 refine wpAnyH_ready (rs := [2]) (by kernel_rfl) (by simp) ?_
 refine AllReadyH.cons rfl (fun KK hKK => ?_) AllReadyH.nil
 refine step_append_bytes rfl _ (.tmp 4) rfl B (.slice none 0 0) 0 [] rfl (World.ownsRow_nil _ _ _ _) _ _ ids rfl (HBY.out _ hS0).1 (by have := E1.out; omega) HBS.out ?_
 intro oa5 oc5 w5 hown5 hgr5
 replace hgr5 : W1.grownBy w5 none := grown_undrew hgr5
 have hs5 := hS0.grown hgr5 (by simp)
 have hb5 := HB1.out.grown hgr5 HBS.out (by simp)
 have h25 := H2.out.grown hgr5 (by simp)
 rw [E1.out] at hown5 ⊢
 have HO5 := Lib.hid hown5
 have HB5 := Lib.hid hb5
 have H25 := Lib.hid h25
 have HBS5 := Lib.hid ((show B ≤ w5.heap.size by have := HBQ.out; have := hb5.size; omega))
 clear hown5 hgr5 hb5 h25
 refine Shut.out hKK _ _ hs5 (fun hH1 => ?_)
 clear hKK KK
 try simp only [Act.put, qa]
 refine wpAnyH_ready (rs := [5]) (by kernel_rfl) (by simp) ?_
 refine AllReadyH.cons rfl (fun KK hKK => ?_) AllReadyH.nil
 refine step_append_bytes rfl (.tmp 5) (.tmp 7) rfl B _ 32 ([] ++ bcells ids) rfl HO5.out _ _ ows rfl (HBY.out _ hs5).2 (by have := E2.out; omega) HBS5.out ?_
 intro oa8 oc8 w8 hown8 hgr8
 have hs8 := hs5.grown hgr8 (fun e => own_has_ne HO5.out hs5 (by decide) B e.symm rfl)
 have hb8 := HB5.out.grown hgr8 HBS5.out (own_blk HO5.out)
 have h28 := H25.out.grown hgr8 (fun e => own_has_ne HO5.out H25.out (by decide) (B + 1) e.symm rfl)
 rw [E2.out] at hown8 ⊢
 have HO8 := Lib.hid hown8
 have HB8 := Lib.hid hb8
 have H28 := Lib.hid h28
 have H2S := Lib.hid (row_set (L := [.slice oa8 64 oc8, .int .u64 (am : Int)]) h28 rfl)
 have HBS8 := Lib.hid ((show B ≤ w8.heap.size by have := HBQ.out; have := hb8.size; omega))
 clear hown8 hgr8 hb8 h28
 refine Shut.out hKK _ _ hs8 (fun hH2 => ?_)
 clear hKK KK
 try simp only [Act.put, qa]
 refine tk 8 (v := ((.agg #[.slice oa8 64 oc8, .int .u64 (am : Int)]))) rfl (Or.inl ⟨by kernel_rfl, by intro w' hS; have z0 := HC.out w' hS; go_simp⟩) hH2 ?_
 simp only [Act.put, qa]
 refine wpAnyH_ready (rs := [9]) (by kernel_rfl) (by simp) ?_
 refine AllReadyH.cons rfl (fun KK hKK => ?_) AllReadyH.nil
 refine step_store_mid rfl 50 (.tmp 2) (.tmp 11) rfl (B + 1) 0 #[.slice oa8 64 oc8, .int .u64 (am : Int)] rfl rfl (H28.out.there 0 2 (by simp)) (by kernel_rfl) (by kernel_rfl) ?_
 refine Shut.out hKK _ _ (hs8.kept H2S.out.2 (fun e => by have e' : B = B + 1 := e; omega)) (fun hH3 => ?_)
 clear hKK KK
 try simp only [Act.put, qa]
 refine wpAnyH_done (by kernel_rfl) ?_ _
 refine NoPanic.normal ?_
 have hk := H2S.out.2
 have hown := own_kept HO8.out hk (fun j e e2 => own_has_ne HO8.out H28.out (by decide) j e e2)
 rw [List.nil_append, ← bcells_cat] at hown
 have hb := own_bytes hown HLT.out.2 HLT.out.1 (Nat.le_refl _)
 rw [EI.out, EO.out] at hb
 have hbe := HB8.out.trans (hk.below HBS8.out (fun j e => by have e' : j = B + 1 := e; omega))
 rw [show Below B w = Below w.heap.size w by rw [HBQ.out]] at hbe
 go_wp2_with fail
 refine bodyPost_ret (results_cell_row rfl _ _ (B + 1) 50 #[.slice oa8 64 oc8, .int .u64 (am : Int)] (0, 0) _ rfl H2S.out.1 Tryz.underlying50 rfl (by kernel_rfl)) rfl ?_
 exact ⟨oa8, oc8, rfl, hb, hbe⟩
end Go.Proofs.YtknfbccbdiidjaaGreatDoor

