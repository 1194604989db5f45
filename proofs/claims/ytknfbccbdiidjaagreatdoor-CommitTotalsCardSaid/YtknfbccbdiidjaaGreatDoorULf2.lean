/- The plain law of a leaf's bytes: back and forth. -/
import Derived.Test.YtknfbccbdiidjaaGreatDoorWs
import Derived.Test.YtknfbccbdiidjaaGreatDoorUTagM
import Derived.Test.YtknfbccbdiidjaaGreatDoorULf1
import Derived.Test.YtknfbccbdiidjaaGreatDoorUTv0
namespace Go.Proofs.YtknfbccbdiidjaaGreatDoor
set_option linter.unusedVariables false
set_option linter.unusedSimpArgs false

def plB (l : LeafT) : Nat := (l.pl % 256).toNat
theorem plB_lt (l : LeafT) : plB l < 256 := by unfold plB; omega
def recsOf (l : LeafT) : List Rec := [⟨0, l.id⟩, ⟨2, eight l.am⟩, ⟨4, l.ow⟩, ⟨6, [plB l]⟩, ⟨8, l.sp.h ++ eight l.sp.s⟩]
theorem eight_len' (x : Nat) : (eight x).length = 8 := by simp [eight]
theorem eight_lt' (x : Nat) : ∀ y ∈ eight x, y < 256 := by rw [eight_big]; exact bigN_lt x 8
theorem recs_len (l : LeafT) (h : l.ok) : (recsOf l).map (fun r => r.v.length) = [32, 8, 32, 1, 40] := by
 simp [recsOf, h.id.1, h.ow.1, h.sp.1, eight_len']
theorem recs_lt (l : LeafT) (h : l.ok) : ∀ r ∈ recsOf l, ∀ y ∈ r.v, y < 256 := by
 intro r hr
 simp only [recsOf, List.mem_cons, List.not_mem_nil, or_false] at hr
 rcases hr with rfl | rfl | rfl | rfl | rfl
 · exact h.id.2
 · exact eight_lt' _
 · exact h.ow.2
 · intro y hy; rw [List.mem_singleton.1 hy]; exact plB_lt l
 · intro y hy
   rcases List.mem_append.1 hy with h1 | h1
   · exact h.sp.2 y h1
   · exact eight_lt' _ y h1
def leafB (l : LeafT) : List Nat := (recsOf l).flatMap recB
theorem recE_at (l : LeafT) (h : l.ok) (k : Nat) (hk : k < 5) : recE (recsOf l) k ((recsOf l).getD k ⟨0, []⟩) = 0 := by
 have e1 := h.id.1
 have e2 := h.ow.1
 have e3 := h.sp.1
 have e4 := eight_len' l.am
 have e5 := eight_len' l.sp.s
 match k, hk with
 | 0, _ => simp [recE, recsOf, e1]
 | 1, _ => simp [recE, recsOf, e4]
 | 2, _ => simp [recE, recsOf, e2]
 | 3, _ => simp [recE, recsOf]
 | 4, _ => simp [recE, recsOf, e3, e5]
theorem tvAt_up5 {rs : List Rec} {k : Nat} {b : List Nat} {r : Rec} (h : tvAt rs k = .ok b) (hr : rs[k]? = some r) (h0 : recE rs k r = 0) : tvAt rs (k + 1) = .ok (b ++ recB r) := by
 rw [tvAt_succ h hr, if_pos h0]
theorem enc_leaf (l : LeafT) (h : l.ok) : tvEnc (recsOf l) = .ok (leafB l) := by
 have t1 := tvAt_up5 (rs := recsOf l) (k := 0) (b := []) rfl rfl (recE_at l h 0 (by decide))
 have t2 := tvAt_up5 t1 rfl (recE_at l h 1 (by decide))
 have t3 := tvAt_up5 t2 rfl (recE_at l h 2 (by decide))
 have t4 := tvAt_up5 t3 rfl (recE_at l h 3 (by decide))
 have t5 := tvAt_up5 t4 rfl (recE_at l h 4 (by decide))
 have hl : (recsOf l).length = 5 := rfl
 unfold tvEnc
 rw [hl, if_neg (by decide), t5]
 simp [leafB, recsOf, List.append_assoc]
theorem leafB_lt (l : LeafT) (h : l.ok) : ∀ y ∈ leafB l, y < 256 := by
 intro y hy
 obtain ⟨r, hr, hy⟩ := List.mem_flatMap.1 hy
 exact recB_lt r (recs_lt l h r hr) y hy
end Go.Proofs.YtknfbccbdiidjaaGreatDoor
/- The walks of leaf's eight and number. -/
namespace Go.Proofs.YtknfbccbdiidjaaGreatDoor
set_option linter.unusedVariables false
set_option linter.unusedSimpArgs false
open Go.ChangeShapes Go.WideShapes Go.ChangeAt Go.RowKit Go.Maps

theorem zero_eight : ∃ Z : Array Value, (∀ w, (zeroValue 165).run Tryz.prog w = .ok (.agg Z) w) ∧ Z = (bcells (List.replicate 8 0)).toArray ∧ Z.size = 8 ∧ ¬ Z = #[] := ⟨(bcells (List.replicate 8 0)).toArray, fun w => by kernel_rfl, rfl, by simp [bcells], by decide⟩
set_option maxRecDepth 100000 in
set_option maxHeartbeats 4000000 in
theorem lfEight_is (w : World) (x : Nat) (hx : x < 18446744073709551616) :
  Calls Tryz.prog 85 #[.int .u64 (x : Int)] w fun e w' => ∃ a, e = .returned (.slice a 8 8) ∧ Bytes w' w'.heap.size (.slice a 8 8) (eight x) ∧ Below w.heap.size w w' := by
 obtain ⟨Z, hz, hZ, hZs, hZn⟩ := zero_eight
 have HZ := Lib.hid hZ
 clear hZ hZs
 obtain ⟨G, hG⟩ : ∃ g, g = w.heap.size := ⟨_, rfl⟩
 have HG := Lib.hid hG
 have hal : Has (w.alloc (.cells Z 165)) w.heap.size 165 Z := Has.new _ _ _
 have hbl : Below w.heap.size w (w.alloc (.cells Z 165)) := (Below.refl _ _).alloc (Nat.le_refl _) _
 obtain ⟨W1, hW1⟩ : ∃ v, v = w.alloc (.cells Z 165) := ⟨_, rfl⟩
 rw [← hW1, ← hG] at hal hbl
 have HAL := Lib.hid hal
 have HBL := Lib.hid hbl
 have EW1 := Lib.hid hW1
 clear hG hal hbl hW1
 go_enter Tryz.func85, Tryz.ntmps85
 go_upto_region 2 with (fail)
 rw [← HG.out, ← EW1.out]
 go_wp2_with fail
 go_loopw [5] (fun i wr => ∃ k : Nat, k ≤ 8 ∧ i = .int .i64 k ∧ Has wr G 165 (splice (bcells (List.replicate 8 0)) 0 ((bcells (eight x)).take k)).toArray ∧ Below G w wr) (fun i _ => 8 - (intOf i).toNat)
 case atStart => exact ⟨0, by omega, rfl, by rw [List.take_zero, splice_nil, ← HZ.out]; exact HAL.out, HBL.out⟩
 case round =>
  obtain ⟨k, hk, rfl, hW, hK⟩ := hrel
  have HW := Lib.hid hW
  have HKR := Lib.hid hK
  clear hW hK
  by_cases hlt : k < 8
  · have hf := HW.out.free k
    obtain ⟨v0, hv0⟩ : ∃ v, wr.cell? ⟨G, k, none⟩ = some v := by
     refine ⟨_, HW.out.cell_is (by rw [List.getElem?_toArray]; exact List.getElem?_eq_getElem (by rw [splice_len _ _ _ (by rw [List.length_take, bcells_length, bcells_length, eight_length]; simp; omega)]; rw [bcells_length]; simpa using hlt))⟩
    have hset := HW.out.set (0 + k) (.int .u8 ((x / 2 ^ (8 * (7 - k)) % 256 : Nat) : Int))
    rw [List.setIfInBounds_toArray, splice_take_set _ _ _ _ _ (by rw [bcells_length, bcells_length, eight_length]; simp) (eight_get x k hlt), Nat.zero_add] at hset
    have hv : ((x : Int) / 2 ^ (56 - 8 * k) % 256) = ((x / 2 ^ (8 * (7 - k)) % 256 : Nat) : Int) := by
     rw [show 56 - 8 * k = 8 * (7 - k) by omega, show (2 : Int) ^ (8 * (7 - k)) = ((2 ^ (8 * (7 - k)) : Nat) : Int) by simp]
     rfl
    have HV := Lib.hid hv
    have HSET := Lib.hid hset
    have HGW := Lib.hid (show w.heap.size ≤ G by rw [HG.out]; exact Nat.le_refl _)
    clear hset hv
    go_wp2
    go_roundw
    case rel => exact ⟨k + 1, by omega, by go_num, by rw [HV.out]; exact HSET.out, HKR.out.setCell (by exact Nat.le_refl _) _⟩
    case measure => simp [intOf]; omega
  · obtain rfl : k = 8 := by omega
    have hfin : Has wr G 165 (bcells (eight x)).toArray := by
     have h1 := HW.out
     rw [List.take_of_length_le (by rw [bcells_length, eight_length]; exact Nat.le_refl _), splice_all _ _ (by rw [bcells_length, bcells_length, eight_length]; simp)] at h1
     exact h1
    have HF := Lib.hid hfin
    clear hfin
    go_wp2
    go_ret
    exact ⟨_, rfl, ⟨_, _, by rw [eight_length], by rw [eight_length]; exact Nat.le_refl _, eight_lt' x, fun _ => ⟨G, 0, rfl, Nat.ne_of_lt HF.out.lt, fun i hi => by rw [Nat.zero_add]; exact HF.out.cell_is (by rw [List.getElem?_toArray]; exact bcells_get _ i hi)⟩⟩, by have := HKR.out; rwa [HG.out] at this⟩
end Go.Proofs.YtknfbccbdiidjaaGreatDoor
/- A leaf as a part of a transfer; the tree of all that comes of one transfer. -/
namespace Go.Proofs.YtknfbccbdiidjaaGreatDoor
set_option linter.unusedVariables false
set_option linter.unusedSimpArgs false
open Go.ChangeShapes Go.WideShapes Go.ChangeAt Go.RowKit Go.Maps

theorem boxes_part (w : World) (LC : List Value) : ∃ W1, W1 = (((w.alloc (.cells LC.toArray 32))).alloc (.cells #[.slice none 0 0, .int .u64 0] 50)) ∧
   Has W1 (w.heap.size) 32 LC.toArray ∧ Has W1 (w.heap.size + 1) 50 #[.slice none 0 0, .int .u64 0] ∧ Below w.heap.size w W1 := by
 refine ⟨_, rfl, ?_, ?_, ?_⟩
 · have := Has.new w 32 LC.toArray
   exact (this).alloc _
 · have := Has.new (w.alloc (.cells LC.toArray 32)) 50 #[.slice none 0 0, .int .u64 0]
   exact (by simpa using this : Has _ (w.heap.size + 1) _ _)
 · exact ((Below.refl _ _).alloc (Nat.le_refl _) _).alloc (by simp) _
theorem leaf_bytes {w : World} {B : Nat} {l : LeafT} (hl : l.ok) (h : Has w B 32 l.cells.toArray) (g : Nat) (hg : w.heap.size ≤ g) :
   Bytes w g (.slice (some ⟨B, 0, none⟩) 32 32) l.id ∧ Bytes w g (.slice (some ⟨B, 33, none⟩) 32 32) l.ow := by
 have hb := h.lt
 refine ⟨⟨_, _, by rw [hl.id.1], by rw [hl.id.1]; exact Nat.le_refl _, hl.id.2, fun _ => ⟨B, 0, rfl, by omega, fun i hi => ?_⟩⟩, ⟨_, _, by rw [hl.ow.1], by rw [hl.ow.1]; exact Nat.le_refl _, hl.ow.2, fun _ => ⟨B, 33, rfl, by omega, fun i hi => ?_⟩⟩⟩
 · rw [Nat.zero_add]
   exact h.cell_is (by rw [List.getElem?_toArray]; exact LeafT.at_id hl i (by rw [hl.id.1] at hi; exact hi))
 · exact h.cell_is (by rw [List.getElem?_toArray]; exact LeafT.at_ow hl i (by rw [hl.ow.1] at hi; exact hi))
set_option maxRecDepth 100000 in
set_option maxHeartbeats 4000000 in
theorem lfPart_is (w : World) (l : LeafT) (h : l.ok) : Calls Tryz.prog 100 #[.agg l.cells.toArray] w fun e w' => ∃ a c, e = .returned (leafV (.slice a 64 c) l.am) ∧ Bytes w' w'.heap.size (.slice a 64 c) (l.id ++ l.ow) ∧ Below w.heap.size w w' := by
 obtain ⟨LC, hLC⟩ : ∃ L, L = l.cells := ⟨_, rfl⟩
 obtain ⟨am, ham⟩ : ∃ x, x = l.am := ⟨_, rfl⟩
 have hzl := zero_leaf
 unfold leafV at hzl
 rw [← hLC, ← ham]
 have HLC := Lib.hid hLC
 have HAM := Lib.hid ham
 clear hLC ham
 go_enter Tryz.func100, Tryz.ntmps100
 go_upto_region 1 with (fail)
 obtain ⟨W1, hW1, h1, h2, hb1⟩ := boxes_part w LC
 rw [← hW1]
 clear hW1 hzl
 obtain ⟨B, hB⟩ : ∃ b, b = w.heap.size := ⟨_, rfl⟩
 rw [← hB] at h1 h2 hb1 ⊢
 have HBQ := Lib.hid hB
 have HBS := Lib.hid (show B ≤ W1.heap.size by rw [hB]; exact hb1.size)
 clear hB
 have HC := Lib.hid (show ∀ v : World, Has v B 32 LC.toArray → v.cell? ⟨B, 32, none⟩ = some (.int .u64 (am : Int)) from fun v hv => hv.cell_is (by rw [List.getElem?_toArray, HLC.out, HAM.out]; exact LeafT.at_am h))
 have HBY := Lib.hid (show ∀ v : World, Has v B 32 LC.toArray → Bytes v v.heap.size (.slice (some ⟨B, 0, none⟩) 32 32) l.id ∧ Bytes v v.heap.size (.slice (some ⟨B, 33, none⟩) 32 32) l.ow from fun v hv => leaf_bytes h (by rw [← HLC.out]; exact hv) v.heap.size (Nat.le_refl _))
 have E1 := Lib.hid (show 0 + l.id.length = 32 by rw [h.id.1])
 have E2 := Lib.hid (show 32 + l.ow.length = 64 by rw [h.ow.1])
 have HLT := Lib.hid (show (∀ x ∈ l.id ++ l.ow, x < 256) ∧ (l.id ++ l.ow).length = 64 from ⟨fun x hx => (List.mem_append.1 hx).elim (h.id.2 x) (h.ow.2 x), by rw [List.length_append, h.id.1, h.ow.1]⟩)
 have HS0 := Lib.hid h1
 have H2 := Lib.hid h2
 have HB1 := Lib.hid hb1
 clear h1 h2 hb1 h HLC HAM
 have hS0 := HS0.out
 obtain ⟨ids, hids⟩ : ∃ x, x = l.id := ⟨_, rfl⟩
 obtain ⟨ows, hows⟩ : ∃ x, x = l.ow := ⟨_, rfl⟩
 rw [← hids] at HBY E1 HLT
 rw [← hows] at HBY E2 HLT
 have EI := Lib.hid hids
 have EO := Lib.hid hows
 clear hids hows HS0
 refine wp_region_noPanic ?_
 refine wp_region_held_drew (S := (fun v => Has v B 32 LC.toArray)) (by kernel_rfl) hS0 (fun hH0 => ?_)
 refine tk 0 (v := ((.pointer (some ⟨B, 0, none⟩)))) rfl (Or.inl ⟨by kernel_rfl, by intro w' hS; have z0 := HC.out w' hS; go_simp⟩) hH0 ?_
 simp only [Act.put, qa]
 refine tk 1 (v := ((.slice (some ⟨B, 0, none⟩) 32 32))) rfl (Or.inl ⟨by kernel_rfl, by intro w' hS; have z0 := HC.out w' hS; go_simp⟩) hH0 ?_
 simp only [Act.put, qa]
 refine tk 3 (v := ((.pointer (some ⟨B, 33, none⟩)))) rfl (Or.inl ⟨by kernel_rfl, by intro w' hS; have z0 := HC.out w' hS; go_simp⟩) hH0 ?_
 simp only [Act.put, qa]
 refine tk 4 (v := ((.slice (some ⟨B, 33, none⟩) 32 32))) rfl (Or.inl ⟨by kernel_rfl, by intro w' hS; have z0 := HC.out w' hS; go_simp⟩) hH0 ?_
 simp only [Act.put, qa]
 refine tk 6 (v := ((.pointer (some ⟨B, 32, none⟩)))) rfl (Or.inl ⟨by kernel_rfl, by intro w' hS; have z0 := HC.out w' hS; go_simp⟩) hH0 ?_
 simp only [Act.put, qa]
 refine tk 7 (v := ((.int .u64 (am : Int)))) rfl (Or.inl ⟨by kernel_rfl, by intro w' hS; have z0 := HC.out w' hS; go_simp⟩) hH0 ?_
 simp only [Act.put, qa]
 refine wpAnyH_ready (rs := [2]) (by kernel_rfl) (by simp) ?_
 refine AllReadyH.cons rfl (fun KK hKK => ?_) AllReadyH.nil
 refine step_append_bytes rfl _ (.tmp 4) rfl B (.slice none 0 0) 0 [] rfl (World.ownsRow_nil _ _ _ _) _ _ ids rfl (HBY.out _ hS0).1 (by have := E1.out; omega) HBS.out ?_
 intro oa5 oc5 w5 hown5 hgr5
 replace hgr5 : W1.grownBy w5 none := grown_undrew hgr5
 have hs5 := hS0.grown hgr5 (by simp)
 have hb5 := HB1.out.grown hgr5 HBS.out (by simp)
 have h25 := H2.out.grown hgr5 (by simp)
 rw [E1.out] at hown5 ⊢
 have HO5 := Lib.hid hown5
 have HB5 := Lib.hid hb5
 have H25 := Lib.hid h25
 have HBS5 := Lib.hid ((show B ≤ w5.heap.size by have := HBQ.out; have := hb5.size; omega))
 clear hown5 hgr5 hb5 h25
 refine Shut.out hKK _ _ hs5 (fun hH1 => ?_)
 clear hKK KK
 try simp only [Act.put, qa]
 refine wpAnyH_ready (rs := [5]) (by kernel_rfl) (by simp) ?_
 refine AllReadyH.cons rfl (fun KK hKK => ?_) AllReadyH.nil
 refine step_append_bytes rfl (.tmp 5) (.tmp 7) rfl B _ 32 ([] ++ bcells ids) rfl HO5.out _ _ ows rfl (HBY.out _ hs5).2 (by have := E2.out; omega) HBS5.out ?_
 intro oa8 oc8 w8 hown8 hgr8
 have hs8 := hs5.grown hgr8 (fun e => own_has_ne HO5.out hs5 (by decide) B e.symm rfl)
 have hb8 := HB5.out.grown hgr8 HBS5.out (own_blk HO5.out)
 have h28 := H25.out.grown hgr8 (fun e => own_has_ne HO5.out H25.out (by decide) (B + 1) e.symm rfl)
 rw [E2.out] at hown8 ⊢
 have HO8 := Lib.hid hown8
 have HB8 := Lib.hid hb8
 have H28 := Lib.hid h28
 have H2S := Lib.hid (row_set (L := [.slice oa8 64 oc8, .int .u64 (am : Int)]) h28 rfl)
 have HBS8 := Lib.hid ((show B ≤ w8.heap.size by have := HBQ.out; have := hb8.size; omega))
 clear hown8 hgr8 hb8 h28
 refine Shut.out hKK _ _ hs8 (fun hH2 => ?_)
 clear hKK KK
 try simp only [Act.put, qa]
 refine tk 8 (v := ((.agg #[.slice oa8 64 oc8, .int .u64 (am : Int)]))) rfl (Or.inl ⟨by kernel_rfl, by intro w' hS; have z0 := HC.out w' hS; go_simp⟩) hH2 ?_
 simp only [Act.put, qa]
 refine wpAnyH_ready (rs := [9]) (by kernel_rfl) (by simp) ?_
 refine AllReadyH.cons rfl (fun KK hKK => ?_) AllReadyH.nil
 refine step_store_mid rfl 50 (.tmp 2) (.tmp 11) rfl (B + 1) 0 #[.slice oa8 64 oc8, .int .u64 (am : Int)] rfl rfl (H28.out.there 0 2 (by simp)) (by kernel_rfl) (by kernel_rfl) ?_
 refine Shut.out hKK _ _ (hs8.kept H2S.out.2 (fun e => by have e' : B = B + 1 := e; omega)) (fun hH3 => ?_)
 clear hKK KK
 try simp only [Act.put, qa]
 refine wpAnyH_done (by kernel_rfl) ?_ _
 refine NoPanic.normal ?_
 have hk := H2S.out.2
 have hown := own_kept HO8.out hk (fun j e e2 => own_has_ne HO8.out H28.out (by decide) j e e2)
 rw [List.nil_append, ← bcells_cat] at hown
 have hb := own_bytes hown HLT.out.2 HLT.out.1 (Nat.le_refl _)
 rw [EI.out, EO.out] at hb
 have hbe := HB8.out.trans (hk.below HBS8.out (fun j e => by have e' : j = B + 1 := e; omega))
 rw [show Below B w = Below w.heap.size w by rw [HBQ.out]] at hbe
 go_wp2_with fail
 refine bodyPost_ret (results_cell_row rfl _ _ (B + 1) 50 #[.slice oa8 64 oc8, .int .u64 (am : Int)] (0, 0) _ rfl H2S.out.1 Tryz.underlying50 rfl (by kernel_rfl)) rfl ?_
 exact ⟨oa8, oc8, rfl, hb, hbe⟩
end Go.Proofs.YtknfbccbdiidjaaGreatDoor
