/- The walk of asset's PutPoint. -/
import Derived.Test.YtniakgoefkbkhaaDoorWs
import Derived.Test.YtniakgoefkbkhaaDoorVLb3
namespace Go.Proofs.YtniakgoefkbkhaaDoor
set_option linter.unusedVariables false
set_option linter.unusedSimpArgs false
open Go.ChangeShapes Go.WideShapes Go.ChangeAt Go.RowKit Go.Maps

def byteI (z : Int) : Nat := (z % 256).toNat
theorem byteI_lt (z : Int) : byteI z < 256 := by unfold byteI; omega
theorem byteI_wrap (z : Int) : IntKind.u8.wrap z = (byteI z : Int) := by rw [IntKind.wrap_u8]; unfold byteI; omega
def pointB (tx : List Nat) (out : Int) : List Nat := tx ++ [byteI (out / 16777216), byteI (out / 65536), byteI (out / 256), byteI out]
def ptCells (tx : List Nat) (out : Int) : List Value := bcells tx ++ [.int .i64 out]
theorem bytes_row4 {w : World} {g q3 q2 q1 q0 : Nat} (h : Has w g 5 #[.int .u8 (q3 : Int), .int .u8 (q2 : Int), .int .u8 (q1 : Int), .int .u8 (q0 : Int)]) (h3 : q3 < 256) (h2 : q2 < 256) (h1 : q1 < 256) (h0 : q0 < 256) : Bytes w w.heap.size (.slice (some ⟨g, 0, none⟩) 4 4) [q3, q2, q1, q0] :=
 ⟨_, _, rfl, Nat.le_refl _, (fun z hz => by simp only [List.mem_cons, List.not_mem_nil, or_false] at hz; rcases hz with rfl | rfl | rfl | rfl <;> assumption), fun _ => ⟨g, 0, rfl, Nat.ne_of_lt h.lt, fun i hi => by
  match i, hi with
  | 0, _ => exact h.cell_is rfl
  | 1, _ => exact h.cell_is rfl
  | 2, _ => exact h.cell_is rfl
  | 3, _ => exact h.cell_is rfl⟩⟩
set_option maxRecDepth 100000 in
set_option maxHeartbeats 4000000 in
theorem ptPut_is (w : World) (tx : List Nat) (htx : IsHash tx) (out : Int) (ho1 : -9223372036854775808 ≤ out) (ho2 : out ≤ 9223372036854775807) :
   Calls Tryd.prog 58 #[.agg (ptCells tx out).toArray] w fun e w' => ∃ a c, e = .returned (.slice a 36 c) ∧ Bytes w' w'.heap.size (.slice a 36 c) (pointB tx out) ∧ Below w.heap.size w w' := by
 obtain ⟨LC, hLC⟩ : ∃ L, L = ptCells tx out := ⟨_, rfl⟩
 rw [← hLC]
 have HB0 := Lib.hid (Has.new w 84 LC.toArray)
 have HLC := Lib.hid hLC
 have HTX := Lib.hid htx
 clear hLC
 go_enter Tryd.func58, Tryd.ntmps58
 go_upto_region 1 with (fail)
 obtain ⟨B, hB⟩ : ∃ b, b = w.heap.size := ⟨_, rfl⟩
 obtain ⟨w1, hw1⟩ : ∃ v, v = w.alloc (.cells LC.toArray 84) := ⟨_, rfl⟩
 have hbx := HB0.out
 have hbb : Below w.heap.size w w1 := by rw [hw1]; exact (Below.refl _ _).alloc (Nat.le_refl _) _
 rw [← hw1] at hbx ⊢
 rw [← hB] at hbx hbb ⊢
 have HBQ := Lib.hid hB
 have hBW : B < w1.drew.heap.size := hbx.lt
 have hS0 : Has w1.drew B 84 LC.toArray ∧ Below B w w1.drew := ⟨hbx, below_drew hbb⟩
 clear hw1 hB hbx hbb HB0
 have HC := Lib.hid (show ∀ v : World, Has v B 84 LC.toArray → v.cell? ⟨B, 32, none⟩ = some (.int .i64 out) from fun v hv => hv.cell_is (by rw [List.getElem?_toArray, HLC.out, ptCells, List.getElem?_append_right (by rw [bcells_length, htx.1]; exact Nat.le_refl _), bcells_length, htx.1]; rfl))
 have HBY := Lib.hid (show ∀ v : World, Has v B 84 LC.toArray → Bytes v v.heap.size (.slice (some ⟨B, 0, none⟩) 32 32) tx from fun v hv => mid_bytes hv 32 HTX.out.1 HTX.out.2 (fun i hi => by rw [List.getElem?_toArray, HLC.out, Nat.zero_add, ptCells, List.getElem?_append_left (by rw [bcells_length, HTX.out.1]; exact hi)]; exact bcells_get _ i (by rw [HTX.out.1]; exact hi)))
 obtain ⟨q3, hq3⟩ : ∃ q, q = byteI (out / 16777216) := ⟨_, rfl⟩
 obtain ⟨q2, hq2⟩ : ∃ q, q = byteI (out / 65536) := ⟨_, rfl⟩
 obtain ⟨q1, hq1⟩ : ∃ q, q = byteI (out / 256) := ⟨_, rfl⟩
 obtain ⟨q0, hq0⟩ : ∃ q, q = byteI out := ⟨_, rfl⟩
 have HQ := Lib.hid (show q3 < 256 ∧ q2 < 256 ∧ q1 < 256 ∧ q0 < 256 from ⟨by rw [hq3]; exact byteI_lt _, by rw [hq2]; exact byteI_lt _, by rw [hq1]; exact byteI_lt _, by rw [hq0]; exact byteI_lt _⟩)
 have HW := Lib.hid (show IntKind.u8.wrap (out / 16777216) = (q3 : Int) ∧ IntKind.u8.wrap (out / 65536) = (q2 : Int) ∧ IntKind.u8.wrap (out / 256) = (q1 : Int) ∧ IntKind.u8.wrap out = (q0 : Int) from ⟨by rw [hq3]; exact byteI_wrap _, by rw [hq2]; exact byteI_wrap _, by rw [hq1]; exact byteI_wrap _, by rw [hq0]; exact byteI_wrap _⟩)
 have HPB := Lib.hid (show pointB tx out = tx ++ [q3, q2, q1, q0] by rw [hq3, hq2, hq1, hq0]; rfl)
 have HL0 := Lib.hid (show 0 + tx.length = 32 by rw [htx.1])
 have HOB := Lib.hid (show ∀ (v : World) (base : Nat) (oa : Option Addr) (oc : Nat), v.ownsRow base 5 1 (.slice oa 36 oc) 36 ([] ++ bcells tx ++ bcells [q3, q2, q1, q0]) → Bytes v v.heap.size (.slice oa 36 oc) (pointB tx out) from fun v base oa oc ho => by
   rw [List.nil_append, ← bcells_cat, ← HPB.out] at ho
   refine own_bytes ho (by rw [HPB.out, List.length_append, HTX.out.1]; rfl) (fun x hx => ?_) (Nat.le_refl _)
   rw [HPB.out] at hx
   obtain ⟨g3, g2, g1, g0⟩ := HQ.out
   rcases List.mem_append.1 hx with h1 | h1
   · exact HTX.out.2 x h1
   · simp only [List.mem_cons, List.not_mem_nil, or_false] at h1
     rcases h1 with rfl | rfl | rfl | rfl <;> assumption)
 clear hq3 hq2 hq1 hq0 htx
 refine wp_region_noPanic ?_
 refine wp_region_held_drew (S := (fun v => Has v B 84 LC.toArray ∧ Below B w v)) (by kernel_rfl) hS0 (fun hH0 => ?_)
 apply tk 0 (v := _) rfl (Or.inl ⟨by kernel_rfl, ?hv⟩) hH0 ?_
 case hv => intro w' hS; have z0 := HC.out w' hS.1; obtain ⟨z1, z2, z3, z4⟩ := HW.out; go_simp; try exact rfl
 simp only [Act.put, qa]
 apply tk 1 (v := _) rfl (Or.inl ⟨by kernel_rfl, ?hv⟩) hH0 ?_
 case hv => intro w' hS; have z0 := HC.out w' hS.1; obtain ⟨z1, z2, z3, z4⟩ := HW.out; go_simp; try exact rfl
 simp only [Act.put, qa]
 apply tk 3 (v := _) rfl (Or.inl ⟨by kernel_rfl, ?hv⟩) hH0 ?_
 case hv => intro w' hS; have z0 := HC.out w' hS.1; obtain ⟨z1, z2, z3, z4⟩ := HW.out; go_simp; try exact rfl
 simp only [Act.put, qa]
 apply tk 4 (v := _) rfl (Or.inl ⟨by kernel_rfl, ?hv⟩) hH0 ?_
 case hv => intro w' hS; have z0 := HC.out w' hS.1; obtain ⟨z1, z2, z3, z4⟩ := HW.out; go_simp; try exact rfl
 simp only [Act.put, qa]
 apply tk 5 (v := _) rfl (Or.inl ⟨by kernel_rfl, ?hv⟩) hH0 ?_
 case hv => intro w' hS; have z0 := HC.out w' hS.1; obtain ⟨z1, z2, z3, z4⟩ := HW.out; go_simp; try exact rfl
 simp only [Act.put, qa]
 apply tk 6 (v := _) rfl (Or.inl ⟨by kernel_rfl, ?hv⟩) hH0 ?_
 case hv => intro w' hS; have z0 := HC.out w' hS.1; obtain ⟨z1, z2, z3, z4⟩ := HW.out; go_simp; try exact rfl
 simp only [Act.put, qa]
 apply tk 7 (v := _) rfl (Or.inl ⟨by kernel_rfl, ?hv⟩) hH0 ?_
 case hv => intro w' hS; have z0 := HC.out w' hS.1; obtain ⟨z1, z2, z3, z4⟩ := HW.out; go_simp; try exact rfl
 simp only [Act.put, qa]
 apply tk 8 (v := _) rfl (Or.inl ⟨by kernel_rfl, ?hv⟩) hH0 ?_
 case hv => intro w' hS; have z0 := HC.out w' hS.1; obtain ⟨z1, z2, z3, z4⟩ := HW.out; go_simp; try exact rfl
 simp only [Act.put, qa]
 apply tk 9 (v := _) rfl (Or.inl ⟨by kernel_rfl, ?hv⟩) hH0 ?_
 case hv => intro w' hS; have z0 := HC.out w' hS.1; obtain ⟨z1, z2, z3, z4⟩ := HW.out; go_simp; try exact rfl
 simp only [Act.put, qa]
 apply tk 10 (v := _) rfl (Or.inl ⟨by kernel_rfl, ?hv⟩) hH0 ?_
 case hv => intro w' hS; have z0 := HC.out w' hS.1; obtain ⟨z1, z2, z3, z4⟩ := HW.out; go_simp; try exact rfl
 simp only [Act.put, qa]
 apply tk 11 (v := _) rfl (Or.inl ⟨by kernel_rfl, ?hv⟩) hH0 ?_
 case hv => intro w' hS; have z0 := HC.out w' hS.1; obtain ⟨z1, z2, z3, z4⟩ := HW.out; go_simp; try exact rfl
 simp only [Act.put, qa]
 apply tk 12 (v := _) rfl (Or.inl ⟨by kernel_rfl, ?hv⟩) hH0 ?_
 case hv => intro w' hS; have z0 := HC.out w' hS.1; obtain ⟨z1, z2, z3, z4⟩ := HW.out; go_simp; try exact rfl
 simp only [Act.put, qa]
 apply tk 13 (v := _) rfl (Or.inl ⟨by kernel_rfl, ?hv⟩) hH0 ?_
 case hv => intro w' hS; have z0 := HC.out w' hS.1; obtain ⟨z1, z2, z3, z4⟩ := HW.out; go_simp; try exact rfl
 simp only [Act.put, qa]
 apply tk 14 (v := _) rfl (Or.inl ⟨by kernel_rfl, ?hv⟩) hH0 ?_
 case hv => intro w' hS; have z0 := HC.out w' hS.1; obtain ⟨z1, z2, z3, z4⟩ := HW.out; go_simp; try exact rfl
 simp only [Act.put, qa]
 apply tk 15 (v := _) rfl (Or.inl ⟨by kernel_rfl, ?hv⟩) hH0 ?_
 case hv => intro w' hS; have z0 := HC.out w' hS.1; obtain ⟨z1, z2, z3, z4⟩ := HW.out; go_simp; try exact rfl
 simp only [Act.put, qa]
 apply tk 16 (v := _) rfl (Or.inl ⟨by kernel_rfl, ?hv⟩) hH0 ?_
 case hv => intro w' hS; have z0 := HC.out w' hS.1; obtain ⟨z1, z2, z3, z4⟩ := HW.out; go_simp; try exact rfl
 simp only [Act.put, qa]
 apply tk 17 (v := _) rfl (Or.inl ⟨by kernel_rfl, ?hv⟩) hH0 ?_
 case hv => intro w' hS; have z0 := HC.out w' hS.1; obtain ⟨z1, z2, z3, z4⟩ := HW.out; go_simp; try exact rfl
 simp only [Act.put, qa]
 refine wpAnyH_ready (rs := [2, 18]) (by kernel_rfl) (by simp) ?_
 refine AllReadyH.cons rfl (fun KK hKK => ?_) (AllReadyH.cons rfl (fun KK hKK => ?_) AllReadyH.nil)
 · refine step_append_bytes rfl _ (.tmp 4) rfl B (.slice none 0 0) 0 [] rfl (World.ownsRow_nil _ _ _ _) _ _ tx rfl (HBY.out _ hH0.1) (by have := HL0.out; omega) (Nat.le_of_lt hBW) ?_
   intro oa2 oc2 x2 hown hgr
   have hsx2 : Has x2 B 84 LC.toArray ∧ Below B w x2 := ⟨hH0.1.grown hgr (fun e => by cases e), hH0.2.grown hgr (Nat.le_of_lt hBW) (fun k e => by cases e)⟩
   try replace hq4 := hq4.grown hgr (fun e => by cases e)
   rw [HL0.out] at hown ⊢
   replace hBW : B < x2.heap.size := Nat.lt_of_lt_of_le hBW (Kept.of_grown hgr).size
   clear hgr
   refine Shut.out hKK _ _ hsx2 (fun hH1 => ?_)
   clear hKK KK
   try simp only [Act.put, qa]
   refine wpAnyH_ready (rs := [18]) (by kernel_rfl) (by simp) ?_
   refine AllReadyH.cons rfl (fun KK hKK => ?_) AllReadyH.nil
   refine step_buildN rfl 111 5 4 _ rfl _ 1 1 Tryd.underlying111 info_u8 [.tmp 9, .tmp 13, .tmp 17, .tmp 20] rfl [.int .u8 (q3 : Int), .int .u8 (q2 : Int), .int .u8 (q1 : Int), .int .u8 (q0 : Int)] rfl (by simp [Value.cells]) rfl rfl (by decide) (by decide) (by decide) ?_
   obtain ⟨x18, hx18⟩ : ∃ y, y = x2.alloc (.cells #[.int .u8 (q3 : Int), .int .u8 (q2 : Int), .int .u8 (q1 : Int), .int .u8 (q0 : Int)] 5) := ⟨_, rfl⟩
   first | rw [← hx18] | (change KK _ (x2.alloc (.cells #[.int .u8 (q3 : Int), .int .u8 (q2 : Int), .int .u8 (q1 : Int), .int .u8 (q0 : Int)] 5)); rw [← hx18])
   have hnx18 : Below x2.heap.size x2 x18 := by rw [hx18]; exact (Below.refl _ _).alloc (Nat.le_refl _) _
   have hq4 : Has x18 x2.heap.size 5 #[.int .u8 (q3 : Int), .int .u8 (q2 : Int), .int .u8 (q1 : Int), .int .u8 (q0 : Int)] := by rw [hx18]; exact Has.new _ _ _
   have hq4b : B < x2.heap.size := hBW
   obtain ⟨Q, hQ⟩ : ∃ g, g = x2.heap.size := ⟨_, rfl⟩
   first | rw [← hQ] | (have hQ2 : w1.heap.size = Q := hQ.symm; rw [hQ2]) | skip
   rw [← hQ] at hq4
   rw [← hQ] at hq4b
   clear hQ
   have hsx18 : Has x18 B 84 LC.toArray ∧ Below B w x18 := ⟨hH1.1.below hnx18 hH1.1.lt, hH1.2.trans (hnx18.mono (Nat.le_of_lt hBW))⟩
   try replace hown := own_kept hown (Kept.of_below (S := fun _ => False) hnx18) (fun _ _ e => e)
   try replace hB2 := Nat.le_trans hB2 hnx18.size
   replace hBW : B < x18.heap.size := Nat.lt_of_lt_of_le hBW hnx18.size
   clear hx18
   refine Shut.out hKK _ _ hsx18 (fun hH2 => ?_)
   clear hKK KK
   try simp only [Act.put, qa]
   refine wpAnyH_ready (rs := [19]) (by kernel_rfl) (by simp) ?_
   refine AllReadyH.cons rfl (fun KK hKK => ?_) AllReadyH.nil
   refine step_append_bytes rfl (.tmp 5) (.tmp 21) rfl _ _ 32 ([] ++ bcells tx) rfl hown _ _ [q3, q2, q1, q0] rfl (bytes_row4 hq4 HQ.out.1 HQ.out.2.1 HQ.out.2.2.1 HQ.out.2.2.2) (by show 32 + 4 ≤ 100000000; omega) (Nat.le_of_lt hBW) ?_
   intro oa19 oc19 x19 hown2 hgr2
   have hsx19 : Has x19 B 84 LC.toArray ∧ Below B w x19 := ⟨hH2.1.grown hgr2 (fun e => own_has_ne hown hH2.1 (by decide) B e.symm rfl), hH2.2.grown hgr2 (Nat.le_of_lt hBW) (own_blk hown)⟩
   have hfin := HOB.out _ _ _ _ hown2
   refine Shut.out hKK _ _ hsx19 (fun hH3 => ?_)
   clear hKK KK
   try simp only [Act.put, qa]
   apply tk 20 (v := _) rfl (Or.inl ⟨by kernel_rfl, ?hv⟩) hH3 ?_
   case hv => intro w' hS; have z0 := HC.out w' hS.1; obtain ⟨z1, z2, z3, z4⟩ := HW.out; go_simp; try exact rfl
   simp only [Act.put, qa]
   refine wpAnyH_done (by kernel_rfl) ?_ _
   refine NoPanic.normal ?_
   have HF := Lib.hid hfin
   have HBF := Lib.hid hsx19.2
   clear hfin hsx19 hgr2 hown2
   go_wp2_with fail
   go_ret
   exact ⟨_, _, rfl, HF.out, by have := HBF.out; rwa [HBQ.out] at this⟩
 · refine step_buildN rfl 111 5 4 _ rfl _ 1 1 Tryd.underlying111 info_u8 [.tmp 9, .tmp 13, .tmp 17, .tmp 20] rfl [.int .u8 (q3 : Int), .int .u8 (q2 : Int), .int .u8 (q1 : Int), .int .u8 (q0 : Int)] rfl (by simp [Value.cells]) rfl rfl (by decide) (by decide) (by decide) ?_
   obtain ⟨x18, hx18⟩ : ∃ y, y = w1.drew.alloc (.cells #[.int .u8 (q3 : Int), .int .u8 (q2 : Int), .int .u8 (q1 : Int), .int .u8 (q0 : Int)] 5) := ⟨_, rfl⟩
   first | rw [← hx18] | (change KK _ (w1.drew.alloc (.cells #[.int .u8 (q3 : Int), .int .u8 (q2 : Int), .int .u8 (q1 : Int), .int .u8 (q0 : Int)] 5)); rw [← hx18])
   have hnx18 : Below w1.drew.heap.size w1.drew x18 := by rw [hx18]; exact (Below.refl _ _).alloc (Nat.le_refl _) _
   have hq4 : Has x18 w1.drew.heap.size 5 #[.int .u8 (q3 : Int), .int .u8 (q2 : Int), .int .u8 (q1 : Int), .int .u8 (q0 : Int)] := by rw [hx18]; exact Has.new _ _ _
   have hq4b : B < w1.drew.heap.size := hBW
   obtain ⟨Q, hQ⟩ : ∃ g, g = w1.drew.heap.size := ⟨_, rfl⟩
   first | rw [← hQ] | (have hQ2 : w1.heap.size = Q := hQ.symm; rw [hQ2]) | skip
   rw [← hQ] at hq4
   rw [← hQ] at hq4b
   clear hQ
   have hsx18 : Has x18 B 84 LC.toArray ∧ Below B w x18 := ⟨hH0.1.below hnx18 hH0.1.lt, hH0.2.trans (hnx18.mono (Nat.le_of_lt hBW))⟩
   try replace hown := own_kept hown (Kept.of_below (S := fun _ => False) hnx18) (fun _ _ e => e)
   try replace hB2 := Nat.le_trans hB2 hnx18.size
   replace hBW : B < x18.heap.size := Nat.lt_of_lt_of_le hBW hnx18.size
   clear hx18
   refine Shut.out hKK _ _ hsx18 (fun hH1 => ?_)
   clear hKK KK
   try simp only [Act.put, qa]
   refine wpAnyH_ready (rs := [2]) (by kernel_rfl) (by simp) ?_
   refine AllReadyH.cons rfl (fun KK hKK => ?_) AllReadyH.nil
   refine step_append_bytes rfl _ (.tmp 4) rfl B (.slice none 0 0) 0 [] rfl (World.ownsRow_nil _ _ _ _) _ _ tx rfl (HBY.out _ hH1.1) (by have := HL0.out; omega) (Nat.le_of_lt hBW) ?_
   intro oa2 oc2 x2 hown hgr
   have hsx2 : Has x2 B 84 LC.toArray ∧ Below B w x2 := ⟨hH1.1.grown hgr (fun e => by cases e), hH1.2.grown hgr (Nat.le_of_lt hBW) (fun k e => by cases e)⟩
   try replace hq4 := hq4.grown hgr (fun e => by cases e)
   rw [HL0.out] at hown ⊢
   replace hBW : B < x2.heap.size := Nat.lt_of_lt_of_le hBW (Kept.of_grown hgr).size
   clear hgr
   refine Shut.out hKK _ _ hsx2 (fun hH2 => ?_)
   clear hKK KK
   try simp only [Act.put, qa]
   refine wpAnyH_ready (rs := [19]) (by kernel_rfl) (by simp) ?_
   refine AllReadyH.cons rfl (fun KK hKK => ?_) AllReadyH.nil
   refine step_append_bytes rfl (.tmp 5) (.tmp 21) rfl _ _ 32 ([] ++ bcells tx) rfl hown _ _ [q3, q2, q1, q0] rfl (bytes_row4 hq4 HQ.out.1 HQ.out.2.1 HQ.out.2.2.1 HQ.out.2.2.2) (by show 32 + 4 ≤ 100000000; omega) (Nat.le_of_lt hBW) ?_
   intro oa19 oc19 x19 hown2 hgr2
   have hsx19 : Has x19 B 84 LC.toArray ∧ Below B w x19 := ⟨hH2.1.grown hgr2 (fun e => own_has_ne hown hH2.1 (by decide) B e.symm rfl), hH2.2.grown hgr2 (Nat.le_of_lt hBW) (own_blk hown)⟩
   have hfin := HOB.out _ _ _ _ hown2
   refine Shut.out hKK _ _ hsx19 (fun hH3 => ?_)
   clear hKK KK
   try simp only [Act.put, qa]
   apply tk 20 (v := _) rfl (Or.inl ⟨by kernel_rfl, ?hv⟩) hH3 ?_
   case hv => intro w' hS; have z0 := HC.out w' hS.1; obtain ⟨z1, z2, z3, z4⟩ := HW.out; go_simp; try exact rfl
   simp only [Act.put, qa]
   refine wpAnyH_done (by kernel_rfl) ?_ _
   refine NoPanic.normal ?_
   have HF := Lib.hid hfin
   have HBF := Lib.hid hsx19.2
   clear hfin hsx19 hgr2 hown2
   go_wp2_with fail
   go_ret
   exact ⟨_, _, rfl, HF.out, by have := HBF.out; rwa [HBQ.out] at this⟩
end Go.Proofs.YtniakgoefkbkhaaDoor

