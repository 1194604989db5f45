/- The walk of leaf's Encode. -/
import Derived.Test.YtknfbccbdiidjaaGreatDoorWu
import Derived.Test.YtknfbccbdiidjaaGreatDoorLLb2
import Derived.Test.YtknfbccbdiidjaaGreatDoorLTv7
namespace Go.Proofs.YtknfbccbdiidjaaGreatDoor
set_option linter.unusedVariables false
set_option linter.unusedSimpArgs false
open Go.ChangeShapes Go.WideShapes Go.ChangeAt Go.RowKit Go.Maps

def lenc (l : LeafT) : Except Nat (List Nat) := if leafBad l = true then .error 1 else .ok (leafB l)
theorem mid_bytes {w : World} {B o : Nat} {t : TypeId} {cs : Array Value} {l : List Nat} (h : Has w B t cs) (n : Nat) (hn : l.length = n) (hlt : ∀ x ∈ l, x < 256) (hc : ∀ i, i < n → cs[o + i]? = some (.int .u8 (l.getD i 0 : Nat))) : Bytes w w.heap.size (.slice (some ⟨B, o, none⟩) n n) l :=
 ⟨_, _, by rw [hn], by rw [hn]; exact Nat.le_refl _, hlt, fun _ => ⟨B, o, rfl, Nat.ne_of_lt h.lt, fun i hi => h.cell_is (hc i (by omega))⟩⟩
theorem leaf_three {w : World} {B : Nat} {l : LeafT} (hl : l.ok) (h : Has w B 32 l.cells.toArray) :
   Bytes w w.heap.size (.slice (some ⟨B, 0, none⟩) 32 32) l.id ∧ Bytes w w.heap.size (.slice (some ⟨B, 33, none⟩) 32 32) l.ow ∧ Bytes w w.heap.size (.slice (some ⟨B, 66, none⟩) 32 32) l.sp.h := by
 refine ⟨mid_bytes h 32 hl.id.1 hl.id.2 (fun i hi => ?_), mid_bytes h 32 hl.ow.1 hl.ow.2 (fun i hi => ?_), mid_bytes h 32 hl.sp.1 hl.sp.2 (fun i hi => ?_)⟩
 · rw [List.getElem?_toArray, Nat.zero_add]; exact LeafT.at_id hl i hi
 · rw [List.getElem?_toArray]; exact LeafT.at_ow hl i hi
 · rw [List.getElem?_toArray, LeafT.at_sp hl, ndV, ncells, List.getElem?_append_left (by rw [bcells_length, hl.sp.1]; exact hi)]
   exact bcells_get _ i (by rw [hl.sp.1]; exact hi)
def recM5 (l : LeafT) (B Q : Nat) (a1 oa : Option Addr) (oc : Nat) : List RecM := [⟨0, some ⟨B, 0, none⟩, l.id, 32⟩, ⟨2, a1, eight l.am, 8⟩, ⟨4, some ⟨B, 33, none⟩, l.ow, 32⟩, ⟨6, some ⟨Q, 0, none⟩, [plB l], 1⟩, ⟨8, oa, l.sp.h ++ eight l.sp.s, oc⟩]
theorem recM5_r (l : LeafT) (B Q : Nat) (a1 oa : Option Addr) (oc : Nat) : (recM5 l B Q a1 oa oc).map RecM.r = recsOf l := rfl
theorem recM5_cells (l : LeafT) (h : l.ok) (B Q : Nat) (a1 oa : Option Addr) (oc : Nat) : [Value.int .u64 0, .slice (some ⟨B, 0, none⟩) 32 32, .int .u64 2, .slice a1 8 8, .int .u64 4, .slice (some ⟨B, 33, none⟩) 32 32, .int .u64 6, .slice (some ⟨Q, 0, none⟩) 1 1, .int .u64 8, .slice oa 40 oc] = (recM5 l B Q a1 oa oc).flatMap RecM.cells := by
 simp [recM5, RecM.cells, h.id.1, h.ow.1, h.sp.1, eight_len']
theorem recs_five {w : World} (l : LeafT) (h : l.ok) {B Q R : Nat} {a1 oa : Option Addr} {oc : Nat} (hr : Has w R 139 ((recM5 l B Q a1 oa oc).flatMap RecM.cells).toArray)
   (h0 : Bytes w w.heap.size (.slice (some ⟨B, 0, none⟩) 32 32) l.id) (h1 : Bytes w w.heap.size (.slice a1 8 8) (eight l.am)) (h2 : Bytes w w.heap.size (.slice (some ⟨B, 33, none⟩) 32 32) l.ow) (h3 : Bytes w w.heap.size (.slice (some ⟨Q, 0, none⟩) 1 1) [plB l]) (h4 : Bytes w w.heap.size (.slice oa 40 oc) (l.sp.h ++ eight l.sp.s)) :
   RecsAt w (some ⟨R, 0, none⟩) 5 (recM5 l B Q a1 oa oc) := by
 refine ⟨rows_has (xs := recM5 l B Q a1 oa oc) hr (fun x _ => rfl), fun x hx => ?_⟩
 have e4 : (l.sp.h ++ eight l.sp.s).length = 40 := by rw [List.length_append, h.sp.1, eight_len']
 simp only [recM5, List.mem_cons, List.not_mem_nil, or_false] at hx
 rcases hx with rfl | rfl | rfl | rfl | rfl
 · exact ⟨by dsimp only; omega, by dsimp only; rw [h.id.1]; omega, by dsimp only; rw [h.id.1]; exact h0⟩
 · exact ⟨by dsimp only; omega, by dsimp only; rw [eight_len']; omega, by dsimp only; rw [eight_len']; exact h1⟩
 · exact ⟨by dsimp only; omega, by dsimp only; rw [h.ow.1]; omega, by dsimp only; rw [h.ow.1]; exact h2⟩
 · exact ⟨by dsimp only; omega, by show 1 ≤ _; omega, h3⟩
 · exact ⟨by dsimp only; omega, by dsimp only; rw [e4]; omega, by dsimp only; rw [e4]; exact h4⟩
set_option maxRecDepth 100000 in
set_option maxHeartbeats 4000000 in
theorem lfEncode_is (w : World) (l : LeafT) (h : l.ok) : Calls Tryz.prog 55 #[.agg l.cells.toArray] w (TvP w (lenc l)) := by
 obtain ⟨LC, hLC⟩ : ∃ L, L = l.cells := ⟨_, rfl⟩
 have Bd := Hh (fun v => leafCheck_is v l h)
 rw [← hLC] at Bd ⊢
 have Bh := Hh (show (Tryz.prog.info? 32).map (·.size) = some LC.toArray.size by rw [hLC, List.size_toArray, LeafT.len h]; kernel_rfl)
 have A9 := Hh hLC
 have As := Hh h
 have Bb := Hh (Has.new w 32 LC.toArray)
 clear hLC
 obtain ⟨E, hE⟩ : ∃ e, e = lenc l := ⟨_, rfl⟩
 rw [← hE]
 have HE := Hh hE
 clear hE
 go_enter Tryz.func55, Tryz.ntmps55
 go_wp2_with (refine wpList_load_row rfl 32 (.tmp 1) rfl w.heap.size rfl 32 LC.toArray (0, 0) _ Bb.o Tryz.underlying32 rfl Bh.o ?_)
 refine (Bd.o _).mono ?_
 rintro _ w1 ⟨rfl, hw1⟩
 have hbx : Has w1 w.heap.size 32 LC.toArray := by rw [hw1]; exact Bb.o.alloc _
 have hbb : Below w.heap.size w w1 := by rw [hw1]; exact ((Below.refl _ _).alloc (Nat.le_refl _) _).alloc (by simp) _
 have Bf := Hh hbx
 have Bc := Hh hbb
 clear hw1 hbx hbb Bd
 cases hbad : leafBad l with
 | true =>
   have he1 : leafE l = 1 := by unfold leafE; rw [hbad]; rfl
   have A5 := Hh (show E = .error 1 by rw [HE.o]; unfold lenc; rw [hbad]; rfl)
   rw [he1]
   clear hbad he1
   go_wp2_with fail
   go_ret2
   rw [A5.o]
   exact ⟨rfl, Bc.o⟩
 | false =>
 have he1 : leafE l = 0 := by unfold leafE; rw [hbad]; rfl
 have A5 := Hh (show E = .ok (leafB l) by rw [HE.o]; unfold lenc; rw [hbad]; rfl)
 rw [he1]
 clear hbad he1 HE
 go_upto_region 4 with (fail)
 obtain ⟨B, hB⟩ : ∃ b, b = w.heap.size := ⟨_, rfl⟩
 have A0 := Hh hB
 have hbx := Bf.o
 have hbb := Bc.o
 rw [← hB] at hbx hbb ⊢
 have hBW : B < w1.drew.heap.size := hbx.lt
 have hS0 : Has w1.drew B 32 LC.toArray ∧ Below B w w1.drew := ⟨hbx, below_drew hbb⟩
 clear hB hbx hbb Bf Bc Bb
 obtain ⟨am, ham⟩ : ∃ x, x = l.am := ⟨_, rfl⟩
 obtain ⟨ss, hss⟩ : ∃ x, x = l.sp.s := ⟨_, rfl⟩
 obtain ⟨pl, hpl⟩ : ∃ x, x = l.pl := ⟨_, rfl⟩
 obtain ⟨q, hq⟩ : ∃ q, q = plB l := ⟨_, rfl⟩
 have hwr : IntKind.u8.wrap l.pl = (plB l : Int) := by rw [IntKind.wrap_u8]; unfold plB; omega
 rw [← hq, ← hpl] at hwr
 have Ax : q < 256 := by rw [hq]; exact plB_lt l
 have Be := Hh (show am < 18446744073709551616 by rw [ham]; exact h.am)
 have Ba := Hh (show ss < 18446744073709551616 by rw [hss]; exact h.ss)
 have HC := Hh (show ∀ v : World, Has v B 32 LC.toArray → v.cell? ⟨B, 65, none⟩ = some (.int .i64 pl) ∧ v.cell? ⟨B, 32, none⟩ = some (.int .u64 (am : Int)) ∧ v.cell? ⟨B, 98, none⟩ = some (.int .u64 (ss : Int)) from fun v hv =>
   ⟨hv.cell_is (by rw [List.getElem?_toArray, A9.o, hpl]; exact LeafT.at_pl As.o), hv.cell_is (by rw [List.getElem?_toArray, A9.o, ham]; exact LeafT.at_am As.o), hv.cell_is (by rw [List.getElem?_toArray, A9.o, hss]; exact LeafT.at_ss As.o)⟩)
 have A4 := Hh (show ∀ (v : World), Has v B 32 LC.toArray → Bytes v v.heap.size (.slice (some ⟨B, 0, none⟩) 32 32) l.id ∧ Bytes v v.heap.size (.slice (some ⟨B, 33, none⟩) 32 32) l.ow ∧ Bytes v v.heap.size (.slice (some ⟨B, 66, none⟩) 32 32) l.sp.h from fun v hv => leaf_three As.o (by rw [← A9.o]; exact hv))
 have A3 := Hh (show 0 + l.sp.h.length = 32 by rw [h.sp.1])
 have A1 := Hh (show 32 + (eight ss).length = 40 by rw [eight_len'])
 have Au := Hh hwr
 have EQ := Hh hq
 have A7 := Hh ham
 have Bg := Hh hss
 have A8 := Hh (show ∀ (v : World) (base : Nat) (oa : Option Addr) (oc : Nat), v.ownsRow base 5 1 (.slice oa 40 oc) 40 ([] ++ bcells l.sp.h ++ bcells (eight ss)) → Bytes v v.heap.size (.slice oa 40 oc) (l.sp.h ++ eight l.sp.s) from fun v base oa oc ho => by
   rw [List.nil_append, ← bcells_cat, Bg.o] at ho
   exact own_bytes ho (by rw [List.length_append, As.o.sp.1, eight_len']) (fun x hx => (List.mem_append.1 hx).elim (As.o.sp.2 x) (eight_lt' _ x)) (Nat.le_refl _))
 clear hwr hq hpl ham hss h
 refine wp_region_noPanic ?_
 refine wp_region_held_drew (S := (fun v => Has v B 32 LC.toArray ∧ Below B w v)) (by kernel_rfl) hS0 (fun hH0 => ?_)
 apply tl 0 rfl ?hv hH0 ?_
 case hv => intro w' hS; go_simp; try rfl
 simp only [qc]
 apply tl 1 rfl ?hv hH0 ?_
 case hv => intro w' hS; obtain ⟨z0, z1, z2⟩ := HC.o w' hS.1; have z3 := Au.o; go_simp; try rfl
 simp only [qc]
 apply tl 2 rfl ?hv hH0 ?_
 case hv => intro w' hS; obtain ⟨z0, z1, z2⟩ := HC.o w' hS.1; have z3 := Au.o; go_simp; try rfl
 simp only [qc]
 apply tl 3 rfl ?hv hH0 ?_
 case hv => intro w' hS; go_simp; try rfl
 simp only [qc]
 apply tl 4 rfl ?hv hH0 ?_
 case hv => intro w' hS; obtain ⟨z0, z1, z2⟩ := HC.o w' hS.1; have z3 := Au.o; go_simp; try rfl
 simp only [qc]
 apply tl 7 rfl ?hv hH0 ?_
 case hv => intro w' hS; go_simp; try rfl
 simp only [qc]
 apply tl 8 rfl ?hv hH0 ?_
 case hv => intro w' hS; obtain ⟨z0, z1, z2⟩ := HC.o w' hS.1; have z3 := Au.o; go_simp; try rfl
 simp only [qc]
 apply tl 9 rfl ?hv hH0 ?_
 case hv => intro w' hS; obtain ⟨z0, z1, z2⟩ := HC.o w' hS.1; have z3 := Au.o; go_simp; try rfl
 simp only [qc]
 apply tl 10 rfl ?hv hH0 ?_
 case hv => intro w' hS; go_simp; try rfl
 simp only [qc]
 apply tl 11 rfl ?hv hH0 ?_
 case hv => intro w' hS; obtain ⟨z0, z1, z2⟩ := HC.o w' hS.1; have z3 := Au.o; go_simp; try rfl
 simp only [qc]
 apply tl 12 rfl ?hv hH0 ?_
 case hv => intro w' hS; obtain ⟨z0, z1, z2⟩ := HC.o w' hS.1; have z3 := Au.o; go_simp; try rfl
 simp only [qc]
 apply tl 15 rfl ?hv hH0 ?_
 case hv => intro w' hS; go_simp; try rfl
 simp only [qc]
 apply tl 16 rfl ?hv hH0 ?_
 case hv => intro w' hS; go_simp; try rfl
 simp only [qc]
 apply tl 17 rfl ?hv hH0 ?_
 case hv => intro w' hS; obtain ⟨z0, z1, z2⟩ := HC.o w' hS.1; have z3 := Au.o; go_simp; try rfl
 simp only [qc]
 apply tl 19 rfl ?hv hH0 ?_
 case hv => intro w' hS; go_simp; try rfl
 simp only [qc]
 apply tl 20 rfl ?hv hH0 ?_
 case hv => intro w' hS; go_simp; try rfl
 simp only [qc]
 apply tl 21 rfl ?hv hH0 ?_
 case hv => intro w' hS; obtain ⟨z0, z1, z2⟩ := HC.o w' hS.1; have z3 := Au.o; go_simp; try rfl
 simp only [qc]
 refine rdy [5, 13] (AllReadyH.cons rfl (fun KK hKK => ?_) (ar1 rfl fun KK hKK => ?_))
 · go_simp
   refine (lfEight_is _ am Be.o).mono ?_
   rintro _ x5 ⟨ax5, rfl, Az, Am⟩
   have A6 : Has x5 B 32 LC.toArray ∧ Below B w x5 := ⟨hH0.1.below Am hH0.1.lt, hH0.2.trans (Am.mono (Nat.le_of_lt hBW))⟩
   try replace hq1 := hq1.below Am hq1.lt
   try replace Ad := own_kept Ad (Kept.of_below (S := fun _ => False) Am) (fun _ _ e => e)
   try replace he2 := he2.alive Am Am.size
   try replace hb5 := hb5.trans (Am.mono hb5.size)
   try replace Ae := Ae.alive Am Am.size
   try replace hB18 := Nat.le_trans hB18 Am.size
   replace hBW : B < x5.heap.size := Nat.lt_of_lt_of_le hBW Am.size
   have he1 := Az
   have hb5 := Below.refl x5.heap.size x5
   have hB5 : B ≤ x5.heap.size := Nat.le_of_lt hBW
   have he5 := he1
   clear he1
   refine hKK _ _ A6 fun hH1 => ?_
   clear hKK KK
   try simp only [qc]
   apply tl 6 rfl ?hv hH1 ?_
   case hv => intro w' hS; obtain ⟨z0, z1, z2⟩ := HC.o w' hS.1; have z3 := Au.o; go_simp; try rfl
   simp only [qc]
   refine rdy [13, 18] (AllReadyH.cons rfl (fun KK hKK => ?_) (ar1 rfl fun KK hKK => ?_))
   · refine step_buildN rfl 48 5 1 _ rfl _ 1 1 Tryz.underlying48 info_u8 [.tmp 22] rfl [.int .u8 (q : Int)] rfl (by simp [Value.cells]) rfl rfl (by decide) (by decide) (by decide) ?_
     try rw [show [Value.int IntKind.u8 (q : Int)].flatMap (fun v => v.cells.toList) = [.int .u8 (q : Int)] from rfl]
     try have Ag := fun k e => Nat.ne_of_lt (own_lt Ad k e)
     obtain ⟨x13, Ak⟩ : ∃ y, y = x5.alloc (.cells #[.int .u8 (q : Int)] 5) := ⟨_, rfl⟩
     first | rw [← Ak] | (change KK _ (x5.alloc (.cells #[.int .u8 (q : Int)] 5)); rw [← Ak])
     have Ab : Below x5.heap.size x5 x13 := by rw [Ak]; exact (Below.refl _ _).alloc (Nat.le_refl _) _
     have hq1 : Has x13 x5.heap.size 5 #[.int .u8 (q : Int)] := by rw [Ak]; exact Has.new _ _ _
     have Av : B < x5.heap.size := hBW
     obtain ⟨Q, hQ⟩ : ∃ g, g = x5.heap.size := ⟨_, rfl⟩
     first | rw [← hQ] | (have hQ2 : w1.heap.size = Q := hQ.symm; rw [hQ2]) | skip
     rw [← hQ] at hq1
     rw [← hQ] at Av
     try rw [← hQ] at Ag
     clear hQ
     have Ap : Has x13 B 32 LC.toArray ∧ Below B w x13 := ⟨hH1.1.below Ab hH1.1.lt, hH1.2.trans (Ab.mono (Nat.le_of_lt hBW))⟩
     try replace he1 := he1.alive Ab Ab.size
     try replace Ad := own_kept Ad (Kept.of_below (S := fun _ => False) Ab) (fun _ _ e => e)
     try replace he2 := he2.alive Ab Ab.size
     try replace hb5 := hb5.trans (Ab.mono hb5.size)
     try replace Ae := Ae.alive Ab Ab.size
     try replace hB18 := Nat.le_trans hB18 Ab.size
     replace hBW : B < x13.heap.size := Nat.lt_of_lt_of_le hBW Ab.size
     clear Ak
     refine hKK _ _ Ap fun hH2 => ?_
     clear hKK KK
     try simp only [qc]
     apply tl 14 rfl ?hv hH2 ?_
     case hv => intro w' hS; obtain ⟨z0, z1, z2⟩ := HC.o w' hS.1; have z3 := Au.o; go_simp; try rfl
     simp only [qc]
     refine rdy [18] (ar1 rfl fun KK hKK => ?_)
     refine step_append_bytes rfl _ (.tmp 27) rfl x13.heap.size (.slice none 0 0) 0 [] rfl (World.ownsRow_nil _ _ _ _) _ _ l.sp.h rfl (A4.o _ hH2.1).2.2 (by have := A3.o; omega) (Nat.le_refl _) ?_
     intro oa18 oc18 x18 Ad hgr
     try have Ag : ∀ k, (Value.slice oa18 (0 + l.sp.h.length) oc18).ownBlock = some k → k ≠ Q := fun k e => by have h1 := own_blk Ad k e; have h2 := hq1.lt; omega
     have Ay : Has x18 B 32 LC.toArray ∧ Below B w x18 := ⟨hH2.1.grown hgr (fun e => by cases e), hH2.2.grown hgr (Nat.le_of_lt hBW) (fun k e => by cases e)⟩
     have hN18 : x5.heap.size ≤ x13.heap.size := hb5.size
     replace hb5 := hb5.grown hgr hb5.size (fun k e => by cases e)
     try replace hq1 := hq1.grown hgr (fun e => by cases e)
     try rw [A3.o] at Ag
     rw [A3.o] at Ad ⊢
     have hB18 := (Kept.of_grown hgr).size
     replace hBW : B < x18.heap.size := Nat.lt_of_lt_of_le hBW hB18
     clear hgr
     refine hKK _ _ Ay fun hH3 => ?_
     clear hKK KK
     try simp only [qc]
     refine rdy [22] (ar1 rfl fun KK hKK => ?_)
     go_simp
     refine (lfEight_is _ ss Ba.o).mono ?_
     rintro _ x22 ⟨ax22, rfl, Ao, Ac⟩
     have Ar : Has x22 B 32 LC.toArray ∧ Below B w x22 := ⟨hH3.1.below Ac hH3.1.lt, hH3.2.trans (Ac.mono (Nat.le_of_lt hBW))⟩
     try replace he1 := he1.alive Ac Ac.size
     try replace hq1 := hq1.below Ac hq1.lt
     try replace Ad := own_kept Ad (Kept.of_below (S := fun _ => False) Ac) (fun _ _ e => e)
     try replace hb5 := hb5.trans (Ac.mono hb5.size)
     try replace Ae := Ae.alive Ac Ac.size
     try replace hB18 := Nat.le_trans hB18 Ac.size
     replace hBW : B < x22.heap.size := Nat.lt_of_lt_of_le hBW Ac.size
     have he2 := Ao
     refine hKK _ _ Ar fun hH4 => ?_
     clear hKK KK
     try simp only [qc]
     refine rdy [23] (ar1 rfl fun KK hKK => ?_)
     refine step_append_bytes rfl (.tmp 28) (.tmp 32) rfl _ _ 32 ([] ++ bcells l.sp.h) rfl Ad _ _ (eight ss) rfl he2 (by have := A1.o; omega) hB18 ?_
     intro oa23 oc23 x23 Ai Af
     have Aq : Has x23 B 32 LC.toArray ∧ Below B w x23 := ⟨hH4.1.grown Af (fun e => own_has_ne Ad hH4.1 (by decide) B e.symm rfl), hH4.2.grown Af (Nat.le_of_lt hBW) (fun k e => Nat.le_trans (Nat.le_trans hB5 hN18) (own_blk Ad k e))⟩
     replace hb5 := hb5.grown Af hb5.size (fun k e => Nat.le_trans hN18 (own_blk Ad k e))
     try replace hq1 := hq1.grown Af (fun e => Ag Q e.symm rfl)
     rw [A1.o] at Ai ⊢
     have Ae := A8.o _ _ _ _ Ai
     replace hBW : B < x23.heap.size := Nat.lt_of_lt_of_le hBW (Kept.of_grown Af).size
     clear Af Ai Ad he2
     refine hKK _ _ Aq fun hH5 => ?_
     clear hKK KK
     try simp only [qc]
     apply tl 24 rfl ?hv hH5 ?_
     case hv => intro w' hS; obtain ⟨z0, z1, z2⟩ := HC.o w' hS.1; have z3 := Au.o; go_simp; try rfl
     simp only [qc]
     refine rdy [25] (ar1 rfl fun KK hKK => ?_)
     refine step_buildN rfl 136 139 5 _ rfl _ 2 32 Tryz.underlying136 info_rec [.tmp 12, .tmp 16, .tmp 19, .tmp 24, .tmp 34] rfl [.agg #[.int .u64 0, .slice (some ⟨B, 0, none⟩) 32 32], .agg #[.int .u64 2, .slice ax5 8 8], .agg #[.int .u64 4, .slice (some ⟨B, 33, none⟩) 32 32], .agg #[.int .u64 6, .slice (some ⟨Q, 0, none⟩) 1 1], .agg #[.int .u64 8, .slice oa23 40 oc23]] rfl (by simp [Value.cells]) rfl rfl (by decide) (by decide) (by decide) ?_
     change KK _ (x23.alloc (.cells [Value.int .u64 0, .slice (some ⟨B, 0, none⟩) 32 32, .int .u64 2, .slice ax5 8 8, .int .u64 4, .slice (some ⟨B, 33, none⟩) 32 32, .int .u64 6, .slice (some ⟨Q, 0, none⟩) 1 1, .int .u64 8, .slice oa23 40 oc23].toArray 139))
     rw [recM5_cells l As.o]
     obtain ⟨x25, Al⟩ : ∃ y, y = x23.alloc (.cells ((recM5 l B Q ax5 oa23 oc23).flatMap RecM.cells).toArray 139) := ⟨_, rfl⟩
     first | rw [← Al] | (change KK _ (x23.alloc (.cells ((recM5 l B Q ax5 oa23 oc23).flatMap RecM.cells).toArray 139)); rw [← Al])
     have Aa : Below x23.heap.size x23 x25 := by rw [Al]; exact (Below.refl _ _).alloc (Nat.le_refl _) _
     have hr5 : Has x25 x23.heap.size 139 ((recM5 l B Q ax5 oa23 oc23).flatMap RecM.cells).toArray := by rw [Al]; exact Has.new _ _ _
     have Aw : B < x23.heap.size := hBW
     obtain ⟨R, hR⟩ : ∃ g, g = x23.heap.size := ⟨_, rfl⟩
     first | rw [← hR] | (have hR2 : w1.heap.size = R := hR.symm; rw [hR2]) | skip
     rw [← hR] at hr5
     rw [← hR] at Aw
     clear hR
     have An : Has x25 B 32 LC.toArray ∧ Below B w x25 := ⟨hH5.1.below Aa hH5.1.lt, hH5.2.trans (Aa.mono (Nat.le_of_lt hBW))⟩
     try replace he1 := he1.alive Aa Aa.size
     try replace hq1 := hq1.below Aa hq1.lt
     try replace Ad := own_kept Ad (Kept.of_below (S := fun _ => False) Aa) (fun _ _ e => e)
     try replace he2 := he2.alive Aa Aa.size
     try replace hb5 := hb5.trans (Aa.mono hb5.size)
     try replace Ae := Ae.alive Aa Aa.size
     try replace hB18 := Nat.le_trans hB18 Aa.size
     replace hBW : B < x25.heap.size := Nat.lt_of_lt_of_le hBW Aa.size
     clear Al
     refine hKK _ _ An fun hH6 => ?_
     clear hKK KK
     try simp only [qc]
     refine rdy [26] (ar1 rfl fun KK hKK => ?_)
     go_simp
     have hr5b' := hBW
     have hby := A4.o _ hH6.1
     refine (tvEnc_is _ _ 5 5 (recM5 l B Q ax5 oa23 oc23) (recs_five l As.o hr5 hby.1 (by rw [← A7.o]; exact he5.alive hb5 hb5.size) hby.2.1 (by rw [← EQ.o]; exact one_by hq1 Ax _ (Nat.ne_of_lt hq1.lt)) Ae) (by decide)).mono ?_
     rintro _ x26 hm
     rw [recM5_r, enc_leaf l As.o] at hm
     obtain ⟨v26, rfl, hbw⟩ := (show ∃ v', _ = Ending.returned (.tuple #[v', .int .i64 0]) ∧ BigW _ _ _ v' x26 from hm)
     have Ah := hbw.bel
     have Aj : Has x26 B 32 LC.toArray ∧ Below B w x26 := ⟨hH6.1.below Ah hH6.1.lt, hH6.2.trans (Ah.mono (Nat.le_of_lt hBW))⟩
     replace hBW : B < x26.heap.size := Nat.lt_of_lt_of_le hBW Ah.size
     clear hm hby
     refine hKK _ _ Aj fun hH7 => ?_
     clear hKK KK
     try simp only [qc]
     apply tl 27 rfl ?hv hH7 ?_
     case hv => intro w' hS; go_simp; try rfl
     simp only [qc]
     apply tl 28 rfl ?hv hH7 ?_
     case hv => intro w' hS; go_simp; try rfl
     simp only [qc]
     apply tl 29 rfl ?hv hH7 ?_
     case hv => intro w' hS; go_simp; try rfl
     simp only [qc]
     apply tl 30 rfl ?hv hH7 ?_
     case hv => intro w' hS; go_simp; try rfl
     simp only [qc]
     refine wpAnyH_done (by kernel_rfl) ?_ _
     refine NoPanic.normal ?_
     have A2 := Hh (show BigW w.heap.size w (leafB l) v26 x26 from ⟨by obtain ⟨a, c, e, ho⟩ := hbw.own; exact ⟨a, c, e, own_base ho (by rw [← A0.o]; exact Nat.le_of_lt hr5b')⟩, by have := Aj.2; rwa [A0.o] at this⟩)
     clear hbw Aj An
     go_wp2_with fail
     go_ret2
     rw [A5.o]
     exact ⟨_, rfl, A2.o⟩
   · refine step_append_bytes rfl _ (.tmp 27) rfl x5.heap.size (.slice none 0 0) 0 [] rfl (World.ownsRow_nil _ _ _ _) _ _ l.sp.h rfl (A4.o _ hH1.1).2.2 (by have := A3.o; omega) (Nat.le_refl _) ?_
     intro oa18 oc18 x18 Ad hgr
     try have Ag : ∀ k, (Value.slice oa18 (0 + l.sp.h.length) oc18).ownBlock = some k → k ≠ Q := fun k e => by have h1 := own_blk Ad k e; have h2 := hq1.lt; omega
     have Ay : Has x18 B 32 LC.toArray ∧ Below B w x18 := ⟨hH1.1.grown hgr (fun e => by cases e), hH1.2.grown hgr (Nat.le_of_lt hBW) (fun k e => by cases e)⟩
     have hN18 : x5.heap.size ≤ x5.heap.size := hb5.size
     replace hb5 := hb5.grown hgr hb5.size (fun k e => by cases e)
     try replace hq1 := hq1.grown hgr (fun e => by cases e)
     try rw [A3.o] at Ag
     rw [A3.o] at Ad ⊢
     have hB18 := (Kept.of_grown hgr).size
     replace hBW : B < x18.heap.size := Nat.lt_of_lt_of_le hBW hB18
     clear hgr
     refine hKK _ _ Ay fun hH2 => ?_
     clear hKK KK
     try simp only [qc]
     refine rdy [13, 22] (AllReadyH.cons rfl (fun KK hKK => ?_) (ar1 rfl fun KK hKK => ?_))
     · refine step_buildN rfl 48 5 1 _ rfl _ 1 1 Tryz.underlying48 info_u8 [.tmp 22] rfl [.int .u8 (q : Int)] rfl (by simp [Value.cells]) rfl rfl (by decide) (by decide) (by decide) ?_
       try rw [show [Value.int IntKind.u8 (q : Int)].flatMap (fun v => v.cells.toList) = [.int .u8 (q : Int)] from rfl]
       try have Ag := fun k e => Nat.ne_of_lt (own_lt Ad k e)
       obtain ⟨x13, Ak⟩ : ∃ y, y = x18.alloc (.cells #[.int .u8 (q : Int)] 5) := ⟨_, rfl⟩
       first | rw [← Ak] | (change KK _ (x18.alloc (.cells #[.int .u8 (q : Int)] 5)); rw [← Ak])
       have Ab : Below x18.heap.size x18 x13 := by rw [Ak]; exact (Below.refl _ _).alloc (Nat.le_refl _) _
       have hq1 : Has x13 x18.heap.size 5 #[.int .u8 (q : Int)] := by rw [Ak]; exact Has.new _ _ _
       have Av : B < x18.heap.size := hBW
       obtain ⟨Q, hQ⟩ : ∃ g, g = x18.heap.size := ⟨_, rfl⟩
       first | rw [← hQ] | (have hQ2 : w1.heap.size = Q := hQ.symm; rw [hQ2]) | skip
       rw [← hQ] at hq1
       rw [← hQ] at Av
       try rw [← hQ] at Ag
       clear hQ
       have Ap : Has x13 B 32 LC.toArray ∧ Below B w x13 := ⟨hH2.1.below Ab hH2.1.lt, hH2.2.trans (Ab.mono (Nat.le_of_lt hBW))⟩
       try replace he1 := he1.alive Ab Ab.size
       try replace Ad := own_kept Ad (Kept.of_below (S := fun _ => False) Ab) (fun _ _ e => e)
       try replace he2 := he2.alive Ab Ab.size
       try replace hb5 := hb5.trans (Ab.mono hb5.size)
       try replace Ae := Ae.alive Ab Ab.size
       try replace hB18 := Nat.le_trans hB18 Ab.size
       replace hBW : B < x13.heap.size := Nat.lt_of_lt_of_le hBW Ab.size
       clear Ak
       refine hKK _ _ Ap fun hH3 => ?_
       clear hKK KK
       try simp only [qc]
       apply tl 14 rfl ?hv hH3 ?_
       case hv => intro w' hS; obtain ⟨z0, z1, z2⟩ := HC.o w' hS.1; have z3 := Au.o; go_simp; try rfl
       simp only [qc]
       refine rdy [22] (ar1 rfl fun KK hKK => ?_)
       go_simp
       refine (lfEight_is _ ss Ba.o).mono ?_
       rintro _ x22 ⟨ax22, rfl, Ao, Ac⟩
       have Ar : Has x22 B 32 LC.toArray ∧ Below B w x22 := ⟨hH3.1.below Ac hH3.1.lt, hH3.2.trans (Ac.mono (Nat.le_of_lt hBW))⟩
       try replace he1 := he1.alive Ac Ac.size
       try replace hq1 := hq1.below Ac hq1.lt
       try replace Ad := own_kept Ad (Kept.of_below (S := fun _ => False) Ac) (fun _ _ e => e)
       try replace hb5 := hb5.trans (Ac.mono hb5.size)
       try replace Ae := Ae.alive Ac Ac.size
       try replace hB18 := Nat.le_trans hB18 Ac.size
       replace hBW : B < x22.heap.size := Nat.lt_of_lt_of_le hBW Ac.size
       have he2 := Ao
       refine hKK _ _ Ar fun hH4 => ?_
       clear hKK KK
       try simp only [qc]
       refine rdy [23] (ar1 rfl fun KK hKK => ?_)
       refine step_append_bytes rfl (.tmp 28) (.tmp 32) rfl _ _ 32 ([] ++ bcells l.sp.h) rfl Ad _ _ (eight ss) rfl he2 (by have := A1.o; omega) hB18 ?_
       intro oa23 oc23 x23 Ai Af
       have Aq : Has x23 B 32 LC.toArray ∧ Below B w x23 := ⟨hH4.1.grown Af (fun e => own_has_ne Ad hH4.1 (by decide) B e.symm rfl), hH4.2.grown Af (Nat.le_of_lt hBW) (fun k e => Nat.le_trans (Nat.le_trans hB5 hN18) (own_blk Ad k e))⟩
       replace hb5 := hb5.grown Af hb5.size (fun k e => Nat.le_trans hN18 (own_blk Ad k e))
       try replace hq1 := hq1.grown Af (fun e => Ag Q e.symm rfl)
       rw [A1.o] at Ai ⊢
       have Ae := A8.o _ _ _ _ Ai
       replace hBW : B < x23.heap.size := Nat.lt_of_lt_of_le hBW (Kept.of_grown Af).size
       clear Af Ai Ad he2
       refine hKK _ _ Aq fun hH5 => ?_
       clear hKK KK
       try simp only [qc]
       apply tl 24 rfl ?hv hH5 ?_
       case hv => intro w' hS; obtain ⟨z0, z1, z2⟩ := HC.o w' hS.1; have z3 := Au.o; go_simp; try rfl
       simp only [qc]
       refine rdy [25] (ar1 rfl fun KK hKK => ?_)
       refine step_buildN rfl 136 139 5 _ rfl _ 2 32 Tryz.underlying136 info_rec [.tmp 12, .tmp 16, .tmp 19, .tmp 24, .tmp 34] rfl [.agg #[.int .u64 0, .slice (some ⟨B, 0, none⟩) 32 32], .agg #[.int .u64 2, .slice ax5 8 8], .agg #[.int .u64 4, .slice (some ⟨B, 33, none⟩) 32 32], .agg #[.int .u64 6, .slice (some ⟨Q, 0, none⟩) 1 1], .agg #[.int .u64 8, .slice oa23 40 oc23]] rfl (by simp [Value.cells]) rfl rfl (by decide) (by decide) (by decide) ?_
       change KK _ (x23.alloc (.cells [Value.int .u64 0, .slice (some ⟨B, 0, none⟩) 32 32, .int .u64 2, .slice ax5 8 8, .int .u64 4, .slice (some ⟨B, 33, none⟩) 32 32, .int .u64 6, .slice (some ⟨Q, 0, none⟩) 1 1, .int .u64 8, .slice oa23 40 oc23].toArray 139))
       rw [recM5_cells l As.o]
       obtain ⟨x25, Al⟩ : ∃ y, y = x23.alloc (.cells ((recM5 l B Q ax5 oa23 oc23).flatMap RecM.cells).toArray 139) := ⟨_, rfl⟩
       first | rw [← Al] | (change KK _ (x23.alloc (.cells ((recM5 l B Q ax5 oa23 oc23).flatMap RecM.cells).toArray 139)); rw [← Al])
       have Aa : Below x23.heap.size x23 x25 := by rw [Al]; exact (Below.refl _ _).alloc (Nat.le_refl _) _
       have hr5 : Has x25 x23.heap.size 139 ((recM5 l B Q ax5 oa23 oc23).flatMap RecM.cells).toArray := by rw [Al]; exact Has.new _ _ _
       have Aw : B < x23.heap.size := hBW
       obtain ⟨R, hR⟩ : ∃ g, g = x23.heap.size := ⟨_, rfl⟩
       first | rw [← hR] | (have hR2 : w1.heap.size = R := hR.symm; rw [hR2]) | skip
       rw [← hR] at hr5
       rw [← hR] at Aw
       clear hR
       have An : Has x25 B 32 LC.toArray ∧ Below B w x25 := ⟨hH5.1.below Aa hH5.1.lt, hH5.2.trans (Aa.mono (Nat.le_of_lt hBW))⟩
       try replace he1 := he1.alive Aa Aa.size
       try replace hq1 := hq1.below Aa hq1.lt
       try replace Ad := own_kept Ad (Kept.of_below (S := fun _ => False) Aa) (fun _ _ e => e)
       try replace he2 := he2.alive Aa Aa.size
       try replace hb5 := hb5.trans (Aa.mono hb5.size)
       try replace Ae := Ae.alive Aa Aa.size
       try replace hB18 := Nat.le_trans hB18 Aa.size
       replace hBW : B < x25.heap.size := Nat.lt_of_lt_of_le hBW Aa.size
       clear Al
       refine hKK _ _ An fun hH6 => ?_
       clear hKK KK
       try simp only [qc]
       refine rdy [26] (ar1 rfl fun KK hKK => ?_)
       go_simp
       have hr5b' := hBW
       have hby := A4.o _ hH6.1
       refine (tvEnc_is _ _ 5 5 (recM5 l B Q ax5 oa23 oc23) (recs_five l As.o hr5 hby.1 (by rw [← A7.o]; exact he5.alive hb5 hb5.size) hby.2.1 (by rw [← EQ.o]; exact one_by hq1 Ax _ (Nat.ne_of_lt hq1.lt)) Ae) (by decide)).mono ?_
       rintro _ x26 hm
       rw [recM5_r, enc_leaf l As.o] at hm
       obtain ⟨v26, rfl, hbw⟩ := (show ∃ v', _ = Ending.returned (.tuple #[v', .int .i64 0]) ∧ BigW _ _ _ v' x26 from hm)
       have Ah := hbw.bel
       have Aj : Has x26 B 32 LC.toArray ∧ Below B w x26 := ⟨hH6.1.below Ah hH6.1.lt, hH6.2.trans (Ah.mono (Nat.le_of_lt hBW))⟩
       replace hBW : B < x26.heap.size := Nat.lt_of_lt_of_le hBW Ah.size
       clear hm hby
       refine hKK _ _ Aj fun hH7 => ?_
       clear hKK KK
       try simp only [qc]
       apply tl 27 rfl ?hv hH7 ?_
       case hv => intro w' hS; go_simp; try rfl
       simp only [qc]
       apply tl 28 rfl ?hv hH7 ?_
       case hv => intro w' hS; go_simp; try rfl
       simp only [qc]
       apply tl 29 rfl ?hv hH7 ?_
       case hv => intro w' hS; go_simp; try rfl
       simp only [qc]
       apply tl 30 rfl ?hv hH7 ?_
       case hv => intro w' hS; go_simp; try rfl
       simp only [qc]
       refine wpAnyH_done (by kernel_rfl) ?_ _
       refine NoPanic.normal ?_
       have A2 := Hh (show BigW w.heap.size w (leafB l) v26 x26 from ⟨by obtain ⟨a, c, e, ho⟩ := hbw.own; exact ⟨a, c, e, own_base ho (by rw [← A0.o]; exact Nat.le_of_lt hr5b')⟩, by have := Aj.2; rwa [A0.o] at this⟩)
       clear hbw Aj An
       go_wp2_with fail
       go_ret2
       rw [A5.o]
       exact ⟨_, rfl, A2.o⟩
     · go_simp
       refine (lfEight_is _ ss Ba.o).mono ?_
       rintro _ x22 ⟨ax22, rfl, Ao, Ac⟩
       have Ar : Has x22 B 32 LC.toArray ∧ Below B w x22 := ⟨hH2.1.below Ac hH2.1.lt, hH2.2.trans (Ac.mono (Nat.le_of_lt hBW))⟩
       try replace he1 := he1.alive Ac Ac.size
       try replace hq1 := hq1.below Ac hq1.lt
       try replace Ad := own_kept Ad (Kept.of_below (S := fun _ => False) Ac) (fun _ _ e => e)
       try replace hb5 := hb5.trans (Ac.mono hb5.size)
       try replace Ae := Ae.alive Ac Ac.size
       try replace hB18 := Nat.le_trans hB18 Ac.size
       replace hBW : B < x22.heap.size := Nat.lt_of_lt_of_le hBW Ac.size
       have he2 := Ao
       refine hKK _ _ Ar fun hH3 => ?_
       clear hKK KK
       try simp only [qc]
       refine rdy [13, 23] (AllReadyH.cons rfl (fun KK hKK => ?_) (ar1 rfl fun KK hKK => ?_))
       · refine step_buildN rfl 48 5 1 _ rfl _ 1 1 Tryz.underlying48 info_u8 [.tmp 22] rfl [.int .u8 (q : Int)] rfl (by simp [Value.cells]) rfl rfl (by decide) (by decide) (by decide) ?_
         try rw [show [Value.int IntKind.u8 (q : Int)].flatMap (fun v => v.cells.toList) = [.int .u8 (q : Int)] from rfl]
         try have Ag := fun k e => Nat.ne_of_lt (own_lt Ad k e)
         obtain ⟨x13, Ak⟩ : ∃ y, y = x22.alloc (.cells #[.int .u8 (q : Int)] 5) := ⟨_, rfl⟩
         first | rw [← Ak] | (change KK _ (x22.alloc (.cells #[.int .u8 (q : Int)] 5)); rw [← Ak])
         have Ab : Below x22.heap.size x22 x13 := by rw [Ak]; exact (Below.refl _ _).alloc (Nat.le_refl _) _
         have hq1 : Has x13 x22.heap.size 5 #[.int .u8 (q : Int)] := by rw [Ak]; exact Has.new _ _ _
         have Av : B < x22.heap.size := hBW
         obtain ⟨Q, hQ⟩ : ∃ g, g = x22.heap.size := ⟨_, rfl⟩
         first | rw [← hQ] | (have hQ2 : w1.heap.size = Q := hQ.symm; rw [hQ2]) | skip
         rw [← hQ] at hq1
         rw [← hQ] at Av
         try rw [← hQ] at Ag
         clear hQ
         have Ap : Has x13 B 32 LC.toArray ∧ Below B w x13 := ⟨hH3.1.below Ab hH3.1.lt, hH3.2.trans (Ab.mono (Nat.le_of_lt hBW))⟩
         try replace he1 := he1.alive Ab Ab.size
         try replace Ad := own_kept Ad (Kept.of_below (S := fun _ => False) Ab) (fun _ _ e => e)
         try replace he2 := he2.alive Ab Ab.size
         try replace hb5 := hb5.trans (Ab.mono hb5.size)
         try replace Ae := Ae.alive Ab Ab.size
         try replace hB18 := Nat.le_trans hB18 Ab.size
         replace hBW : B < x13.heap.size := Nat.lt_of_lt_of_le hBW Ab.size
         clear Ak
         refine hKK _ _ Ap fun hH4 => ?_
         clear hKK KK
         try simp only [qc]
         apply tl 14 rfl ?hv hH4 ?_
         case hv => intro w' hS; obtain ⟨z0, z1, z2⟩ := HC.o w' hS.1; have z3 := Au.o; go_simp; try rfl
         simp only [qc]
         refine rdy [23] (ar1 rfl fun KK hKK => ?_)
         refine step_append_bytes rfl (.tmp 28) (.tmp 32) rfl _ _ 32 ([] ++ bcells l.sp.h) rfl Ad _ _ (eight ss) rfl he2 (by have := A1.o; omega) hB18 ?_
         intro oa23 oc23 x23 Ai Af
         have Aq : Has x23 B 32 LC.toArray ∧ Below B w x23 := ⟨hH4.1.grown Af (fun e => own_has_ne Ad hH4.1 (by decide) B e.symm rfl), hH4.2.grown Af (Nat.le_of_lt hBW) (fun k e => Nat.le_trans (Nat.le_trans hB5 hN18) (own_blk Ad k e))⟩
         replace hb5 := hb5.grown Af hb5.size (fun k e => Nat.le_trans hN18 (own_blk Ad k e))
         try replace hq1 := hq1.grown Af (fun e => Ag Q e.symm rfl)
         rw [A1.o] at Ai ⊢
         have Ae := A8.o _ _ _ _ Ai
         replace hBW : B < x23.heap.size := Nat.lt_of_lt_of_le hBW (Kept.of_grown Af).size
         clear Af Ai Ad he2
         refine hKK _ _ Aq fun hH5 => ?_
         clear hKK KK
         try simp only [qc]
         apply tl 24 rfl ?hv hH5 ?_
         case hv => intro w' hS; obtain ⟨z0, z1, z2⟩ := HC.o w' hS.1; have z3 := Au.o; go_simp; try rfl
         simp only [qc]
         refine rdy [25] (ar1 rfl fun KK hKK => ?_)
         refine step_buildN rfl 136 139 5 _ rfl _ 2 32 Tryz.underlying136 info_rec [.tmp 12, .tmp 16, .tmp 19, .tmp 24, .tmp 34] rfl [.agg #[.int .u64 0, .slice (some ⟨B, 0, none⟩) 32 32], .agg #[.int .u64 2, .slice ax5 8 8], .agg #[.int .u64 4, .slice (some ⟨B, 33, none⟩) 32 32], .agg #[.int .u64 6, .slice (some ⟨Q, 0, none⟩) 1 1], .agg #[.int .u64 8, .slice oa23 40 oc23]] rfl (by simp [Value.cells]) rfl rfl (by decide) (by decide) (by decide) ?_
         change KK _ (x23.alloc (.cells [Value.int .u64 0, .slice (some ⟨B, 0, none⟩) 32 32, .int .u64 2, .slice ax5 8 8, .int .u64 4, .slice (some ⟨B, 33, none⟩) 32 32, .int .u64 6, .slice (some ⟨Q, 0, none⟩) 1 1, .int .u64 8, .slice oa23 40 oc23].toArray 139))
         rw [recM5_cells l As.o]
         obtain ⟨x25, Al⟩ : ∃ y, y = x23.alloc (.cells ((recM5 l B Q ax5 oa23 oc23).flatMap RecM.cells).toArray 139) := ⟨_, rfl⟩
         first | rw [← Al] | (change KK _ (x23.alloc (.cells ((recM5 l B Q ax5 oa23 oc23).flatMap RecM.cells).toArray 139)); rw [← Al])
         have Aa : Below x23.heap.size x23 x25 := by rw [Al]; exact (Below.refl _ _).alloc (Nat.le_refl _) _
         have hr5 : Has x25 x23.heap.size 139 ((recM5 l B Q ax5 oa23 oc23).flatMap RecM.cells).toArray := by rw [Al]; exact Has.new _ _ _
         have Aw : B < x23.heap.size := hBW
         obtain ⟨R, hR⟩ : ∃ g, g = x23.heap.size := ⟨_, rfl⟩
         first | rw [← hR] | (have hR2 : w1.heap.size = R := hR.symm; rw [hR2]) | skip
         rw [← hR] at hr5
         rw [← hR] at Aw
         clear hR
         have An : Has x25 B 32 LC.toArray ∧ Below B w x25 := ⟨hH5.1.below Aa hH5.1.lt, hH5.2.trans (Aa.mono (Nat.le_of_lt hBW))⟩
         try replace he1 := he1.alive Aa Aa.size
         try replace hq1 := hq1.below Aa hq1.lt
         try replace Ad := own_kept Ad (Kept.of_below (S := fun _ => False) Aa) (fun _ _ e => e)
         try replace he2 := he2.alive Aa Aa.size
         try replace hb5 := hb5.trans (Aa.mono hb5.size)
         try replace Ae := Ae.alive Aa Aa.size
         try replace hB18 := Nat.le_trans hB18 Aa.size
         replace hBW : B < x25.heap.size := Nat.lt_of_lt_of_le hBW Aa.size
         clear Al
         refine hKK _ _ An fun hH6 => ?_
         clear hKK KK
         try simp only [qc]
         refine rdy [26] (ar1 rfl fun KK hKK => ?_)
         go_simp
         have hr5b' := hBW
         have hby := A4.o _ hH6.1
         refine (tvEnc_is _ _ 5 5 (recM5 l B Q ax5 oa23 oc23) (recs_five l As.o hr5 hby.1 (by rw [← A7.o]; exact he5.alive hb5 hb5.size) hby.2.1 (by rw [← EQ.o]; exact one_by hq1 Ax _ (Nat.ne_of_lt hq1.lt)) Ae) (by decide)).mono ?_
         rintro _ x26 hm
         rw [recM5_r, enc_leaf l As.o] at hm
         obtain ⟨v26, rfl, hbw⟩ := (show ∃ v', _ = Ending.returned (.tuple #[v', .int .i64 0]) ∧ BigW _ _ _ v' x26 from hm)
         have Ah := hbw.bel
         have Aj : Has x26 B 32 LC.toArray ∧ Below B w x26 := ⟨hH6.1.below Ah hH6.1.lt, hH6.2.trans (Ah.mono (Nat.le_of_lt hBW))⟩
         replace hBW : B < x26.heap.size := Nat.lt_of_lt_of_le hBW Ah.size
         clear hm hby
         refine hKK _ _ Aj fun hH7 => ?_
         clear hKK KK
         try simp only [qc]
         apply tl 27 rfl ?hv hH7 ?_
         case hv => intro w' hS; go_simp; try rfl
         simp only [qc]
         apply tl 28 rfl ?hv hH7 ?_
         case hv => intro w' hS; go_simp; try rfl
         simp only [qc]
         apply tl 29 rfl ?hv hH7 ?_
         case hv => intro w' hS; go_simp; try rfl
         simp only [qc]
         apply tl 30 rfl ?hv hH7 ?_
         case hv => intro w' hS; go_simp; try rfl
         simp only [qc]
         refine wpAnyH_done (by kernel_rfl) ?_ _
         refine NoPanic.normal ?_
         have A2 := Hh (show BigW w.heap.size w (leafB l) v26 x26 from ⟨by obtain ⟨a, c, e, ho⟩ := hbw.own; exact ⟨a, c, e, own_base ho (by rw [← A0.o]; exact Nat.le_of_lt hr5b')⟩, by have := Aj.2; rwa [A0.o] at this⟩)
         clear hbw Aj An
         go_wp2_with fail
         go_ret2
         rw [A5.o]
         exact ⟨_, rfl, A2.o⟩
       · refine step_append_bytes rfl (.tmp 28) (.tmp 32) rfl _ _ 32 ([] ++ bcells l.sp.h) rfl Ad _ _ (eight ss) rfl he2 (by have := A1.o; omega) hB18 ?_
         intro oa23 oc23 x23 Ai Af
         have Aq : Has x23 B 32 LC.toArray ∧ Below B w x23 := ⟨hH3.1.grown Af (fun e => own_has_ne Ad hH3.1 (by decide) B e.symm rfl), hH3.2.grown Af (Nat.le_of_lt hBW) (fun k e => Nat.le_trans (Nat.le_trans hB5 hN18) (own_blk Ad k e))⟩
         replace hb5 := hb5.grown Af hb5.size (fun k e => Nat.le_trans hN18 (own_blk Ad k e))
         try replace hq1 := hq1.grown Af (fun e => Ag Q e.symm rfl)
         rw [A1.o] at Ai ⊢
         have Ae := A8.o _ _ _ _ Ai
         replace hBW : B < x23.heap.size := Nat.lt_of_lt_of_le hBW (Kept.of_grown Af).size
         clear Af Ai Ad he2
         refine hKK _ _ Aq fun hH4 => ?_
         clear hKK KK
         try simp only [qc]
         apply tl 24 rfl ?hv hH4 ?_
         case hv => intro w' hS; obtain ⟨z0, z1, z2⟩ := HC.o w' hS.1; have z3 := Au.o; go_simp; try rfl
         simp only [qc]
         refine rdy [13] (ar1 rfl fun KK hKK => ?_)
         refine step_buildN rfl 48 5 1 _ rfl _ 1 1 Tryz.underlying48 info_u8 [.tmp 22] rfl [.int .u8 (q : Int)] rfl (by simp [Value.cells]) rfl rfl (by decide) (by decide) (by decide) ?_
         try rw [show [Value.int IntKind.u8 (q : Int)].flatMap (fun v => v.cells.toList) = [.int .u8 (q : Int)] from rfl]
         try have Ag := fun k e => Nat.ne_of_lt (own_lt Ad k e)
         obtain ⟨x13, Ak⟩ : ∃ y, y = x23.alloc (.cells #[.int .u8 (q : Int)] 5) := ⟨_, rfl⟩
         first | rw [← Ak] | (change KK _ (x23.alloc (.cells #[.int .u8 (q : Int)] 5)); rw [← Ak])
         have Ab : Below x23.heap.size x23 x13 := by rw [Ak]; exact (Below.refl _ _).alloc (Nat.le_refl _) _
         have hq1 : Has x13 x23.heap.size 5 #[.int .u8 (q : Int)] := by rw [Ak]; exact Has.new _ _ _
         have Av : B < x23.heap.size := hBW
         obtain ⟨Q, hQ⟩ : ∃ g, g = x23.heap.size := ⟨_, rfl⟩
         first | rw [← hQ] | (have hQ2 : w1.heap.size = Q := hQ.symm; rw [hQ2]) | skip
         rw [← hQ] at hq1
         rw [← hQ] at Av
         try rw [← hQ] at Ag
         clear hQ
         have Ap : Has x13 B 32 LC.toArray ∧ Below B w x13 := ⟨hH4.1.below Ab hH4.1.lt, hH4.2.trans (Ab.mono (Nat.le_of_lt hBW))⟩
         try replace he1 := he1.alive Ab Ab.size
         try replace Ad := own_kept Ad (Kept.of_below (S := fun _ => False) Ab) (fun _ _ e => e)
         try replace he2 := he2.alive Ab Ab.size
         try replace hb5 := hb5.trans (Ab.mono hb5.size)
         try replace Ae := Ae.alive Ab Ab.size
         try replace hB18 := Nat.le_trans hB18 Ab.size
         replace hBW : B < x13.heap.size := Nat.lt_of_lt_of_le hBW Ab.size
         clear Ak
         refine hKK _ _ Ap fun hH5 => ?_
         clear hKK KK
         try simp only [qc]
         apply tl 14 rfl ?hv hH5 ?_
         case hv => intro w' hS; obtain ⟨z0, z1, z2⟩ := HC.o w' hS.1; have z3 := Au.o; go_simp; try rfl
         simp only [qc]
         refine rdy [25] (ar1 rfl fun KK hKK => ?_)
         refine step_buildN rfl 136 139 5 _ rfl _ 2 32 Tryz.underlying136 info_rec [.tmp 12, .tmp 16, .tmp 19, .tmp 24, .tmp 34] rfl [.agg #[.int .u64 0, .slice (some ⟨B, 0, none⟩) 32 32], .agg #[.int .u64 2, .slice ax5 8 8], .agg #[.int .u64 4, .slice (some ⟨B, 33, none⟩) 32 32], .agg #[.int .u64 6, .slice (some ⟨Q, 0, none⟩) 1 1], .agg #[.int .u64 8, .slice oa23 40 oc23]] rfl (by simp [Value.cells]) rfl rfl (by decide) (by decide) (by decide) ?_
         change KK _ (x13.alloc (.cells [Value.int .u64 0, .slice (some ⟨B, 0, none⟩) 32 32, .int .u64 2, .slice ax5 8 8, .int .u64 4, .slice (some ⟨B, 33, none⟩) 32 32, .int .u64 6, .slice (some ⟨Q, 0, none⟩) 1 1, .int .u64 8, .slice oa23 40 oc23].toArray 139))
         rw [recM5_cells l As.o]
         obtain ⟨x25, Al⟩ : ∃ y, y = x13.alloc (.cells ((recM5 l B Q ax5 oa23 oc23).flatMap RecM.cells).toArray 139) := ⟨_, rfl⟩
         first | rw [← Al] | (change KK _ (x13.alloc (.cells ((recM5 l B Q ax5 oa23 oc23).flatMap RecM.cells).toArray 139)); rw [← Al])
         have Aa : Below x13.heap.size x13 x25 := by rw [Al]; exact (Below.refl _ _).alloc (Nat.le_refl _) _
         have hr5 : Has x25 x13.heap.size 139 ((recM5 l B Q ax5 oa23 oc23).flatMap RecM.cells).toArray := by rw [Al]; exact Has.new _ _ _
         have Aw : B < x13.heap.size := hBW
         obtain ⟨R, hR⟩ : ∃ g, g = x13.heap.size := ⟨_, rfl⟩
         first | rw [← hR] | (have hR2 : w1.heap.size = R := hR.symm; rw [hR2]) | skip
         rw [← hR] at hr5
         rw [← hR] at Aw
         clear hR
         have An : Has x25 B 32 LC.toArray ∧ Below B w x25 := ⟨hH5.1.below Aa hH5.1.lt, hH5.2.trans (Aa.mono (Nat.le_of_lt hBW))⟩
         try replace he1 := he1.alive Aa Aa.size
         try replace hq1 := hq1.below Aa hq1.lt
         try replace Ad := own_kept Ad (Kept.of_below (S := fun _ => False) Aa) (fun _ _ e => e)
         try replace he2 := he2.alive Aa Aa.size
         try replace hb5 := hb5.trans (Aa.mono hb5.size)
         try replace Ae := Ae.alive Aa Aa.size
         try replace hB18 := Nat.le_trans hB18 Aa.size
         replace hBW : B < x25.heap.size := Nat.lt_of_lt_of_le hBW Aa.size
         clear Al
         refine hKK _ _ An fun hH6 => ?_
         clear hKK KK
         try simp only [qc]
         refine rdy [26] (ar1 rfl fun KK hKK => ?_)
         go_simp
         have hr5b' := hBW
         have hby := A4.o _ hH6.1
         refine (tvEnc_is _ _ 5 5 (recM5 l B Q ax5 oa23 oc23) (recs_five l As.o hr5 hby.1 (by rw [← A7.o]; exact he5.alive hb5 hb5.size) hby.2.1 (by rw [← EQ.o]; exact one_by hq1 Ax _ (Nat.ne_of_lt hq1.lt)) Ae) (by decide)).mono ?_
         rintro _ x26 hm
         rw [recM5_r, enc_leaf l As.o] at hm
         obtain ⟨v26, rfl, hbw⟩ := (show ∃ v', _ = Ending.returned (.tuple #[v', .int .i64 0]) ∧ BigW _ _ _ v' x26 from hm)
         have Ah := hbw.bel
         have Aj : Has x26 B 32 LC.toArray ∧ Below B w x26 := ⟨hH6.1.below Ah hH6.1.lt, hH6.2.trans (Ah.mono (Nat.le_of_lt hBW))⟩
         replace hBW : B < x26.heap.size := Nat.lt_of_lt_of_le hBW Ah.size
         clear hm hby
         refine hKK _ _ Aj fun hH7 => ?_
         clear hKK KK
         try simp only [qc]
         apply tl 27 rfl ?hv hH7 ?_
         case hv => intro w' hS; go_simp; try rfl
         simp only [qc]
         apply tl 28 rfl ?hv hH7 ?_
         case hv => intro w' hS; go_simp; try rfl
         simp only [qc]
         apply tl 29 rfl ?hv hH7 ?_
         case hv => intro w' hS; go_simp; try rfl
         simp only [qc]
         apply tl 30 rfl ?hv hH7 ?_
         case hv => intro w' hS; go_simp; try rfl
         simp only [qc]
         refine wpAnyH_done (by kernel_rfl) ?_ _
         refine NoPanic.normal ?_
         have A2 := Hh (show BigW w.heap.size w (leafB l) v26 x26 from ⟨by obtain ⟨a, c, e, ho⟩ := hbw.own; exact ⟨a, c, e, own_base ho (by rw [← A0.o]; exact Nat.le_of_lt hr5b')⟩, by have := Aj.2; rwa [A0.o] at this⟩)
         clear hbw Aj An
         go_wp2_with fail
         go_ret2
         rw [A5.o]
         exact ⟨_, rfl, A2.o⟩
 · refine step_buildN rfl 48 5 1 _ rfl _ 1 1 Tryz.underlying48 info_u8 [.tmp 22] rfl [.int .u8 (q : Int)] rfl (by simp [Value.cells]) rfl rfl (by decide) (by decide) (by decide) ?_
   try rw [show [Value.int IntKind.u8 (q : Int)].flatMap (fun v => v.cells.toList) = [.int .u8 (q : Int)] from rfl]
   try have Ag := fun k e => Nat.ne_of_lt (own_lt Ad k e)
   obtain ⟨x13, Ak⟩ : ∃ y, y = w1.drew.alloc (.cells #[.int .u8 (q : Int)] 5) := ⟨_, rfl⟩
   first | rw [← Ak] | (change KK _ (w1.drew.alloc (.cells #[.int .u8 (q : Int)] 5)); rw [← Ak])
   have Ab : Below w1.drew.heap.size w1.drew x13 := by rw [Ak]; exact (Below.refl _ _).alloc (Nat.le_refl _) _
   have hq1 : Has x13 w1.drew.heap.size 5 #[.int .u8 (q : Int)] := by rw [Ak]; exact Has.new _ _ _
   have Av : B < w1.drew.heap.size := hBW
   obtain ⟨Q, hQ⟩ : ∃ g, g = w1.drew.heap.size := ⟨_, rfl⟩
   first | rw [← hQ] | (have hQ2 : w1.heap.size = Q := hQ.symm; rw [hQ2]) | skip
   rw [← hQ] at hq1
   rw [← hQ] at Av
   try rw [← hQ] at Ag
   clear hQ
   have Ap : Has x13 B 32 LC.toArray ∧ Below B w x13 := ⟨hH0.1.below Ab hH0.1.lt, hH0.2.trans (Ab.mono (Nat.le_of_lt hBW))⟩
   try replace he1 := he1.alive Ab Ab.size
   try replace Ad := own_kept Ad (Kept.of_below (S := fun _ => False) Ab) (fun _ _ e => e)
   try replace he2 := he2.alive Ab Ab.size
   try replace hb5 := hb5.trans (Ab.mono hb5.size)
   try replace Ae := Ae.alive Ab Ab.size
   try replace hB18 := Nat.le_trans hB18 Ab.size
   replace hBW : B < x13.heap.size := Nat.lt_of_lt_of_le hBW Ab.size
   clear Ak
   refine hKK _ _ Ap fun hH1 => ?_
   clear hKK KK
   try simp only [qc]
   apply tl 14 rfl ?hv hH1 ?_
   case hv => intro w' hS; obtain ⟨z0, z1, z2⟩ := HC.o w' hS.1; have z3 := Au.o; go_simp; try rfl
   simp only [qc]
   refine rdy [5] (ar1 rfl fun KK hKK => ?_)
   go_simp
   refine (lfEight_is _ am Be.o).mono ?_
   rintro _ x5 ⟨ax5, rfl, Az, Am⟩
   have A6 : Has x5 B 32 LC.toArray ∧ Below B w x5 := ⟨hH1.1.below Am hH1.1.lt, hH1.2.trans (Am.mono (Nat.le_of_lt hBW))⟩
   try replace hq1 := hq1.below Am hq1.lt
   try replace Ad := own_kept Ad (Kept.of_below (S := fun _ => False) Am) (fun _ _ e => e)
   try replace he2 := he2.alive Am Am.size
   try replace hb5 := hb5.trans (Am.mono hb5.size)
   try replace Ae := Ae.alive Am Am.size
   try replace hB18 := Nat.le_trans hB18 Am.size
   replace hBW : B < x5.heap.size := Nat.lt_of_lt_of_le hBW Am.size
   have he1 := Az
   have hb5 := Below.refl x5.heap.size x5
   have hB5 : B ≤ x5.heap.size := Nat.le_of_lt hBW
   have he5 := he1
   clear he1
   refine hKK _ _ A6 fun hH2 => ?_
   clear hKK KK
   try simp only [qc]
   apply tl 6 rfl ?hv hH2 ?_
   case hv => intro w' hS; obtain ⟨z0, z1, z2⟩ := HC.o w' hS.1; have z3 := Au.o; go_simp; try rfl
   simp only [qc]
   refine rdy [18] (ar1 rfl fun KK hKK => ?_)
   refine step_append_bytes rfl _ (.tmp 27) rfl x5.heap.size (.slice none 0 0) 0 [] rfl (World.ownsRow_nil _ _ _ _) _ _ l.sp.h rfl (A4.o _ hH2.1).2.2 (by have := A3.o; omega) (Nat.le_refl _) ?_
   intro oa18 oc18 x18 Ad hgr
   try have Ag : ∀ k, (Value.slice oa18 (0 + l.sp.h.length) oc18).ownBlock = some k → k ≠ Q := fun k e => by have h1 := own_blk Ad k e; have h2 := hq1.lt; omega
   have Ay : Has x18 B 32 LC.toArray ∧ Below B w x18 := ⟨hH2.1.grown hgr (fun e => by cases e), hH2.2.grown hgr (Nat.le_of_lt hBW) (fun k e => by cases e)⟩
   have hN18 : x5.heap.size ≤ x5.heap.size := hb5.size
   replace hb5 := hb5.grown hgr hb5.size (fun k e => by cases e)
   try replace hq1 := hq1.grown hgr (fun e => by cases e)
   try rw [A3.o] at Ag
   rw [A3.o] at Ad ⊢
   have hB18 := (Kept.of_grown hgr).size
   replace hBW : B < x18.heap.size := Nat.lt_of_lt_of_le hBW hB18
   clear hgr
   refine hKK _ _ Ay fun hH3 => ?_
   clear hKK KK
   try simp only [qc]
   refine rdy [22] (ar1 rfl fun KK hKK => ?_)
   go_simp
   refine (lfEight_is _ ss Ba.o).mono ?_
   rintro _ x22 ⟨ax22, rfl, Ao, Ac⟩
   have Ar : Has x22 B 32 LC.toArray ∧ Below B w x22 := ⟨hH3.1.below Ac hH3.1.lt, hH3.2.trans (Ac.mono (Nat.le_of_lt hBW))⟩
   try replace he1 := he1.alive Ac Ac.size
   try replace hq1 := hq1.below Ac hq1.lt
   try replace Ad := own_kept Ad (Kept.of_below (S := fun _ => False) Ac) (fun _ _ e => e)
   try replace hb5 := hb5.trans (Ac.mono hb5.size)
   try replace Ae := Ae.alive Ac Ac.size
   try replace hB18 := Nat.le_trans hB18 Ac.size
   replace hBW : B < x22.heap.size := Nat.lt_of_lt_of_le hBW Ac.size
   have he2 := Ao
   refine hKK _ _ Ar fun hH4 => ?_
   clear hKK KK
   try simp only [qc]
   refine rdy [23] (ar1 rfl fun KK hKK => ?_)
   refine step_append_bytes rfl (.tmp 28) (.tmp 32) rfl _ _ 32 ([] ++ bcells l.sp.h) rfl Ad _ _ (eight ss) rfl he2 (by have := A1.o; omega) hB18 ?_
   intro oa23 oc23 x23 Ai Af
   have Aq : Has x23 B 32 LC.toArray ∧ Below B w x23 := ⟨hH4.1.grown Af (fun e => own_has_ne Ad hH4.1 (by decide) B e.symm rfl), hH4.2.grown Af (Nat.le_of_lt hBW) (fun k e => Nat.le_trans (Nat.le_trans hB5 hN18) (own_blk Ad k e))⟩
   replace hb5 := hb5.grown Af hb5.size (fun k e => Nat.le_trans hN18 (own_blk Ad k e))
   try replace hq1 := hq1.grown Af (fun e => Ag Q e.symm rfl)
   rw [A1.o] at Ai ⊢
   have Ae := A8.o _ _ _ _ Ai
   replace hBW : B < x23.heap.size := Nat.lt_of_lt_of_le hBW (Kept.of_grown Af).size
   clear Af Ai Ad he2
   refine hKK _ _ Aq fun hH5 => ?_
   clear hKK KK
   try simp only [qc]
   apply tl 24 rfl ?hv hH5 ?_
   case hv => intro w' hS; obtain ⟨z0, z1, z2⟩ := HC.o w' hS.1; have z3 := Au.o; go_simp; try rfl
   simp only [qc]
   refine rdy [25] (ar1 rfl fun KK hKK => ?_)
   refine step_buildN rfl 136 139 5 _ rfl _ 2 32 Tryz.underlying136 info_rec [.tmp 12, .tmp 16, .tmp 19, .tmp 24, .tmp 34] rfl [.agg #[.int .u64 0, .slice (some ⟨B, 0, none⟩) 32 32], .agg #[.int .u64 2, .slice ax5 8 8], .agg #[.int .u64 4, .slice (some ⟨B, 33, none⟩) 32 32], .agg #[.int .u64 6, .slice (some ⟨Q, 0, none⟩) 1 1], .agg #[.int .u64 8, .slice oa23 40 oc23]] rfl (by simp [Value.cells]) rfl rfl (by decide) (by decide) (by decide) ?_
   change KK _ (x23.alloc (.cells [Value.int .u64 0, .slice (some ⟨B, 0, none⟩) 32 32, .int .u64 2, .slice ax5 8 8, .int .u64 4, .slice (some ⟨B, 33, none⟩) 32 32, .int .u64 6, .slice (some ⟨Q, 0, none⟩) 1 1, .int .u64 8, .slice oa23 40 oc23].toArray 139))
   rw [recM5_cells l As.o]
   obtain ⟨x25, Al⟩ : ∃ y, y = x23.alloc (.cells ((recM5 l B Q ax5 oa23 oc23).flatMap RecM.cells).toArray 139) := ⟨_, rfl⟩
   first | rw [← Al] | (change KK _ (x23.alloc (.cells ((recM5 l B Q ax5 oa23 oc23).flatMap RecM.cells).toArray 139)); rw [← Al])
   have Aa : Below x23.heap.size x23 x25 := by rw [Al]; exact (Below.refl _ _).alloc (Nat.le_refl _) _
   have hr5 : Has x25 x23.heap.size 139 ((recM5 l B Q ax5 oa23 oc23).flatMap RecM.cells).toArray := by rw [Al]; exact Has.new _ _ _
   have Aw : B < x23.heap.size := hBW
   obtain ⟨R, hR⟩ : ∃ g, g = x23.heap.size := ⟨_, rfl⟩
   first | rw [← hR] | (have hR2 : w1.heap.size = R := hR.symm; rw [hR2]) | skip
   rw [← hR] at hr5
   rw [← hR] at Aw
   clear hR
   have An : Has x25 B 32 LC.toArray ∧ Below B w x25 := ⟨hH5.1.below Aa hH5.1.lt, hH5.2.trans (Aa.mono (Nat.le_of_lt hBW))⟩
   try replace he1 := he1.alive Aa Aa.size
   try replace hq1 := hq1.below Aa hq1.lt
   try replace Ad := own_kept Ad (Kept.of_below (S := fun _ => False) Aa) (fun _ _ e => e)
   try replace he2 := he2.alive Aa Aa.size
   try replace hb5 := hb5.trans (Aa.mono hb5.size)
   try replace Ae := Ae.alive Aa Aa.size
   try replace hB18 := Nat.le_trans hB18 Aa.size
   replace hBW : B < x25.heap.size := Nat.lt_of_lt_of_le hBW Aa.size
   clear Al
   refine hKK _ _ An fun hH6 => ?_
   clear hKK KK
   try simp only [qc]
   refine rdy [26] (ar1 rfl fun KK hKK => ?_)
   go_simp
   have hr5b' := hBW
   have hby := A4.o _ hH6.1
   refine (tvEnc_is _ _ 5 5 (recM5 l B Q ax5 oa23 oc23) (recs_five l As.o hr5 hby.1 (by rw [← A7.o]; exact he5.alive hb5 hb5.size) hby.2.1 (by rw [← EQ.o]; exact one_by hq1 Ax _ (Nat.ne_of_lt hq1.lt)) Ae) (by decide)).mono ?_
   rintro _ x26 hm
   rw [recM5_r, enc_leaf l As.o] at hm
   obtain ⟨v26, rfl, hbw⟩ := (show ∃ v', _ = Ending.returned (.tuple #[v', .int .i64 0]) ∧ BigW _ _ _ v' x26 from hm)
   have Ah := hbw.bel
   have Aj : Has x26 B 32 LC.toArray ∧ Below B w x26 := ⟨hH6.1.below Ah hH6.1.lt, hH6.2.trans (Ah.mono (Nat.le_of_lt hBW))⟩
   replace hBW : B < x26.heap.size := Nat.lt_of_lt_of_le hBW Ah.size
   clear hm hby
   refine hKK _ _ Aj fun hH7 => ?_
   clear hKK KK
   try simp only [qc]
   apply tl 27 rfl ?hv hH7 ?_
   case hv => intro w' hS; go_simp; try rfl
   simp only [qc]
   apply tl 28 rfl ?hv hH7 ?_
   case hv => intro w' hS; go_simp; try rfl
   simp only [qc]
   apply tl 29 rfl ?hv hH7 ?_
   case hv => intro w' hS; go_simp; try rfl
   simp only [qc]
   apply tl 30 rfl ?hv hH7 ?_
   case hv => intro w' hS; go_simp; try rfl
   simp only [qc]
   refine wpAnyH_done (by kernel_rfl) ?_ _
   refine NoPanic.normal ?_
   have A2 := Hh (show BigW w.heap.size w (leafB l) v26 x26 from ⟨by obtain ⟨a, c, e, ho⟩ := hbw.own; exact ⟨a, c, e, own_base ho (by rw [← A0.o]; exact Nat.le_of_lt hr5b')⟩, by have := Aj.2; rwa [A0.o] at this⟩)
   clear hbw Aj An
   go_wp2_with fail
   go_ret2
   rw [A5.o]
   exact ⟨_, rfl, A2.o⟩
/- The walk of a leaf's Sum. -/

def SumP (w : World) (l : LeafT) (e : Ending) (w' : World) : Prop :=
 Below w.heap.size w w' ∧ ((leafBad l = false ∧ ∃ a c, e = .returned (leafV (.slice a (leafB l).length c) l.am) ∧ Bytes w' w'.heap.size (.slice a (leafB l).length c) (leafB l)) ∨ (leafBad l = true ∧ e = .returned (leafV (.slice none 0 0) 0)))
theorem build_sl (v : Value) (hv : v.oneCell' = true) (n : Int) (w : World) (a : Option Addr) (k c : Nat) (e : v = .slice a k c) : (Instr.build 50 #[(0, v), (1, .int .u64 n)]).run Tryz.prog w = .ok (.agg #[v, .int .u64 n]) w := by
 subst e
 exact run_build w 50 _ _ (by kernel_rfl)
set_option maxRecDepth 100000 in
set_option maxHeartbeats 4000000 in
theorem lfSum_is (w : World) (l : LeafT) (h : l.ok) : Calls Tryz.prog 18 #[.agg l.cells.toArray] w (SumP w l) := by
 obtain ⟨LC, hLC⟩ : ∃ L, L = l.cells := ⟨_, rfl⟩
 have Ac := Hh (fun v => lfEncode_is v l h)
 have hzl := zero_leaf
 unfold leafV at hzl
 rw [← hLC] at Ac ⊢
 have Am := Hh (show (Tryz.prog.info? 32).map (·.size) = some LC.toArray.size by rw [hLC, List.size_toArray, LeafT.len h]; kernel_rfl)
 have Al := Hh hLC
 have hbe : ∀ v, (Instr.build 50 #[]).run Tryz.prog v = .ok (.agg #[.slice none 0 0, .int .u64 0]) v := fun v => by kernel_rfl
 clear hLC
 go_enter Tryz.func18, Tryz.ntmps18
 go_upto_region 1 with (fail)
 obtain ⟨W1, hW1, h1, h2, hb1⟩ := boxes_part w LC
 rw [← hW1]
 clear hW1 hzl
 obtain ⟨B, hB⟩ : ∃ b, b = w.heap.size := ⟨_, rfl⟩
 rw [← hB] at h1 h2 hb1 ⊢
 have Ah := Hh hB
 have Af := Hh h1
 have H2 := Hh h2
 have Ag := Hh hb1
 clear hB h1 h2 hb1
 go_wp2_with (refine wpList_load_row rfl 32 (.tmp 1) rfl B rfl 32 LC.toArray (0, 0) _ Af.o Tryz.underlying32 rfl Am.o ?_)
 refine (Ac.o _).mono ?_
 intro e3 w3 hm
 cases hbad : leafBad l with
 | true =>
  rw [show lenc l = .error 1 by unfold lenc; rw [hbad]; rfl] at hm
  obtain ⟨rfl, hb3⟩ := (show e3 = .returned (.tuple #[.slice none 0 0, .int .i64 ((1 : Nat) : Int)]) ∧ Below _ _ w3 from hm)
  have h23 := H2.o.below hb3 H2.o.lt
  have hq3 := Ag.o.trans (hb3.mono (Nat.le_of_lt (Nat.lt_of_succ_lt H2.o.lt)))
  have Ad := Hh h23
  have Aa := Hh (show Has (w3.setRow (B + 1) #[.slice none 0 0, .int .u64 0]) (B + 1) 50 #[.slice none 0 0, .int .u64 0] ∧ Below B w (w3.setRow (B + 1) #[.slice none 0 0, .int .u64 0]) from ⟨h23.setRow, hq3.trans ((kept_setRow (g := B + 1) w3 #[.slice none 0 0, .int .u64 0]).below (Nat.le_of_lt (Nat.lt_of_succ_lt h23.lt)) (fun k e => by have e' : k = B + 1 := e; omega))⟩)
  have Ae := Hh hbad
  clear hm hb3 h23 hq3 hbad Ac
  go_wp2_with (refine wpList_store_row rfl 50 (.tmp 2) (.tmp 12) rfl (B + 1) #[.slice none 0 0, .int .u64 0] rfl rfl 50 _ Ad.o (by kernel_rfl) rfl (by kernel_rfl) ?_)
  refine bodyPost_ret (results_cell_row rfl _ _ (B + 1) 50 #[.slice none 0 0, .int .u64 0] (0, 0) _ rfl Aa.o.1 Tryz.underlying50 rfl (by kernel_rfl)) rfl ?_
  exact ⟨by rw [← Ah.o]; exact Aa.o.2, .inr ⟨Ae.o, rfl⟩⟩
 | false =>
  rw [show lenc l = .ok (leafB l) by unfold lenc; rw [hbad]; rfl] at hm
  obtain ⟨v3, rfl, ⟨sa, sc, rfl, ho3⟩, hb3⟩ := (show ∃ v', e3 = .returned (.tuple #[v', .int .i64 0]) ∧ BigW _ _ (leafB l) v' w3 from hm)
  obtain ⟨N, hN⟩ : ∃ n, n = (leafB l).length := ⟨_, rfl⟩
  rw [← hN] at ho3 ⊢
  have h13 := Af.o.below hb3 Af.o.lt
  have h23 := H2.o.below hb3 H2.o.lt
  have hq3 := Ag.o.trans (hb3.mono (Nat.le_of_lt (Nat.lt_of_succ_lt H2.o.lt)))
  have c32 : w3.cell? ⟨B, 32, none⟩ = some (.int .u64 (l.am : Int)) := h13.cell_is (by rw [List.getElem?_toArray, Al.o]; exact LeafT.at_am h)
  have hk := kept_setRow (g := B + 1) w3 #[.slice sa N sc, .int .u64 (l.am : Int)]
  have Ad := Hh h23
  have Aa := Hh (show Has (w3.setRow (B + 1) #[.slice sa N sc, .int .u64 (l.am : Int)]) (B + 1) 50 #[.slice sa N sc, .int .u64 (l.am : Int)] ∧ Below B w (w3.setRow (B + 1) #[.slice sa N sc, .int .u64 (l.am : Int)]) from ⟨h23.setRow, hq3.trans (hk.below (Nat.le_of_lt (Nat.lt_of_succ_lt h23.lt)) (fun k e => by have e' : k = B + 1 := e; omega))⟩)
  have Ab := own_kept ho3 hk (fun j e e2 => by
    have e' : j = B + 1 := e2
    have h1 := own_blk ho3 j e
    have h2 := H2.o.lt
    omega)
  have Ai := Hh (own_bytes Ab hN.symm (leafB_lt l h) (Nat.le_refl _))
  have Ae := Hh hbad
  have Aj := Hh hN
  have hbs := build_sl (.slice sa N sc) rfl (l.am : Int)
  obtain ⟨am, ham⟩ : ∃ z, z = l.am := ⟨_, rfl⟩
  rw [← ham] at Aa Ai c32
  have Ak := Hh ham
  clear hm hb3 h13 h23 hq3 hbad Ac hk Ab ho3 hN hbs ham
  go_wp2_with (first
    | (refine wpList_build_run (by kernel_rfl) 50 _ rfl #[(0, .slice sa N sc), (1, .int .u64 (am : Int))] (by kernel_rfl) (.agg #[.slice sa N sc, .int .u64 (am : Int)]) (build_sl _ rfl _ _ sa N sc rfl) ?_)
    | (refine wpList_store_row rfl 50 (.tmp 2) (.tmp 16) rfl (B + 1) #[.slice sa N sc, .int .u64 (am : Int)] rfl rfl 50 _ Ad.o (by kernel_rfl) rfl (by kernel_rfl) ?_))
  refine bodyPost_ret (results_cell_row rfl _ _ (B + 1) 50 #[.slice sa N sc, .int .u64 (am : Int)] (0, 0) _ rfl Aa.o.1 Tryz.underlying50 rfl (by kernel_rfl)) rfl ?_
  refine ⟨by rw [← Ah.o]; exact Aa.o.2, .inl ⟨Ae.o, sa, sc, ?_, ?_⟩⟩
  · rw [← Aj.o, ← Ak.o]; rfl
  · rw [← Aj.o]; exact Ai.o
end Go.Proofs.YtknfbccbdiidjaaGreatDoor
