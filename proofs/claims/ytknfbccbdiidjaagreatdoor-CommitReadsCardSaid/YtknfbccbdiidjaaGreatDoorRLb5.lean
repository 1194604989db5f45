/- The walk of a leaf's Sum. -/
import Derived.Test.YtknfbccbdiidjaaGreatDoorWs
import Derived.Test.YtknfbccbdiidjaaGreatDoorRLb3
namespace Go.Proofs.YtknfbccbdiidjaaGreatDoor
set_option linter.unusedVariables false
set_option linter.unusedSimpArgs false
open Go.ChangeShapes Go.WideShapes Go.ChangeAt Go.RowKit Go.Maps

def SumP (w : World) (l : LeafT) (e : Ending) (w' : World) : Prop :=
 Below w.heap.size w w' ∧ ((leafBad l = false ∧ ∃ a c, e = .returned (leafV (.slice a (leafB l).length c) l.am) ∧ Bytes w' w'.heap.size (.slice a (leafB l).length c) (leafB l)) ∨ (leafBad l = true ∧ e = .returned (leafV (.slice none 0 0) 0)))
theorem build_sl (v : Value) (hv : v.oneCell' = true) (n : Int) (w : World) (a : Option Addr) (k c : Nat) (e : v = .slice a k c) : (Instr.build 50 #[(0, v), (1, .int .u64 n)]).run Tryz.prog w = .ok (.agg #[v, .int .u64 n]) w := by
 subst e
 exact run_build w 50 _ _ (by kernel_rfl)
set_option maxRecDepth 100000 in
set_option maxHeartbeats 4000000 in
theorem lfSum_is (w : World) (l : LeafT) (h : l.ok) : Calls Tryz.prog 18 #[.agg l.cells.toArray] w (SumP w l) := by
 obtain ⟨LC, hLC⟩ : ∃ L, L = l.cells := ⟨_, rfl⟩
 have HEN := Lib.hid (fun v => lfEncode_is v l h)
 have hzl := zero_leaf
 unfold leafV at hzl
 rw [← hLC] at HEN ⊢
 have SZL := Lib.hid (show (Tryz.prog.info? 32).map (·.size) = some LC.toArray.size by rw [hLC, List.size_toArray, LeafT.len h]; kernel_rfl)
 have HLC := Lib.hid hLC
 have HOK := Lib.hid h
 have hbe : ∀ v, (Instr.build 50 #[]).run Tryz.prog v = .ok (.agg #[.slice none 0 0, .int .u64 0]) v := fun v => by kernel_rfl
 clear hLC
 go_enter Tryz.func18, Tryz.ntmps18
 go_upto_region 1 with (fail)
 obtain ⟨W1, hW1, h1, h2, hb1⟩ := boxes_part w LC
 rw [← hW1]
 clear hW1 hzl
 obtain ⟨B, hB⟩ : ∃ b, b = w.heap.size := ⟨_, rfl⟩
 rw [← hB] at h1 h2 hb1 ⊢
 have HBQ := Lib.hid hB
 have HS1 := Lib.hid h1
 have H2 := Lib.hid h2
 have HB1 := Lib.hid hb1
 clear hB h1 h2 hb1
 go_wp2_with (refine wpList_load_row rfl 32 (.tmp 1) rfl B rfl 32 LC.toArray (0, 0) _ HS1.out Tryz.underlying32 rfl SZL.out ?_)
 refine (HEN.out _).mono ?_
 intro e3 w3 hm
 cases hbad : leafBad l with
 | true =>
  rw [show lenc l = .error 1 by unfold lenc; rw [hbad]; rfl] at hm
  obtain ⟨rfl, hb3⟩ := (show e3 = .returned (.tuple #[.slice none 0 0, .int .i64 ((1 : Nat) : Int)]) ∧ Below _ _ w3 from hm)
  have h23 := H2.out.below hb3 H2.out.lt
  have hq3 := HB1.out.trans (hb3.mono (Nat.le_of_lt (Nat.lt_of_succ_lt H2.out.lt)))
  have H23 := Lib.hid h23
  have HFIN := Lib.hid (show Has (w3.setRow (B + 1) #[.slice none 0 0, .int .u64 0]) (B + 1) 50 #[.slice none 0 0, .int .u64 0] ∧ Below B w (w3.setRow (B + 1) #[.slice none 0 0, .int .u64 0]) from ⟨h23.setRow, hq3.trans ((kept_setRow (g := B + 1) w3 #[.slice none 0 0, .int .u64 0]).below (Nat.le_of_lt (Nat.lt_of_succ_lt h23.lt)) (fun k e => by have e' : k = B + 1 := e; omega))⟩)
  have HBD := Lib.hid hbad
  clear hm hb3 h23 hq3 hbad HEN
  go_wp2_with (refine wpList_store_row rfl 50 (.tmp 2) (.tmp 12) rfl (B + 1) #[.slice none 0 0, .int .u64 0] rfl rfl 50 _ H23.out (by kernel_rfl) rfl (by kernel_rfl) ?_)
  refine bodyPost_ret (results_cell_row rfl _ _ (B + 1) 50 #[.slice none 0 0, .int .u64 0] (0, 0) _ rfl HFIN.out.1 Tryz.underlying50 rfl (by kernel_rfl)) rfl ?_
  exact ⟨by rw [← HBQ.out]; exact HFIN.out.2, .inr ⟨HBD.out, rfl⟩⟩
 | false =>
  rw [show lenc l = .ok (leafB l) by unfold lenc; rw [hbad]; rfl] at hm
  obtain ⟨v3, rfl, ⟨sa, sc, rfl, ho3⟩, hb3⟩ := (show ∃ v', e3 = .returned (.tuple #[v', .int .i64 0]) ∧ BigW _ _ (leafB l) v' w3 from hm)
  obtain ⟨N, hN⟩ : ∃ n, n = (leafB l).length := ⟨_, rfl⟩
  rw [← hN] at ho3 ⊢
  have h13 := HS1.out.below hb3 HS1.out.lt
  have h23 := H2.out.below hb3 H2.out.lt
  have hq3 := HB1.out.trans (hb3.mono (Nat.le_of_lt (Nat.lt_of_succ_lt H2.out.lt)))
  have c32 : w3.cell? ⟨B, 32, none⟩ = some (.int .u64 (l.am : Int)) := h13.cell_is (by rw [List.getElem?_toArray, HLC.out]; exact LeafT.at_am h)
  have hk := kept_setRow (g := B + 1) w3 #[.slice sa N sc, .int .u64 (l.am : Int)]
  have H23 := Lib.hid h23
  have HFIN := Lib.hid (show Has (w3.setRow (B + 1) #[.slice sa N sc, .int .u64 (l.am : Int)]) (B + 1) 50 #[.slice sa N sc, .int .u64 (l.am : Int)] ∧ Below B w (w3.setRow (B + 1) #[.slice sa N sc, .int .u64 (l.am : Int)]) from ⟨h23.setRow, hq3.trans (hk.below (Nat.le_of_lt (Nat.lt_of_succ_lt h23.lt)) (fun k e => by have e' : k = B + 1 := e; omega))⟩)
  have hown := own_kept ho3 hk (fun j e e2 => by
    have e' : j = B + 1 := e2
    have h1 := own_blk ho3 j e
    have h2 := H2.out.lt
    omega)
  have HBY := Lib.hid (own_bytes hown hN.symm (leafB_lt l h) (Nat.le_refl _))
  have HBD := Lib.hid hbad
  have HNN := Lib.hid hN
  have hbs := build_sl (.slice sa N sc) rfl (l.am : Int)
  obtain ⟨am, ham⟩ : ∃ z, z = l.am := ⟨_, rfl⟩
  rw [← ham] at HFIN HBY c32
  have HAM := Lib.hid ham
  clear hm hb3 h13 h23 hq3 hbad HEN hk hown ho3 hN hbs ham
  go_wp2_with (first
    | (refine wpList_build_run (by kernel_rfl) 50 _ rfl #[(0, .slice sa N sc), (1, .int .u64 (am : Int))] (by kernel_rfl) (.agg #[.slice sa N sc, .int .u64 (am : Int)]) (build_sl _ rfl _ _ sa N sc rfl) ?_)
    | (refine wpList_store_row rfl 50 (.tmp 2) (.tmp 16) rfl (B + 1) #[.slice sa N sc, .int .u64 (am : Int)] rfl rfl 50 _ H23.out (by kernel_rfl) rfl (by kernel_rfl) ?_))
  refine bodyPost_ret (results_cell_row rfl _ _ (B + 1) 50 #[.slice sa N sc, .int .u64 (am : Int)] (0, 0) _ rfl HFIN.out.1 Tryz.underlying50 rfl (by kernel_rfl)) rfl ?_
  refine ⟨by rw [← HBQ.out]; exact HFIN.out.2, .inl ⟨HBD.out, sa, sc, ?_, ?_⟩⟩
  · rw [← HNN.out, ← HAM.out]; rfl
  · rw [← HNN.out]; exact HBY.out
end Go.Proofs.YtknfbccbdiidjaaGreatDoor

