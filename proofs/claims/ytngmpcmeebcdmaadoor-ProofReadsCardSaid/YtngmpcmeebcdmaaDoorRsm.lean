/- The walk of the reference's Same at proofs that are alike. -/
import Derived.Test.YtngmpcmeebcdmaaDoorRby
namespace Go.Proofs.YtngmpcmeebcdmaaDoor
set_option linter.unusedVariables false
set_option linter.unusedSimpArgs false
open Go.ChangeShapes Go.WideShapes Go.ChangeAt Go.RowKit Go.Maps

theorem blist_get (f : Nat → Bool) (i : Nat) (h : i < 256) : (blist f)[i]? = some (.bool (f i)) := by
  unfold blist; rw [List.getElem?_map, List.getElem?_range h]; rfl
theorem bools_some (f : Nat → Bool) : ∃ kl, keyOf Tryd.prog 71 (.agg (blist f).toArray) = some kl := by
  unfold keyOf
  rw [Tryd.underlying71]
  have h1 : Tryd.prog.keyType 71 = true := by kernel_rfl
  have h2 : (Value.agg (blist f).toArray).formed Tryd.prog 71 = true := by
    have hc : Tryd.prog.cellsOf 71 = 256 := by kernel_rfl
    simp [Value.formed, Tryd.underlying71, hc, blist_len]
  have h3 : ∃ ls, Tryd.prog.keyLits (Tryd.prog.types.size + 1) 71 (Value.agg (blist f).toArray).cells.toList = some ls := by
    have hc : Tryd.prog.cellsOf 71 = 256 := by kernel_rfl
    have hc1 : Tryd.prog.cellsOf 4 = 1 := by kernel_rfl
    obtain ⟨d, hd⟩ : ∃ d, Tryd.prog.types.size = d + 1 := ⟨Tryd.prog.types.size - 1, by have : 0 < Tryd.prog.types.size := of_decide_eq_true (by kernel_rfl); omega⟩
    rw [hd]
    unfold Program.keyLits
    rw [Tryd.underlying71]
    have hcs : (Value.agg (blist f).toArray).cells.toList = blist f := by simp [Value.cells]
    rw [hcs]
    simp only []
    rw [if_pos (by rw [hc, blist_len]), hc1, mapM_some _ (fun i => [Lit.bool (f i)]) (List.range 256) (fun i hi => ?_)]
    · exact ⟨_, rfl⟩
    · have hi2 : i < 256 := List.mem_range.1 hi
      have hone : ((blist f).drop (i * 1)).take 1 = [.bool (f i)] := by
        rw [Nat.mul_one, List.take_one, List.head?_drop, blist_get f i hi2]
        rfl
      rw [hone]
      unfold Program.keyLits
      rw [Tryd.underlying4]
  obtain ⟨ls, h3⟩ := h3
  rw [h1, h2, h3]
  exact ⟨_, rfl⟩
theorem bools_eq (f g : Nat → Bool) (h : ∀ j, j < 256 → f j = g j) (w : World) : (Op.equalIn 10000 71 (.agg (blist f).toArray) (.agg (blist g).toArray)).run Tryd.prog w = .ok true w := by
  have e : blist f = blist g := by unfold blist; exact List.map_congr_left fun j hj => by rw [h j (List.mem_range.1 hj)]
  rw [e]
  obtain ⟨l, hl⟩ := bools_some g
  obtain ⟨r, hr, hiff⟩ := run_equal_deep (P := Tryd.prog) w (m := 2) (by omega) (k := 71) (by kernel_rfl) (by rw [Tryd.underlying71]) hl hl
  rw [hiff.2 rfl] at hr
  exact hr
theorem rnd_any (x y : Nd) (hx : IsHash x.h) (hy : IsHash y.h) (w : World) : (Op.equalIn 10000 62 (.agg (ndV x).toArray) (.agg (ndV y).toArray)).run Tryd.prog w = .ok (ndSame x y) w := by
  obtain ⟨f0, f1, hf, ⟨n0, t0, o0⟩, ⟨n1, t1, o1⟩⟩ := rn_fields
  have hid : ∀ z : Nd, IsHash z.h → ((ndV z).drop 0).take 32 = bcells z.h := fun z hz => by
    rw [List.drop_zero, ndV, ncells, List.take_append_of_le_length (by rw [bcells_length, hz.1]; exact Nat.le_refl _)]
    exact List.take_of_length_le (by rw [bcells_length, hz.1]; exact Nat.le_refl _)
  have ham : ∀ z : Nd, IsHash z.h → (ndV z)[32]? = some (.int .u64 (z.s : Int)) := fun z hz => by
    rw [ndV, ncells, List.getElem?_append_right (by rw [bcells_length, hz.1]; exact Nat.le_refl _), bcells_length, hz.1]; rfl
  have q0 : ∀ z : Nd, IsHash z.h → (part f0.type (ndV z).toArray f0.offset).run Tryd.prog w = .ok (.agg (bcells z.h).toArray) w := fun z hz => by
    rw [t0, o0, part_agg Tryd.underlying27 (k := 32) (by kernel_rfl), extract_list, hid z hz]
  have q1 : ∀ z : Nd, IsHash z.h → (part f1.type (ndV z).toArray f1.offset).run Tryd.prog w = .ok (.int .u64 (z.s : Int)) w := fun z hz => by
    rw [t1, o1]
    exact part_int Tryd.underlying30 (by rw [List.getElem?_toArray]; exact ham z hz) w
  have e0 : (Op.equalIn 9999 f0.type (.agg (bcells x.h).toArray) (.agg (bcells y.h).toArray)).run Tryd.prog w = .ok (decide (x.h = y.h)) w := by
    rw [t0]
    exact hash_eq26_at 9997 x.h y.h hx hy w
  have e1 : (Op.equalIn 9999 f1.type (.int .u64 (x.s : Int)) (.int .u64 (y.s : Int))).run Tryd.prog w = .ok (decide (x.s = y.s)) w := by
    rw [t1]
    have := run_equalIn_int (P := Tryd.prog) w 9998 30 .u64 .u64 (x.s : Int) (y.s : Int) Tryd.underlying30
    rw [this, show ((x.s : Int) == (y.s : Int)) = decide (x.s = y.s) from (by rw [Bool.eq_iff_iff, beq_iff_eq, decide_eq_true_eq]; omega)]
  rw [run_equalIn_struct w 9999 62 _ _ rn_struct (by kernel_rfl), hf, eqF_any n0 (q0 x hx) (q0 y hy) e0]
  unfold ndSame
  by_cases h1 : x.h = y.h
  · rw [if_pos (decide_eq_true h1), eqF_any n1 (q1 x hx) (q1 y hy) e1]
    by_cases h2 : x.s = y.s
    · rw [if_pos (decide_eq_true h2), eqF_nil, decide_eq_true ⟨h1, h2⟩]
    · rw [if_neg (by rw [decide_eq_false h2]; decide), decide_eq_false (fun e => h2 e.2)]
  · rw [if_neg (by rw [decide_eq_false h1]; decide), decide_eq_false (fun e => h1 e.1)]
theorem blist_row {w : World} {g : Nat} {t : TypeId} {f : Nat → Bool} {a : Option Addr} {n c : Nat} (h : Has w g t (rpcells f a n c).toArray) : w.rangeAt g 0 (blist f) := fun j u hu => by
  refine h.cell_is ?_
  rw [List.getElem?_toArray, Nat.zero_add, rpcells, List.getElem?_append_left (List.getElem?_eq_some_iff.1 hu).1]
  exact hu
set_option maxRecDepth 100000 in
set_option maxHeartbeats 8000000 in
theorem rsame_true (w : World) (f g : Nat → Bool) (hfg : ∀ j, j < 256 → f j = g j) (a a' : Option Addr) (n c c' : Nat) (xs : List Nd) (hx : NodesAt w a n xs) (hy : NodesAt w a' n xs) (hn : n ≤ 1000000) :
    Calls Tryd.prog 43 #[.agg (rpcells f a n c).toArray, .agg (rpcells g a' n c').toArray] w fun e w' => e = .returned (.bool true) ∧ Below w.heap.size w w' := by
  have hbe := bools_eq f g hfg
  obtain ⟨LF, hLF⟩ : ∃ l, l = blist f := ⟨_, rfl⟩
  obtain ⟨LG, hLG⟩ : ∃ l, l = blist g := ⟨_, rfl⟩
  have SZF := Lib.hid (show (Tryd.prog.info? 71).map (·.size) = some LF.length by rw [hLF, blist_len]; kernel_rfl)
  have SZG := Lib.hid (show (Tryd.prog.info? 71).map (·.size) = some LG.length by rw [hLG, blist_len]; kernel_rfl)
  have SZL := Lib.hid (show ∀ x : Nd, IsHash x.h → (Tryd.prog.info? 62).map (·.size) = some (ndV x).length from fun x hx => by rw [ndV_len hx]; kernel_rfl)
  have hnd : ∀ x : Nd, IsHash x.h → ∀ w, (Op.equalIn 10000 62 (.agg (ndV x).toArray) (.agg (ndV x).toArray)).run Tryd.prog w = .ok true w := fun x hx w => by
    have := rnd_any x x hx hx w
    rw [ndSame_iff.2 rfl] at this
    exact this
  have HND := Lib.hid hnd
  have h2 : Has ((w.alloc (.cells (rpcells f a n c).toArray 74)).alloc (.cells (rpcells g a' n c').toArray 74)) w.heap.size 74 (rpcells f a n c).toArray := (Has.new w _ _).alloc _
  have h3 : Has ((w.alloc (.cells (rpcells f a n c).toArray 74)).alloc (.cells (rpcells g a' n c').toArray 74)) (w.heap.size + 1) 74 (rpcells g a' n c').toArray := by
    have := Has.new (w.alloc (.cells (rpcells f a n c).toArray 74)) 74 (rpcells g a' n c').toArray
    simpa using this
  have hb1 : Below w.heap.size w ((w.alloc (.cells (rpcells f a n c).toArray 74)).alloc (.cells (rpcells g a' n c').toArray 74)) := ((Below.refl _ _).alloc (Nat.le_refl _) _).alloc (by simp) _
  have hrf := blist_row h2
  have hrg := blist_row h3
  have c2 := h2.cell_is (i := 256) (by rw [List.getElem?_toArray]; exact rpcells_row f a n c)
  have c3 := h3.cell_is (i := 256) (by rw [List.getElem?_toArray]; exact rpcells_row g a' n c')
  rw [← hLF] at hbe hrf
  rw [← hLG] at hbe hrg
  obtain ⟨LP, hLP⟩ : ∃ l, l = rpcells f a n c := ⟨_, rfl⟩
  obtain ⟨LQ, hLQ⟩ : ∃ l, l = rpcells g a' n c' := ⟨_, rfl⟩
  rw [← hLP, ← hLQ] at hrf hrg c2 c3 hb1 ⊢
  have HX := Lib.hid (hx.below (Below.refl _ _))
  have HY := Lib.hid (hy.below (Below.refl _ _))
  have HRF := Lib.hid hrf
  have HRG := Lib.hid hrg
  have HB1 := Lib.hid hb1
  clear hLP hLQ hLF hLG hrf hrg hb1 h2 h3 hnd hx hy hfg
  go_enter Tryd.func43, Tryd.ntmps43
  go_upto_region 1 with (fail)
  generalize (w.alloc (.cells LP.toArray 74)).alloc (.cells LQ.toArray 74) = W1 at HRF HRG c2 c3 HB1 ⊢
  obtain ⟨B3, hB3⟩ : ∃ b, b = w.heap.size + 1 := ⟨_, rfl⟩
  obtain ⟨B2, hB2⟩ : ∃ b, b = w.heap.size := ⟨_, rfl⟩
  rw [← hB3] at HRG c3 ⊢
  rw [← hB2] at HRF c2 ⊢
  clear hB3 hB2
  go_wp2_with (first
    | (refine wpList_load_mid rfl 71 (.tmp 6) rfl B2 0 rfl LF _ HRF.out Tryd.underlying71 rfl SZF.out ?_)
    | (refine wpList_load_mid rfl 71 (.tmp 8) rfl B3 0 rfl LG _ HRG.out Tryd.underlying71 rfl SZG.out ?_))
  clear hbe
  have C2 := Lib.hid c2
  have C3 := Lib.hid c3
  clear c2 c3
  go_loopw [23] (fun v wr => ∃ k : Nat, v = .int .i64 (k : Int) ∧ k ≤ n ∧ Below W1.heap.size W1 wr) (fun v _ => n - (intOf v).toNat)
  case atStart => exact ⟨0, rfl, Nat.zero_le _, Below.refl _ _⟩
  case round =>
    obtain ⟨k, rfl, hk, hbr⟩ := hrel
    have HBR := Lib.hid hbr
    clear hbr
    by_cases hkn : k < n
    · have hkn' : (k : Int) < (n : Int) := by omega
      obtain ⟨x, hx⟩ : ∃ x, xs[k]? = some x := ⟨_, List.getElem?_eq_getElem (by rw [HX.out.len]; exact hkn)⟩
      have hxh : IsHash x.h := HX.out.hash x (List.mem_of_getElem? hx)
      obtain ⟨b, o, ha, -, hr⟩ := ((HX.out.below HB1.out).below HBR.out).at_ (by omega)
      obtain ⟨b', o', ha', -, hr'⟩ := ((HY.out.below HB1.out).below HBR.out).at_ (by omega)
      have hrx := hr k x hx
      have hrx' := hr' k x hx
      have hat := at_rnodeo b o n c k hkn
      have hat' := at_rnodeo b' o' n c' k hkn
      have d2 := HBR.out.cell (p := ⟨B2, 256, none⟩) (World.block_lt_of_cell? W1 _ C2.out)
      have d3 := HBR.out.cell (p := ⟨B3, 256, none⟩) (World.block_lt_of_cell? W1 _ C3.out)
      rw [C2.out, ha] at d2
      rw [C3.out, ha'] at d3
      have heq := HND.out x hxh
      have HXH := Lib.hid hxh
      have hS0 : wr.drew.cell? ⟨B2, 256, none⟩ = some (.slice (some ⟨b, o, none⟩) n c) ∧ wr.drew.cell? ⟨B3, 256, none⟩ = some (.slice (some ⟨b', o', none⟩) n c') ∧ wr.drew.rangeAt b (o + k * 33) (ndV x) ∧ wr.drew.rangeAt b' (o' + k * 33) (ndV x) ∧ Below W1.heap.size W1 wr.drew := ⟨d2, d3, hrx, hrx', HBR.out.drew⟩
      have HKN := Lib.hid hkn
      clear d2 d3 hrx hrx' hr hr' ha ha' hx hxh
      go_upto_region 6 with (fail)
      refine wp_region_noPanic ?_
      refine wp_region_held_drew (S := (fun v => v.cell? ⟨B2, 256, none⟩ = some (.slice (some ⟨b, o, none⟩) n c) ∧ v.cell? ⟨B3, 256, none⟩ = some (.slice (some ⟨b', o', none⟩) n c') ∧ v.rangeAt b (o + k * 33) (ndV x) ∧ v.rangeAt b' (o' + k * 33) (ndV x) ∧ Below W1.heap.size W1 v)) (by kernel_rfl) hS0 (fun hH0 => ?_)
      refine wpAnyH_take (i := 0) (v := ((.pointer (some ⟨B2, 256, none⟩)))) rfl (by kernel_rfl) (by kernel_rfl) (by kernel_rfl) (fun _ _ _ h => h) (Or.inl ⟨by kernel_rfl, by intro w' hS; obtain ⟨z0, z1, -, -, -⟩ := hS; go_simp⟩) hH0 ?_
      simp only [Act.put, List.getElem_toArray, List.getElem_cons_zero, List.getElem_cons_succ, List.setIfInBounds_toArray, List.set_cons_zero, List.set_cons_succ]
      refine wpAnyH_take (i := 1) (v := ((.slice (some ⟨b, o, none⟩) n c))) rfl (by kernel_rfl) (by kernel_rfl) (by kernel_rfl) (fun _ _ _ h => h) (Or.inl ⟨by kernel_rfl, by intro w' hS; obtain ⟨z0, z1, -, -, -⟩ := hS; go_simp⟩) hH0 ?_
      simp only [Act.put, List.getElem_toArray, List.getElem_cons_zero, List.getElem_cons_succ, List.setIfInBounds_toArray, List.set_cons_zero, List.set_cons_succ]
      refine wpAnyH_take (i := 2) (v := ((.int .i64 (k : Int)))) rfl (by kernel_rfl) (by kernel_rfl) (by kernel_rfl) (fun _ _ _ h => h) (Or.inl ⟨by kernel_rfl, by intro w' hS; obtain ⟨z0, z1, -, -, -⟩ := hS; go_simp⟩) hH0 ?_
      simp only [Act.put, List.getElem_toArray, List.getElem_cons_zero, List.getElem_cons_succ, List.setIfInBounds_toArray, List.set_cons_zero, List.set_cons_succ]
      refine wpAnyH_take (i := 3) (v := ((.pointer (some ⟨b, o + k * 33, none⟩)))) rfl (by kernel_rfl) (by kernel_rfl) (by kernel_rfl) (fun _ _ _ h => h) (Or.inl ⟨by kernel_rfl, by intro w' hS; obtain ⟨z0, z1, -, -, -⟩ := hS; go_simp⟩) hH0 ?_
      simp only [Act.put, List.getElem_toArray, List.getElem_cons_zero, List.getElem_cons_succ, List.setIfInBounds_toArray, List.set_cons_zero, List.set_cons_succ]
      refine wpAnyH_take (i := 4) (v := (.agg (ndV x).toArray)) rfl (by kernel_rfl) (by kernel_rfl) (by kernel_rfl) (fun _ _ _ h => h) (yieldsIf_load_mid (by kernel_rfl) 62 (.tmp 29) rfl b (o + k * 33) rfl (ndV x) _ (fun w' h => h.2.2.1) Tryd.underlying62 rfl (SZL.out x HXH.out)) hH0 ?_
      simp only [Act.put, List.getElem_toArray, List.getElem_cons_zero, List.getElem_cons_succ, List.setIfInBounds_toArray, List.set_cons_zero, List.set_cons_succ]
      refine wpAnyH_take (i := 5) (v := ((.pointer (some ⟨B3, 256, none⟩)))) rfl (by kernel_rfl) (by kernel_rfl) (by kernel_rfl) (fun _ _ _ h => h) (Or.inl ⟨by kernel_rfl, by intro w' hS; obtain ⟨z0, z1, -, -, -⟩ := hS; go_simp⟩) hH0 ?_
      simp only [Act.put, List.getElem_toArray, List.getElem_cons_zero, List.getElem_cons_succ, List.setIfInBounds_toArray, List.set_cons_zero, List.set_cons_succ]
      refine wpAnyH_take (i := 6) (v := ((.slice (some ⟨b', o', none⟩) n c'))) rfl (by kernel_rfl) (by kernel_rfl) (by kernel_rfl) (fun _ _ _ h => h) (Or.inl ⟨by kernel_rfl, by intro w' hS; obtain ⟨z0, z1, -, -, -⟩ := hS; go_simp⟩) hH0 ?_
      simp only [Act.put, List.getElem_toArray, List.getElem_cons_zero, List.getElem_cons_succ, List.setIfInBounds_toArray, List.set_cons_zero, List.set_cons_succ]
      refine wpAnyH_take (i := 7) (v := ((.int .i64 (k : Int)))) rfl (by kernel_rfl) (by kernel_rfl) (by kernel_rfl) (fun _ _ _ h => h) (Or.inl ⟨by kernel_rfl, by intro w' hS; obtain ⟨z0, z1, -, -, -⟩ := hS; go_simp⟩) hH0 ?_
      simp only [Act.put, List.getElem_toArray, List.getElem_cons_zero, List.getElem_cons_succ, List.setIfInBounds_toArray, List.set_cons_zero, List.set_cons_succ]
      refine wpAnyH_take (i := 8) (v := ((.pointer (some ⟨b', o' + k * 33, none⟩)))) rfl (by kernel_rfl) (by kernel_rfl) (by kernel_rfl) (fun _ _ _ h => h) (Or.inl ⟨by kernel_rfl, by intro w' hS; obtain ⟨z0, z1, -, -, -⟩ := hS; go_simp⟩) hH0 ?_
      simp only [Act.put, List.getElem_toArray, List.getElem_cons_zero, List.getElem_cons_succ, List.setIfInBounds_toArray, List.set_cons_zero, List.set_cons_succ]
      refine wpAnyH_take (i := 9) (v := (.agg (ndV x).toArray)) rfl (by kernel_rfl) (by kernel_rfl) (by kernel_rfl) (fun _ _ _ h => h) (yieldsIf_load_mid (by kernel_rfl) 62 (.tmp 34) rfl b' (o' + k * 33) rfl (ndV x) _ (fun w' h => h.2.2.2.1) Tryd.underlying62 rfl (SZL.out x HXH.out)) hH0 ?_
      simp only [Act.put, List.getElem_toArray, List.getElem_cons_zero, List.getElem_cons_succ, List.setIfInBounds_toArray, List.set_cons_zero, List.set_cons_succ]
      refine wpAnyH_take (i := 10) (v := ((.bool false))) rfl (by kernel_rfl) (by kernel_rfl) (by kernel_rfl) (fun _ _ _ h => h) (Or.inl ⟨by kernel_rfl, by intro w' hS; obtain ⟨z0, z1, -, -, -⟩ := hS; go_simp⟩) hH0 ?_
      simp only [Act.put, List.getElem_toArray, List.getElem_cons_zero, List.getElem_cons_succ, List.setIfInBounds_toArray, List.set_cons_zero, List.set_cons_succ]
      refine wpAnyH_done (by kernel_rfl) ?_ _
      refine NoPanic.normal ?_
      have HBF := Lib.hid hS0.2.2.2.2
      clear hS0 hat hat' heq
      go_wp2_with fail
      go_roundw
      case rel => exact ⟨k + 1, by go_num, HKN.out, HBF.out⟩
      case measure => simp [intOf]; omega
    · obtain rfl : k = n := by omega
      have hkn' : ¬ (k : Int) < (k : Int) := by omega
      have HF := Lib.hid (HB1.out.trans (HBR.out.mono HB1.out.size))
      clear hkn
      go_wp2_with fail
      go_ret
      exact ⟨rfl, HF.out⟩
end Go.Proofs.YtngmpcmeebcdmaaDoor
