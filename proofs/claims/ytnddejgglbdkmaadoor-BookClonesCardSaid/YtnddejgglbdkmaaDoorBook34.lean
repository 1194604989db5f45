/- The walk of Same. -/
import Derived.Test.YtnddejgglbdkmaaDoorBook33
namespace Go.Proofs.YtnddejgglbdkmaaDoor
set_option linter.unusedVariables false
set_option linter.unusedSimpArgs false
open Go.ChangeShapes Go.WideShapes Go.ChangeAt Go.RowKit Go.Maps

theorem equal_lit (w : World) {B1 B2 : Nat} (v1 v2 : Value) (ys zs : List HV) (r : Bool) (h1 : w.ownsRow B1 94 33 v1 ys.length (ys.flatMap HV.enc)) (h2 : w.ownsRow B2 94 33 v2 zs.length (zs.flatMap HV.enc)) (l1 : ys.length ≤ 1000000) (l2 : zs.length ≤ 1000000) (hr : sameL ys zs = r) :
    Calls Tryd.prog 39 #[v1, v2] w fun e w' => e = .returned (.bool r) ∧ Below w.heap.size w w' := by
  rw [← hr]; exact equal_is w B1 B2 v1 v2 ys zs h1 h2 l1 l2
theorem two_neq (a b : Int) (w : World) : (binOp .neq 23 (.agg #[.int .u64 a, .int .u64 b]) (.agg #[.int .u64 a, .int .u64 b])).run Tryd.prog w = .ok (.bool false) w := by
  obtain ⟨i, hi⟩ := info_of_underlying Tryd.underlying22
  have hc : Tryd.prog.cellsOf 22 = 1 := by kernel_rfl
  have hp : Tryd.prog.plainKey 22 = true := by unfold Program.plainKey; rw [Tryd.underlying22]
  have q0 := run_part_plain (P := Tryd.prog) w hp (xs := #[.int .u64 a, .int .u64 b]) (off := 0) (v := .int .u64 a) rfl
  have q1 := run_part_plain (P := Tryd.prog) w hp (xs := #[.int .u64 a, .int .u64 b]) (off := 1) (v := .int .u64 b) rfl
  have e0 := run_equalIn_int (P := Tryd.prog) w 9998 22 .u64 .u64 a a Tryd.underlying22
  have e1 := run_equalIn_int (P := Tryd.prog) w 9998 22 .u64 .u64 b b Tryd.underlying22
  rw [run_neq_struct, run_equalIn_array w 9999 _ _ Tryd.underlying23 hi, hc]
  have hr : List.range 2 = [0, 1] := rfl
  rw [hr]
  simp only [Op.eqItems, Nat.zero_mul, Nat.one_mul, Sem.run_bind, q0, q1, e0, e1, Result.andThen_ok, beq_self_eq_true, Bool.not_true, Bool.false_eq_true, if_false, Sem.run_pure, Bool.not_false]
theorem IsSums.len {l : List Ent} {ys : List HV} (h : IsSums l ys) : ys.length ≤ l.length := by
  have hd : (ys.map (·.k)).Nodup := by
    unfold List.Nodup
    rw [List.pairwise_map]
    exact h.rise.imp fun {a b} hab e => by rw [e, lexC_refl] at hab; exact absurd hab (by decide)
  have := len_sub (ys.map (·.k)) (l.map (·.1)) hd (fun k hk => by
    obtain ⟨x, hx, e⟩ := List.mem_map.1 hk
    exact List.mem_map.2 ⟨_, h.of x hx, e⟩)
  simpa using this
/-- two books lie apart or not, each where it lies; what the region of Same reads. -/
structure Pair2 (w : World) (g g' : Nat) (b b' : Bk) (m0 m1 : Nat) (v : Value) (m0' m1' : Nat) (v' : Value) : Prop where
  a : BookAt w g m0 m1 v b
  a' : BookAt w g' m0' m1' v' b'
  ok : b.ok
  ok' : b'.ok
  l : ∀ f, (b.side f).length ≤ 1000000
  l' : ∀ f, (b'.side f).length ≤ 1000000
  k0 : b'.k0 = b.k0
  k1 : b'.k1 = b.k1
theorem sums_below {w : World} {g m0 m1 : Nat} {v : Value} {b : Bk} (h : BookAt w g m0 m1 v b) (hb : b.ok) (hl : ∀ f, (b.side f).length ≤ 1000000) (W : World) (f : Int) (hf : isSide f) (hW : Below w.heap.size w W) :
    Calls Tryd.prog 28 #[.pointer (some ⟨g, 0, none⟩), .int .i64 f] W fun e w' => ∃ x ys, e = .returned x ∧ IsSums (b.side f) ys ∧ w'.ownsRow W.heap.size 94 33 x ys.length (ys.flatMap HV.enc) ∧ ys.length ≤ 1000000 ∧ Below w.heap.size w w' ∧ Below W.heap.size W w' :=
  (sums_is W g m0 m1 v b f (h.kept (Kept.of_below (S := fun _ => False) hW) (fun _ _ h => h)) hb hf (hl f)).mono fun e w' ⟨x, ys, he, hs, ho, hbl⟩ => ⟨x, ys, he, hs, ho, Nat.le_trans hs.len (hl f), hW.trans (hbl.mono hW.size), hbl⟩

set_option maxRecDepth 100000 in
set_option maxHeartbeats 8000000 in
theorem same_len (w : World) (g g' : Nat) (b b' : Bk) (m0 m1 : Nat) (v : Value) (m0' m1' : Nat) (v' : Value) (hp : Pair2 w g g' b b' m0 m1 v m0' m1' v') (hlen : ¬ b.offers.length = b'.offers.length) :
    Calls Tryd.prog 20 #[.pointer (some ⟨g, 0, none⟩), .pointer (some ⟨g', 0, none⟩)] w fun e w' => e = .returned (.bool false) ∧ Below w.heap.size w w' := by
  obtain ⟨ha, ha', hb, hb', hl, hl', ek0, ek1⟩ := hp
  obtain ⟨va, vc, hv⟩ := own_slice ha.row
  obtain ⟨va', vc', hv'⟩ := own_slice ha'.row
  have cell : ∀ {w' : World} {G i : Nat} {u : Value}, w.cell? ⟨G, i, none⟩ = some u → Below w.heap.size w w' → w'.cell? ⟨G, i, none⟩ = some u := fun h hbw => cell_held (Kept.of_below (S := fun _ => False) hbw) h (fun h => h)
  have hc2 : ∀ w', Below w.heap.size w w' → w'.cell? ⟨g, 2, none⟩ = some v := fun w' h => cell (ha.obj.cell_is rfl) h
  have hd2 : ∀ w', Below w.heap.size w w' → w'.cell? ⟨g', 2, none⟩ = some v' := fun w' h => cell (ha'.obj.cell_is rfl) h
  have hc3 : ∀ w', Below w.heap.size w w' → w'.cell? ⟨g, 3, none⟩ = some (.int .u64 (b.k0 : Int)) := fun w' h => cell (ha.obj.cell_is rfl) h
  have hc4 : ∀ w', Below w.heap.size w w' → w'.cell? ⟨g, 4, none⟩ = some (.int .u64 (b.k1 : Int)) := fun w' h => cell (ha.obj.cell_is rfl) h
  have hd3 : ∀ w', Below w.heap.size w w' → w'.cell? ⟨g', 3, none⟩ = some (.int .u64 (b'.k0 : Int)) := fun w' h => cell (ha'.obj.cell_is rfl) h
  have hd4 : ∀ w', Below w.heap.size w w' → w'.cell? ⟨g', 4, none⟩ = some (.int .u64 (b'.k1 : Int)) := fun w' h => cell (ha'.obj.cell_is rfl) h
  rw [ek0] at hd3
  rw [ek1] at hd4
  have HSUM := Lib.hid (fun W f hf (hW : Below w.heap.size w W) => (sums_below ha hb hl W f hf hW).mono fun e w' (h : ∃ x ys, e = .returned x ∧ IsSums (b.side f) ys ∧ w'.ownsRow W.heap.size 94 33 x ys.length (ys.flatMap HV.enc) ∧ ys.length ≤ 1000000 ∧ Below w.heap.size w w' ∧ Below W.heap.size W w') =>
    (show ∃ x ys, e = .returned x ∧ IsSums (b.side f) ys ∧ w'.ownsRow W.heap.size 94 33 x ys.length (ys.flatMap HV.enc) ∧ ys.length ≤ 1000000 ∧ Below w.heap.size w w' by obtain ⟨x, ys, h1, h2, h3, h4, h5, _⟩ := h; exact ⟨x, ys, h1, h2, h3, h4, h5⟩))
  have HSUM' := Lib.hid (sums_below ha' hb' hl')
  have hn := hb.len
  have hn' := hb'.len
  have hbd : Below w.heap.size w w.drew := (Below.refl _ _).drew
  have hbr := Below.refl w.heap.size w
  have HA := Lib.hid ha
  have HA' := Lib.hid ha'
  have HB := Lib.hid hb
  have HB' := Lib.hid hb'
  obtain ⟨K0, hK0⟩ : ∃ x, x = b.k0 := ⟨_, rfl⟩
  obtain ⟨K1, hK1⟩ : ∃ x, x = b.k1 := ⟨_, rfl⟩
  obtain ⟨n, hnn⟩ : ∃ x, x = b.offers.length := ⟨_, rfl⟩
  obtain ⟨n', hnn'⟩ : ∃ x, x = b'.offers.length := ⟨_, rfl⟩
  rw [← hK0] at hc3 hd3
  rw [← hK1] at hc4 hd4
  rw [hv, ← hnn] at hc2
  rw [hv', ← hnn'] at hd2
  rw [← hnn] at hn hlen
  rw [← hnn'] at hn' hlen
  have HC2 := Lib.hid hc2
  have HC3 := Lib.hid hc3
  have HC4 := Lib.hid hc4
  have HD2 := Lib.hid hd2
  have HD3 := Lib.hid hd3
  have HD4 := Lib.hid hd4
  have htn := fun W => two_neq (K0 : Int) (K1 : Int) W
  have HNN := Lib.hid hnn
  have HNN' := Lib.hid hnn'
  have HV := Lib.hid hv
  have HV' := Lib.hid hv'
  have hlen2 : decide ((n : Int) = (n' : Int)) = false := decide_eq_false (by omega)
  have hlen3 : ((n : Int) != (n' : Int)) = true := by simpa using (show ¬ (n : Int) = (n' : Int) by omega)
  clear ha ha' hb hb' hl hl' ek0 ek1 cell hc2 hc3 hc4 hd2 hd3 hd4 hK0 hK1 hnn hnn' hv hv'
  go_enter Tryd.func20, Tryd.ntmps20
  go_upto_region 3 with (fail)
  refine wp_region_noPanic ?_
  refine wp_region_held_drew (S := fun w' => Below w.heap.size w w') (by kernel_rfl) hbd (fun hH0 => ?_)
  refine wpAnyH_take (i := 0) (v := (.pointer (some ⟨g, 0, none⟩))) rfl (by kernel_rfl) (by kernel_rfl) (by kernel_rfl) (fun _ _ _ h => h) (Or.inl ⟨by kernel_rfl, by intro w' hS; go_simp⟩) hH0 ?_
  simp only [Act.put, List.getElem_toArray, List.getElem_cons_zero, List.getElem_cons_succ, List.setIfInBounds_toArray, List.set_cons_zero, List.set_cons_succ]
  refine wpAnyH_take (i := 1) (v := (.pointer (some ⟨g, 0, none⟩))) rfl (by kernel_rfl) (by kernel_rfl) (by kernel_rfl) (fun _ _ _ h => h) (Or.inl ⟨by kernel_rfl, by intro w' hS; go_simp⟩) hH0 ?_
  simp only [Act.put, List.getElem_toArray, List.getElem_cons_zero, List.getElem_cons_succ, List.setIfInBounds_toArray, List.set_cons_zero, List.set_cons_succ]
  refine wpAnyH_take (i := 2) (v := (.pointer (some ⟨g, 3, none⟩))) rfl (by kernel_rfl) (by kernel_rfl) (by kernel_rfl) (fun _ _ _ h => h) (Or.inl ⟨by kernel_rfl, by intro w' hS; go_simp⟩) hH0 ?_
  simp only [Act.put, List.getElem_toArray, List.getElem_cons_zero, List.getElem_cons_succ, List.setIfInBounds_toArray, List.set_cons_zero, List.set_cons_succ]
  refine wpAnyH_take (i := 3) (v := (.agg #[.int .u64 (K0 : Int), .int .u64 (K1 : Int)])) rfl (by kernel_rfl) (by kernel_rfl) (by kernel_rfl) (fun _ _ _ h => h) (Or.inl ⟨by kernel_rfl, by intro w' hS; have e0 := HC3.out w' hS; have e1 := HC4.out w' hS; go_simp⟩) hH0 ?_
  simp only [Act.put, List.getElem_toArray, List.getElem_cons_zero, List.getElem_cons_succ, List.setIfInBounds_toArray, List.set_cons_zero, List.set_cons_succ]
  refine wpAnyH_take (i := 4) (v := (.pointer (some ⟨g', 0, none⟩))) rfl (by kernel_rfl) (by kernel_rfl) (by kernel_rfl) (fun _ _ _ h => h) (Or.inl ⟨by kernel_rfl, by intro w' hS; go_simp⟩) hH0 ?_
  simp only [Act.put, List.getElem_toArray, List.getElem_cons_zero, List.getElem_cons_succ, List.setIfInBounds_toArray, List.set_cons_zero, List.set_cons_succ]
  refine wpAnyH_take (i := 5) (v := (.pointer (some ⟨g', 0, none⟩))) rfl (by kernel_rfl) (by kernel_rfl) (by kernel_rfl) (fun _ _ _ h => h) (Or.inl ⟨by kernel_rfl, by intro w' hS; go_simp⟩) hH0 ?_
  simp only [Act.put, List.getElem_toArray, List.getElem_cons_zero, List.getElem_cons_succ, List.setIfInBounds_toArray, List.set_cons_zero, List.set_cons_succ]
  refine wpAnyH_take (i := 6) (v := (.pointer (some ⟨g', 3, none⟩))) rfl (by kernel_rfl) (by kernel_rfl) (by kernel_rfl) (fun _ _ _ h => h) (Or.inl ⟨by kernel_rfl, by intro w' hS; go_simp⟩) hH0 ?_
  simp only [Act.put, List.getElem_toArray, List.getElem_cons_zero, List.getElem_cons_succ, List.setIfInBounds_toArray, List.set_cons_zero, List.set_cons_succ]
  refine wpAnyH_take (i := 7) (v := (.agg #[.int .u64 (K0 : Int), .int .u64 (K1 : Int)])) rfl (by kernel_rfl) (by kernel_rfl) (by kernel_rfl) (fun _ _ _ h => h) (Or.inl ⟨by kernel_rfl, by intro w' hS; have e0 := HD3.out w' hS; have e1 := HD4.out w' hS; go_simp⟩) hH0 ?_
  simp only [Act.put, List.getElem_toArray, List.getElem_cons_zero, List.getElem_cons_succ, List.setIfInBounds_toArray, List.set_cons_zero, List.set_cons_succ]
  refine wpAnyH_take (i := 8) (v := (.bool false)) rfl (by kernel_rfl) (by kernel_rfl) (by kernel_rfl) (fun _ _ _ h => h) (Or.inl ⟨by kernel_rfl, by intro w' hS; go_simp⟩) hH0 ?_
  simp only [Act.put, List.getElem_toArray, List.getElem_cons_zero, List.getElem_cons_succ, List.setIfInBounds_toArray, List.set_cons_zero, List.set_cons_succ]
  refine wpAnyH_take (i := 9) (v := (.bool false)) rfl (by kernel_rfl) (by kernel_rfl) (by kernel_rfl) (fun _ _ _ h => h) (Or.inl ⟨by kernel_rfl, by intro w' hS; go_simp⟩) hH0 ?_
  simp only [Act.put, List.getElem_toArray, List.getElem_cons_zero, List.getElem_cons_succ, List.setIfInBounds_toArray, List.set_cons_zero, List.set_cons_succ]
  refine wpAnyH_take (i := 10) (v := (.pointer (some ⟨g, 0, none⟩))) rfl (by kernel_rfl) (by kernel_rfl) (by kernel_rfl) (fun _ _ _ h => h) (Or.inl ⟨by kernel_rfl, by intro w' hS; go_simp⟩) hH0 ?_
  simp only [Act.put, List.getElem_toArray, List.getElem_cons_zero, List.getElem_cons_succ, List.setIfInBounds_toArray, List.set_cons_zero, List.set_cons_succ]
  refine wpAnyH_take (i := 11) (v := (.pointer (some ⟨g, 0, none⟩))) rfl (by kernel_rfl) (by kernel_rfl) (by kernel_rfl) (fun _ _ _ h => h) (Or.inl ⟨by kernel_rfl, by intro w' hS; go_simp⟩) hH0 ?_
  simp only [Act.put, List.getElem_toArray, List.getElem_cons_zero, List.getElem_cons_succ, List.setIfInBounds_toArray, List.set_cons_zero, List.set_cons_succ]
  refine wpAnyH_take (i := 12) (v := (.pointer (some ⟨g, 2, none⟩))) rfl (by kernel_rfl) (by kernel_rfl) (by kernel_rfl) (fun _ _ _ h => h) (Or.inl ⟨by kernel_rfl, by intro w' hS; go_simp⟩) hH0 ?_
  simp only [Act.put, List.getElem_toArray, List.getElem_cons_zero, List.getElem_cons_succ, List.setIfInBounds_toArray, List.set_cons_zero, List.set_cons_succ]
  refine wpAnyH_take (i := 13) (v := (.slice va n vc)) rfl (by kernel_rfl) (by kernel_rfl) (by kernel_rfl) (fun _ _ _ h => h) (Or.inl ⟨by kernel_rfl, by intro w' hS; have e0 := HC2.out w' hS; go_simp⟩) hH0 ?_
  simp only [Act.put, List.getElem_toArray, List.getElem_cons_zero, List.getElem_cons_succ, List.setIfInBounds_toArray, List.set_cons_zero, List.set_cons_succ]
  refine wpAnyH_take (i := 14) (v := (.int .i64 (n : Int))) rfl (by kernel_rfl) (by kernel_rfl) (by kernel_rfl) (fun _ _ _ h => h) (Or.inl ⟨by kernel_rfl, by intro w' hS; go_simp⟩) hH0 ?_
  simp only [Act.put, List.getElem_toArray, List.getElem_cons_zero, List.getElem_cons_succ, List.setIfInBounds_toArray, List.set_cons_zero, List.set_cons_succ]
  refine wpAnyH_take (i := 15) (v := (.pointer (some ⟨g', 0, none⟩))) rfl (by kernel_rfl) (by kernel_rfl) (by kernel_rfl) (fun _ _ _ h => h) (Or.inl ⟨by kernel_rfl, by intro w' hS; go_simp⟩) hH0 ?_
  simp only [Act.put, List.getElem_toArray, List.getElem_cons_zero, List.getElem_cons_succ, List.setIfInBounds_toArray, List.set_cons_zero, List.set_cons_succ]
  refine wpAnyH_take (i := 16) (v := (.pointer (some ⟨g', 0, none⟩))) rfl (by kernel_rfl) (by kernel_rfl) (by kernel_rfl) (fun _ _ _ h => h) (Or.inl ⟨by kernel_rfl, by intro w' hS; go_simp⟩) hH0 ?_
  simp only [Act.put, List.getElem_toArray, List.getElem_cons_zero, List.getElem_cons_succ, List.setIfInBounds_toArray, List.set_cons_zero, List.set_cons_succ]
  refine wpAnyH_take (i := 17) (v := (.pointer (some ⟨g', 2, none⟩))) rfl (by kernel_rfl) (by kernel_rfl) (by kernel_rfl) (fun _ _ _ h => h) (Or.inl ⟨by kernel_rfl, by intro w' hS; go_simp⟩) hH0 ?_
  simp only [Act.put, List.getElem_toArray, List.getElem_cons_zero, List.getElem_cons_succ, List.setIfInBounds_toArray, List.set_cons_zero, List.set_cons_succ]
  refine wpAnyH_take (i := 18) (v := (.slice va' n' vc')) rfl (by kernel_rfl) (by kernel_rfl) (by kernel_rfl) (fun _ _ _ h => h) (Or.inl ⟨by kernel_rfl, by intro w' hS; have e0 := HD2.out w' hS; go_simp⟩) hH0 ?_
  simp only [Act.put, List.getElem_toArray, List.getElem_cons_zero, List.getElem_cons_succ, List.setIfInBounds_toArray, List.set_cons_zero, List.set_cons_succ]
  refine wpAnyH_take (i := 19) (v := (.int .i64 (n' : Int))) rfl (by kernel_rfl) (by kernel_rfl) (by kernel_rfl) (fun _ _ _ h => h) (Or.inl ⟨by kernel_rfl, by intro w' hS; go_simp⟩) hH0 ?_
  simp only [Act.put, List.getElem_toArray, List.getElem_cons_zero, List.getElem_cons_succ, List.setIfInBounds_toArray, List.set_cons_zero, List.set_cons_succ]
  refine wpAnyH_take (i := 20) (v := (.bool true)) rfl (by kernel_rfl) (by kernel_rfl) (by kernel_rfl) (fun _ _ _ h => h) (Or.inl ⟨by kernel_rfl, by intro w' hS; go_simp⟩) hH0 ?_
  simp only [Act.put, List.getElem_toArray, List.getElem_cons_zero, List.getElem_cons_succ, List.setIfInBounds_toArray, List.set_cons_zero, List.set_cons_succ]
  refine wpAnyH_take (i := 21) (v := (.bool true)) rfl (by kernel_rfl) (by kernel_rfl) (by kernel_rfl) (fun _ _ _ h => h) (Or.inl ⟨by kernel_rfl, by intro w' hS; go_simp⟩) hH0 ?_
  simp only [Act.put, List.getElem_toArray, List.getElem_cons_zero, List.getElem_cons_succ, List.setIfInBounds_toArray, List.set_cons_zero, List.set_cons_succ]
  refine wpAnyH_take (i := 22) (v := (.bool true)) rfl (by kernel_rfl) (by kernel_rfl) (by kernel_rfl) (fun _ _ _ h => h) (Or.inl ⟨by kernel_rfl, by intro w' hS; go_simp⟩) hH0 ?_
  simp only [Act.put, List.getElem_toArray, List.getElem_cons_zero, List.getElem_cons_succ, List.setIfInBounds_toArray, List.set_cons_zero, List.set_cons_succ]
  refine wpAnyH_take (i := 23) (v := undef) rfl (by kernel_rfl) (by kernel_rfl) (by kernel_rfl) (fun _ _ _ h => h) (Or.inr ⟨by kernel_rfl, rfl⟩) hH0 ?_
  simp only [Act.put, List.getElem_toArray, List.getElem_cons_zero, List.getElem_cons_succ, List.setIfInBounds_toArray, List.set_cons_zero, List.set_cons_succ]
  refine wpAnyH_take (i := 24) (v := undef) rfl (by kernel_rfl) (by kernel_rfl) (by kernel_rfl) (fun _ _ _ h => h) (Or.inr ⟨by kernel_rfl, rfl⟩) hH0 ?_
  simp only [Act.put, List.getElem_toArray, List.getElem_cons_zero, List.getElem_cons_succ, List.setIfInBounds_toArray, List.set_cons_zero, List.set_cons_succ]
  refine wpAnyH_take (i := 25) (v := undef) rfl (by kernel_rfl) (by kernel_rfl) (by kernel_rfl) (fun _ _ _ h => h) (Or.inr ⟨by kernel_rfl, rfl⟩) hH0 ?_
  simp only [Act.put, List.getElem_toArray, List.getElem_cons_zero, List.getElem_cons_succ, List.setIfInBounds_toArray, List.set_cons_zero, List.set_cons_succ]
  refine wpAnyH_take (i := 26) (v := undef) rfl (by kernel_rfl) (by kernel_rfl) (by kernel_rfl) (fun _ _ _ h => h) (Or.inr ⟨by kernel_rfl, rfl⟩) hH0 ?_
  simp only [Act.put, List.getElem_toArray, List.getElem_cons_zero, List.getElem_cons_succ, List.setIfInBounds_toArray, List.set_cons_zero, List.set_cons_succ]
  refine wpAnyH_take (i := 27) (v := undef) rfl (by kernel_rfl) (by kernel_rfl) (by kernel_rfl) (fun _ _ _ h => h) (Or.inr ⟨by kernel_rfl, rfl⟩) hH0 ?_
  simp only [Act.put, List.getElem_toArray, List.getElem_cons_zero, List.getElem_cons_succ, List.setIfInBounds_toArray, List.set_cons_zero, List.set_cons_succ]
  refine wpAnyH_take (i := 28) (v := undef) rfl (by kernel_rfl) (by kernel_rfl) (by kernel_rfl) (fun _ _ _ h => h) (Or.inr ⟨by kernel_rfl, rfl⟩) hH0 ?_
  simp only [Act.put, List.getElem_toArray, List.getElem_cons_zero, List.getElem_cons_succ, List.setIfInBounds_toArray, List.set_cons_zero, List.set_cons_succ]
  refine wpAnyH_take (i := 29) (v := (.bool true)) rfl (by kernel_rfl) (by kernel_rfl) (by kernel_rfl) (fun _ _ _ h => h) (Or.inl ⟨by kernel_rfl, by intro w' hS; go_simp⟩) hH0 ?_
  simp only [Act.put, List.getElem_toArray, List.getElem_cons_zero, List.getElem_cons_succ, List.setIfInBounds_toArray, List.set_cons_zero, List.set_cons_succ]
  refine wpAnyH_take (i := 30) (v := (.bool true)) rfl (by kernel_rfl) (by kernel_rfl) (by kernel_rfl) (fun _ _ _ h => h) (Or.inl ⟨by kernel_rfl, by intro w' hS; go_simp⟩) hH0 ?_
  simp only [Act.put, List.getElem_toArray, List.getElem_cons_zero, List.getElem_cons_succ, List.setIfInBounds_toArray, List.set_cons_zero, List.set_cons_succ]
  refine wpAnyH_take (i := 31) (v := undef) rfl (by kernel_rfl) (by kernel_rfl) (by kernel_rfl) (fun _ _ _ h => h) (Or.inr ⟨by kernel_rfl, rfl⟩) hH0 ?_
  simp only [Act.put, List.getElem_toArray, List.getElem_cons_zero, List.getElem_cons_succ, List.setIfInBounds_toArray, List.set_cons_zero, List.set_cons_succ]
  refine wpAnyH_take (i := 32) (v := undef) rfl (by kernel_rfl) (by kernel_rfl) (by kernel_rfl) (fun _ _ _ h => h) (Or.inr ⟨by kernel_rfl, rfl⟩) hH0 ?_
  simp only [Act.put, List.getElem_toArray, List.getElem_cons_zero, List.getElem_cons_succ, List.setIfInBounds_toArray, List.set_cons_zero, List.set_cons_succ]
  refine wpAnyH_take (i := 33) (v := undef) rfl (by kernel_rfl) (by kernel_rfl) (by kernel_rfl) (fun _ _ _ h => h) (Or.inr ⟨by kernel_rfl, rfl⟩) hH0 ?_
  simp only [Act.put, List.getElem_toArray, List.getElem_cons_zero, List.getElem_cons_succ, List.setIfInBounds_toArray, List.set_cons_zero, List.set_cons_succ]
  refine wpAnyH_take (i := 34) (v := undef) rfl (by kernel_rfl) (by kernel_rfl) (by kernel_rfl) (fun _ _ _ h => h) (Or.inr ⟨by kernel_rfl, rfl⟩) hH0 ?_
  simp only [Act.put, List.getElem_toArray, List.getElem_cons_zero, List.getElem_cons_succ, List.setIfInBounds_toArray, List.set_cons_zero, List.set_cons_succ]
  refine wpAnyH_take (i := 35) (v := undef) rfl (by kernel_rfl) (by kernel_rfl) (by kernel_rfl) (fun _ _ _ h => h) (Or.inr ⟨by kernel_rfl, rfl⟩) hH0 ?_
  simp only [Act.put, List.getElem_toArray, List.getElem_cons_zero, List.getElem_cons_succ, List.setIfInBounds_toArray, List.set_cons_zero, List.set_cons_succ]
  refine wpAnyH_take (i := 36) (v := undef) rfl (by kernel_rfl) (by kernel_rfl) (by kernel_rfl) (fun _ _ _ h => h) (Or.inr ⟨by kernel_rfl, rfl⟩) hH0 ?_
  simp only [Act.put, List.getElem_toArray, List.getElem_cons_zero, List.getElem_cons_succ, List.setIfInBounds_toArray, List.set_cons_zero, List.set_cons_succ]
  refine wpAnyH_take (i := 37) (v := (.bool true)) rfl (by kernel_rfl) (by kernel_rfl) (by kernel_rfl) (fun _ _ _ h => h) (Or.inl ⟨by kernel_rfl, by intro w' hS; go_simp⟩) hH0 ?_
  simp only [Act.put, List.getElem_toArray, List.getElem_cons_zero, List.getElem_cons_succ, List.setIfInBounds_toArray, List.set_cons_zero, List.set_cons_succ]
  refine wpAnyH_done (by kernel_rfl) ?_ _
  refine NoPanic.normal ?_
  go_wp2
  go_ret
  exact ⟨rfl, hbd⟩

set_option maxRecDepth 100000 in
set_option maxHeartbeats 8000000 in
theorem same_s0 (w : World) (g g' : Nat) (b b' : Bk) (m0 m1 : Nat) (v : Value) (m0' m1' : Nat) (v' : Value) (hp : Pair2 w g g' b b' m0 m1 v m0' m1' v') (hlen : b.offers.length = b'.offers.length) (hq0 : ¬ ∀ k, look (b.side 0) k = look (b'.side 0) k) :
    Calls Tryd.prog 20 #[.pointer (some ⟨g, 0, none⟩), .pointer (some ⟨g', 0, none⟩)] w fun e w' => e = .returned (.bool false) ∧ Below w.heap.size w w' := by
  obtain ⟨ha, ha', hb, hb', hl, hl', ek0, ek1⟩ := hp
  obtain ⟨va, vc, hv⟩ := own_slice ha.row
  obtain ⟨va', vc', hv'⟩ := own_slice ha'.row
  have cell : ∀ {w' : World} {G i : Nat} {u : Value}, w.cell? ⟨G, i, none⟩ = some u → Below w.heap.size w w' → w'.cell? ⟨G, i, none⟩ = some u := fun h hbw => cell_held (Kept.of_below (S := fun _ => False) hbw) h (fun h => h)
  have hc2 : ∀ w', Below w.heap.size w w' → w'.cell? ⟨g, 2, none⟩ = some v := fun w' h => cell (ha.obj.cell_is rfl) h
  have hd2 : ∀ w', Below w.heap.size w w' → w'.cell? ⟨g', 2, none⟩ = some v' := fun w' h => cell (ha'.obj.cell_is rfl) h
  have hc3 : ∀ w', Below w.heap.size w w' → w'.cell? ⟨g, 3, none⟩ = some (.int .u64 (b.k0 : Int)) := fun w' h => cell (ha.obj.cell_is rfl) h
  have hc4 : ∀ w', Below w.heap.size w w' → w'.cell? ⟨g, 4, none⟩ = some (.int .u64 (b.k1 : Int)) := fun w' h => cell (ha.obj.cell_is rfl) h
  have hd3 : ∀ w', Below w.heap.size w w' → w'.cell? ⟨g', 3, none⟩ = some (.int .u64 (b'.k0 : Int)) := fun w' h => cell (ha'.obj.cell_is rfl) h
  have hd4 : ∀ w', Below w.heap.size w w' → w'.cell? ⟨g', 4, none⟩ = some (.int .u64 (b'.k1 : Int)) := fun w' h => cell (ha'.obj.cell_is rfl) h
  rw [ek0] at hd3
  rw [ek1] at hd4
  have HSUM := Lib.hid (fun W f hf (hW : Below w.heap.size w W) => (sums_below ha hb hl W f hf hW).mono fun e w' (h : ∃ x ys, e = .returned x ∧ IsSums (b.side f) ys ∧ w'.ownsRow W.heap.size 94 33 x ys.length (ys.flatMap HV.enc) ∧ ys.length ≤ 1000000 ∧ Below w.heap.size w w' ∧ Below W.heap.size W w') =>
    (show ∃ x ys, e = .returned x ∧ IsSums (b.side f) ys ∧ w'.ownsRow W.heap.size 94 33 x ys.length (ys.flatMap HV.enc) ∧ ys.length ≤ 1000000 ∧ Below w.heap.size w w' by obtain ⟨x, ys, h1, h2, h3, h4, h5, _⟩ := h; exact ⟨x, ys, h1, h2, h3, h4, h5⟩))
  have HSUM' := Lib.hid (sums_below ha' hb' hl')
  have hn := hb.len
  have hn' := hb'.len
  have hbd : Below w.heap.size w w.drew := (Below.refl _ _).drew
  have hbr := Below.refl w.heap.size w
  have HA := Lib.hid ha
  have HA' := Lib.hid ha'
  have HB := Lib.hid hb
  have HB' := Lib.hid hb'
  have HQ0 := Lib.hid (fun ys zs (h1 : IsSums (b.side 0) ys) (h2 : IsSums (b'.side 0) zs) => (show sameL ys zs = false from Bool.eq_false_iff.2 (fun e => hq0 ((sameL_iff h1 h2 (ha.map0.nodup) (ha'.map0.nodup) (hb.nums 0) (hb'.nums 0)).1 e))))
  obtain ⟨K0, hK0⟩ : ∃ x, x = b.k0 := ⟨_, rfl⟩
  obtain ⟨K1, hK1⟩ : ∃ x, x = b.k1 := ⟨_, rfl⟩
  obtain ⟨n, hnn⟩ : ∃ x, x = b.offers.length := ⟨_, rfl⟩
  obtain ⟨n', hnn'⟩ : ∃ x, x = b'.offers.length := ⟨_, rfl⟩
  rw [← hK0] at hc3 hd3
  rw [← hK1] at hc4 hd4
  rw [hv, ← hnn] at hc2
  rw [hv', ← hnn'] at hd2
  rw [← hnn] at hn hlen
  rw [← hnn'] at hn' hlen
  have HC2 := Lib.hid hc2
  have HC3 := Lib.hid hc3
  have HC4 := Lib.hid hc4
  have HD2 := Lib.hid hd2
  have HD3 := Lib.hid hd3
  have HD4 := Lib.hid hd4
  have htn := fun W => two_neq (K0 : Int) (K1 : Int) W
  have HNN := Lib.hid hnn
  have HNN' := Lib.hid hnn'
  have HV := Lib.hid hv
  have HV' := Lib.hid hv'
  subst hlen
  clear ha ha' hb hb' hl hl' ek0 ek1 cell hc2 hc3 hc4 hd2 hd3 hd4 hK0 hK1 hnn hnn' hv hv'
  go_enter Tryd.func20, Tryd.ntmps20
  go_upto_region 3 with (fail)
  refine wp_region_noPanic ?_
  refine wp_region_held_drew (S := fun w' => Below w.heap.size w w') (by kernel_rfl) hbd (fun hH0 => ?_)
  refine wpAnyH_take (i := 0) (v := (.pointer (some ⟨g, 0, none⟩))) rfl (by kernel_rfl) (by kernel_rfl) (by kernel_rfl) (fun _ _ _ h => h) (Or.inl ⟨by kernel_rfl, by intro w' hS; go_simp⟩) hH0 ?_
  simp only [Act.put, List.getElem_toArray, List.getElem_cons_zero, List.getElem_cons_succ, List.setIfInBounds_toArray, List.set_cons_zero, List.set_cons_succ]
  refine wpAnyH_take (i := 1) (v := (.pointer (some ⟨g, 0, none⟩))) rfl (by kernel_rfl) (by kernel_rfl) (by kernel_rfl) (fun _ _ _ h => h) (Or.inl ⟨by kernel_rfl, by intro w' hS; go_simp⟩) hH0 ?_
  simp only [Act.put, List.getElem_toArray, List.getElem_cons_zero, List.getElem_cons_succ, List.setIfInBounds_toArray, List.set_cons_zero, List.set_cons_succ]
  refine wpAnyH_take (i := 2) (v := (.pointer (some ⟨g, 3, none⟩))) rfl (by kernel_rfl) (by kernel_rfl) (by kernel_rfl) (fun _ _ _ h => h) (Or.inl ⟨by kernel_rfl, by intro w' hS; go_simp⟩) hH0 ?_
  simp only [Act.put, List.getElem_toArray, List.getElem_cons_zero, List.getElem_cons_succ, List.setIfInBounds_toArray, List.set_cons_zero, List.set_cons_succ]
  refine wpAnyH_take (i := 3) (v := (.agg #[.int .u64 (K0 : Int), .int .u64 (K1 : Int)])) rfl (by kernel_rfl) (by kernel_rfl) (by kernel_rfl) (fun _ _ _ h => h) (Or.inl ⟨by kernel_rfl, by intro w' hS; have e0 := HC3.out w' hS; have e1 := HC4.out w' hS; go_simp⟩) hH0 ?_
  simp only [Act.put, List.getElem_toArray, List.getElem_cons_zero, List.getElem_cons_succ, List.setIfInBounds_toArray, List.set_cons_zero, List.set_cons_succ]
  refine wpAnyH_take (i := 4) (v := (.pointer (some ⟨g', 0, none⟩))) rfl (by kernel_rfl) (by kernel_rfl) (by kernel_rfl) (fun _ _ _ h => h) (Or.inl ⟨by kernel_rfl, by intro w' hS; go_simp⟩) hH0 ?_
  simp only [Act.put, List.getElem_toArray, List.getElem_cons_zero, List.getElem_cons_succ, List.setIfInBounds_toArray, List.set_cons_zero, List.set_cons_succ]
  refine wpAnyH_take (i := 5) (v := (.pointer (some ⟨g', 0, none⟩))) rfl (by kernel_rfl) (by kernel_rfl) (by kernel_rfl) (fun _ _ _ h => h) (Or.inl ⟨by kernel_rfl, by intro w' hS; go_simp⟩) hH0 ?_
  simp only [Act.put, List.getElem_toArray, List.getElem_cons_zero, List.getElem_cons_succ, List.setIfInBounds_toArray, List.set_cons_zero, List.set_cons_succ]
  refine wpAnyH_take (i := 6) (v := (.pointer (some ⟨g', 3, none⟩))) rfl (by kernel_rfl) (by kernel_rfl) (by kernel_rfl) (fun _ _ _ h => h) (Or.inl ⟨by kernel_rfl, by intro w' hS; go_simp⟩) hH0 ?_
  simp only [Act.put, List.getElem_toArray, List.getElem_cons_zero, List.getElem_cons_succ, List.setIfInBounds_toArray, List.set_cons_zero, List.set_cons_succ]
  refine wpAnyH_take (i := 7) (v := (.agg #[.int .u64 (K0 : Int), .int .u64 (K1 : Int)])) rfl (by kernel_rfl) (by kernel_rfl) (by kernel_rfl) (fun _ _ _ h => h) (Or.inl ⟨by kernel_rfl, by intro w' hS; have e0 := HD3.out w' hS; have e1 := HD4.out w' hS; go_simp⟩) hH0 ?_
  simp only [Act.put, List.getElem_toArray, List.getElem_cons_zero, List.getElem_cons_succ, List.setIfInBounds_toArray, List.set_cons_zero, List.set_cons_succ]
  refine wpAnyH_take (i := 8) (v := (.bool false)) rfl (by kernel_rfl) (by kernel_rfl) (by kernel_rfl) (fun _ _ _ h => h) (Or.inl ⟨by kernel_rfl, by intro w' hS; go_simp⟩) hH0 ?_
  simp only [Act.put, List.getElem_toArray, List.getElem_cons_zero, List.getElem_cons_succ, List.setIfInBounds_toArray, List.set_cons_zero, List.set_cons_succ]
  refine wpAnyH_take (i := 9) (v := (.bool false)) rfl (by kernel_rfl) (by kernel_rfl) (by kernel_rfl) (fun _ _ _ h => h) (Or.inl ⟨by kernel_rfl, by intro w' hS; go_simp⟩) hH0 ?_
  simp only [Act.put, List.getElem_toArray, List.getElem_cons_zero, List.getElem_cons_succ, List.setIfInBounds_toArray, List.set_cons_zero, List.set_cons_succ]
  refine wpAnyH_take (i := 10) (v := (.pointer (some ⟨g, 0, none⟩))) rfl (by kernel_rfl) (by kernel_rfl) (by kernel_rfl) (fun _ _ _ h => h) (Or.inl ⟨by kernel_rfl, by intro w' hS; go_simp⟩) hH0 ?_
  simp only [Act.put, List.getElem_toArray, List.getElem_cons_zero, List.getElem_cons_succ, List.setIfInBounds_toArray, List.set_cons_zero, List.set_cons_succ]
  refine wpAnyH_take (i := 11) (v := (.pointer (some ⟨g, 0, none⟩))) rfl (by kernel_rfl) (by kernel_rfl) (by kernel_rfl) (fun _ _ _ h => h) (Or.inl ⟨by kernel_rfl, by intro w' hS; go_simp⟩) hH0 ?_
  simp only [Act.put, List.getElem_toArray, List.getElem_cons_zero, List.getElem_cons_succ, List.setIfInBounds_toArray, List.set_cons_zero, List.set_cons_succ]
  refine wpAnyH_take (i := 12) (v := (.pointer (some ⟨g, 2, none⟩))) rfl (by kernel_rfl) (by kernel_rfl) (by kernel_rfl) (fun _ _ _ h => h) (Or.inl ⟨by kernel_rfl, by intro w' hS; go_simp⟩) hH0 ?_
  simp only [Act.put, List.getElem_toArray, List.getElem_cons_zero, List.getElem_cons_succ, List.setIfInBounds_toArray, List.set_cons_zero, List.set_cons_succ]
  refine wpAnyH_take (i := 13) (v := (.slice va n vc)) rfl (by kernel_rfl) (by kernel_rfl) (by kernel_rfl) (fun _ _ _ h => h) (Or.inl ⟨by kernel_rfl, by intro w' hS; have e0 := HC2.out w' hS; go_simp⟩) hH0 ?_
  simp only [Act.put, List.getElem_toArray, List.getElem_cons_zero, List.getElem_cons_succ, List.setIfInBounds_toArray, List.set_cons_zero, List.set_cons_succ]
  refine wpAnyH_take (i := 14) (v := (.int .i64 (n : Int))) rfl (by kernel_rfl) (by kernel_rfl) (by kernel_rfl) (fun _ _ _ h => h) (Or.inl ⟨by kernel_rfl, by intro w' hS; go_simp⟩) hH0 ?_
  simp only [Act.put, List.getElem_toArray, List.getElem_cons_zero, List.getElem_cons_succ, List.setIfInBounds_toArray, List.set_cons_zero, List.set_cons_succ]
  refine wpAnyH_take (i := 15) (v := (.pointer (some ⟨g', 0, none⟩))) rfl (by kernel_rfl) (by kernel_rfl) (by kernel_rfl) (fun _ _ _ h => h) (Or.inl ⟨by kernel_rfl, by intro w' hS; go_simp⟩) hH0 ?_
  simp only [Act.put, List.getElem_toArray, List.getElem_cons_zero, List.getElem_cons_succ, List.setIfInBounds_toArray, List.set_cons_zero, List.set_cons_succ]
  refine wpAnyH_take (i := 16) (v := (.pointer (some ⟨g', 0, none⟩))) rfl (by kernel_rfl) (by kernel_rfl) (by kernel_rfl) (fun _ _ _ h => h) (Or.inl ⟨by kernel_rfl, by intro w' hS; go_simp⟩) hH0 ?_
  simp only [Act.put, List.getElem_toArray, List.getElem_cons_zero, List.getElem_cons_succ, List.setIfInBounds_toArray, List.set_cons_zero, List.set_cons_succ]
  refine wpAnyH_take (i := 17) (v := (.pointer (some ⟨g', 2, none⟩))) rfl (by kernel_rfl) (by kernel_rfl) (by kernel_rfl) (fun _ _ _ h => h) (Or.inl ⟨by kernel_rfl, by intro w' hS; go_simp⟩) hH0 ?_
  simp only [Act.put, List.getElem_toArray, List.getElem_cons_zero, List.getElem_cons_succ, List.setIfInBounds_toArray, List.set_cons_zero, List.set_cons_succ]
  refine wpAnyH_take (i := 18) (v := (.slice va' n vc')) rfl (by kernel_rfl) (by kernel_rfl) (by kernel_rfl) (fun _ _ _ h => h) (Or.inl ⟨by kernel_rfl, by intro w' hS; have e0 := HD2.out w' hS; go_simp⟩) hH0 ?_
  simp only [Act.put, List.getElem_toArray, List.getElem_cons_zero, List.getElem_cons_succ, List.setIfInBounds_toArray, List.set_cons_zero, List.set_cons_succ]
  refine wpAnyH_take (i := 19) (v := (.int .i64 (n : Int))) rfl (by kernel_rfl) (by kernel_rfl) (by kernel_rfl) (fun _ _ _ h => h) (Or.inl ⟨by kernel_rfl, by intro w' hS; go_simp⟩) hH0 ?_
  simp only [Act.put, List.getElem_toArray, List.getElem_cons_zero, List.getElem_cons_succ, List.setIfInBounds_toArray, List.set_cons_zero, List.set_cons_succ]
  refine wpAnyH_take (i := 20) (v := (.bool false)) rfl (by kernel_rfl) (by kernel_rfl) (by kernel_rfl) (fun _ _ _ h => h) (Or.inl ⟨by kernel_rfl, by intro w' hS; go_simp⟩) hH0 ?_
  simp only [Act.put, List.getElem_toArray, List.getElem_cons_zero, List.getElem_cons_succ, List.setIfInBounds_toArray, List.set_cons_zero, List.set_cons_succ]
  refine wpAnyH_take (i := 21) (v := (.bool false)) rfl (by kernel_rfl) (by kernel_rfl) (by kernel_rfl) (fun _ _ _ h => h) (Or.inl ⟨by kernel_rfl, by intro w' hS; go_simp⟩) hH0 ?_
  simp only [Act.put, List.getElem_toArray, List.getElem_cons_zero, List.getElem_cons_succ, List.setIfInBounds_toArray, List.set_cons_zero, List.set_cons_succ]
  refine wpAnyH_take (i := 22) (v := (.bool false)) rfl (by kernel_rfl) (by kernel_rfl) (by kernel_rfl) (fun _ _ _ h => h) (Or.inl ⟨by kernel_rfl, by intro w' hS; go_simp⟩) hH0 ?_
  simp only [Act.put, List.getElem_toArray, List.getElem_cons_zero, List.getElem_cons_succ, List.setIfInBounds_toArray, List.set_cons_zero, List.set_cons_succ]
  refine wpAnyH_take (i := 23) (v := (.pointer (some ⟨g, 0, none⟩))) rfl (by kernel_rfl) (by kernel_rfl) (by kernel_rfl) (fun _ _ _ h => h) (Or.inl ⟨by kernel_rfl, by intro w' hS; go_simp⟩) hH0 ?_
  simp only [Act.put, List.getElem_toArray, List.getElem_cons_zero, List.getElem_cons_succ, List.setIfInBounds_toArray, List.set_cons_zero, List.set_cons_succ]
  refine wpAnyH_take (i := 25) (v := (.pointer (some ⟨g', 0, none⟩))) rfl (by kernel_rfl) (by kernel_rfl) (by kernel_rfl) (fun _ _ _ h => h) (Or.inl ⟨by kernel_rfl, by intro w' hS; go_simp⟩) hH0 ?_
  simp only [Act.put, List.getElem_toArray, List.getElem_cons_zero, List.getElem_cons_succ, List.setIfInBounds_toArray, List.set_cons_zero, List.set_cons_succ]
  refine wpAnyH_ready (rs := [24]) (by kernel_rfl) (by simp) ?_
  refine AllReadyH.cons rfl (fun K hK => ?_) AllReadyH.nil
  go_simp
  refine (HSUM.out _ 0 (.inl rfl) hH0).mono ?_
  rintro _ w1 ⟨x0, ys0, rfl, is0, ow0, hl0, hb1⟩
  refine Shut.out hK _ _ hb1 (fun hH1 => ?_)
  clear hK K
  try simp only [Act.put, List.getElem_toArray, List.getElem_cons_zero, List.getElem_cons_succ, List.setIfInBounds_toArray, List.set_cons_zero, List.set_cons_succ]
  refine wpAnyH_ready (rs := [26]) (by kernel_rfl) (by simp) ?_
  refine AllReadyH.cons rfl (fun K hK => ?_) AllReadyH.nil
  go_simp
  refine (HSUM'.out _ 0 (.inl rfl) hH1).mono ?_
  rintro _ w2 ⟨y0, zs0, rfl, js0, pw0, hl0', hb2, hg2⟩
  refine Shut.out hK _ _ hb2 (fun hH2 => ?_)
  clear hK K
  try simp only [Act.put, List.getElem_toArray, List.getElem_cons_zero, List.getElem_cons_succ, List.setIfInBounds_toArray, List.set_cons_zero, List.set_cons_succ]
  refine wpAnyH_ready (rs := [27]) (by kernel_rfl) (by simp) ?_
  refine AllReadyH.cons rfl (fun K hK => ?_) AllReadyH.nil
  go_simp
  refine (equal_lit _ x0 y0 ys0 zs0 false (own_kept ow0 (Kept.of_below (S := fun _ => False) hg2) (fun _ _ h => h)) pw0 hl0 hl0' (HQ0.out _ _ is0 js0)).mono ?_
  rintro _ w3 ⟨rfl, hg3⟩
  have hb3 := Below.trans hH2 (hg3.mono (Below.size hH2))
  refine Shut.out hK _ _ hb3 (fun hH3 => ?_)
  clear hK K
  try simp only [Act.put, List.getElem_toArray, List.getElem_cons_zero, List.getElem_cons_succ, List.setIfInBounds_toArray, List.set_cons_zero, List.set_cons_succ]
  refine wpAnyH_take (i := 28) (v := (.bool true)) rfl (by kernel_rfl) (by kernel_rfl) (by kernel_rfl) (fun _ _ _ h => h) (Or.inl ⟨by kernel_rfl, by intro w' hS; go_simp⟩) hH3 ?_
  simp only [Act.put, List.getElem_toArray, List.getElem_cons_zero, List.getElem_cons_succ, List.setIfInBounds_toArray, List.set_cons_zero, List.set_cons_succ]
  refine wpAnyH_take (i := 29) (v := (.bool true)) rfl (by kernel_rfl) (by kernel_rfl) (by kernel_rfl) (fun _ _ _ h => h) (Or.inl ⟨by kernel_rfl, by intro w' hS; go_simp⟩) hH3 ?_
  simp only [Act.put, List.getElem_toArray, List.getElem_cons_zero, List.getElem_cons_succ, List.setIfInBounds_toArray, List.set_cons_zero, List.set_cons_succ]
  refine wpAnyH_take (i := 30) (v := (.bool true)) rfl (by kernel_rfl) (by kernel_rfl) (by kernel_rfl) (fun _ _ _ h => h) (Or.inl ⟨by kernel_rfl, by intro w' hS; go_simp⟩) hH3 ?_
  simp only [Act.put, List.getElem_toArray, List.getElem_cons_zero, List.getElem_cons_succ, List.setIfInBounds_toArray, List.set_cons_zero, List.set_cons_succ]
  refine wpAnyH_take (i := 31) (v := undef) rfl (by kernel_rfl) (by kernel_rfl) (by kernel_rfl) (fun _ _ _ h => h) (Or.inr ⟨by kernel_rfl, rfl⟩) hH3 ?_
  simp only [Act.put, List.getElem_toArray, List.getElem_cons_zero, List.getElem_cons_succ, List.setIfInBounds_toArray, List.set_cons_zero, List.set_cons_succ]
  refine wpAnyH_take (i := 32) (v := undef) rfl (by kernel_rfl) (by kernel_rfl) (by kernel_rfl) (fun _ _ _ h => h) (Or.inr ⟨by kernel_rfl, rfl⟩) hH3 ?_
  simp only [Act.put, List.getElem_toArray, List.getElem_cons_zero, List.getElem_cons_succ, List.setIfInBounds_toArray, List.set_cons_zero, List.set_cons_succ]
  refine wpAnyH_take (i := 33) (v := undef) rfl (by kernel_rfl) (by kernel_rfl) (by kernel_rfl) (fun _ _ _ h => h) (Or.inr ⟨by kernel_rfl, rfl⟩) hH3 ?_
  simp only [Act.put, List.getElem_toArray, List.getElem_cons_zero, List.getElem_cons_succ, List.setIfInBounds_toArray, List.set_cons_zero, List.set_cons_succ]
  refine wpAnyH_take (i := 34) (v := undef) rfl (by kernel_rfl) (by kernel_rfl) (by kernel_rfl) (fun _ _ _ h => h) (Or.inr ⟨by kernel_rfl, rfl⟩) hH3 ?_
  simp only [Act.put, List.getElem_toArray, List.getElem_cons_zero, List.getElem_cons_succ, List.setIfInBounds_toArray, List.set_cons_zero, List.set_cons_succ]
  refine wpAnyH_take (i := 35) (v := undef) rfl (by kernel_rfl) (by kernel_rfl) (by kernel_rfl) (fun _ _ _ h => h) (Or.inr ⟨by kernel_rfl, rfl⟩) hH3 ?_
  simp only [Act.put, List.getElem_toArray, List.getElem_cons_zero, List.getElem_cons_succ, List.setIfInBounds_toArray, List.set_cons_zero, List.set_cons_succ]
  refine wpAnyH_take (i := 36) (v := undef) rfl (by kernel_rfl) (by kernel_rfl) (by kernel_rfl) (fun _ _ _ h => h) (Or.inr ⟨by kernel_rfl, rfl⟩) hH3 ?_
  simp only [Act.put, List.getElem_toArray, List.getElem_cons_zero, List.getElem_cons_succ, List.setIfInBounds_toArray, List.set_cons_zero, List.set_cons_succ]
  refine wpAnyH_take (i := 37) (v := (.bool true)) rfl (by kernel_rfl) (by kernel_rfl) (by kernel_rfl) (fun _ _ _ h => h) (Or.inl ⟨by kernel_rfl, by intro w' hS; go_simp⟩) hH3 ?_
  simp only [Act.put, List.getElem_toArray, List.getElem_cons_zero, List.getElem_cons_succ, List.setIfInBounds_toArray, List.set_cons_zero, List.set_cons_succ]
  refine wpAnyH_done (by kernel_rfl) ?_ _
  refine NoPanic.normal ?_
  go_wp2
  go_ret
  exact ⟨rfl, hb3⟩

set_option maxRecDepth 100000 in
set_option maxHeartbeats 8000000 in
theorem same_s1 (w : World) (g g' : Nat) (b b' : Bk) (m0 m1 : Nat) (v : Value) (m0' m1' : Nat) (v' : Value) (hp : Pair2 w g g' b b' m0 m1 v m0' m1' v') (hlen : b.offers.length = b'.offers.length) (hq0 : ∀ k, look (b.side 0) k = look (b'.side 0) k) (hq1 : ¬ ∀ k, look (b.side 1) k = look (b'.side 1) k) :
    Calls Tryd.prog 20 #[.pointer (some ⟨g, 0, none⟩), .pointer (some ⟨g', 0, none⟩)] w fun e w' => e = .returned (.bool false) ∧ Below w.heap.size w w' := by
  obtain ⟨ha, ha', hb, hb', hl, hl', ek0, ek1⟩ := hp
  obtain ⟨va, vc, hv⟩ := own_slice ha.row
  obtain ⟨va', vc', hv'⟩ := own_slice ha'.row
  have cell : ∀ {w' : World} {G i : Nat} {u : Value}, w.cell? ⟨G, i, none⟩ = some u → Below w.heap.size w w' → w'.cell? ⟨G, i, none⟩ = some u := fun h hbw => cell_held (Kept.of_below (S := fun _ => False) hbw) h (fun h => h)
  have hc2 : ∀ w', Below w.heap.size w w' → w'.cell? ⟨g, 2, none⟩ = some v := fun w' h => cell (ha.obj.cell_is rfl) h
  have hd2 : ∀ w', Below w.heap.size w w' → w'.cell? ⟨g', 2, none⟩ = some v' := fun w' h => cell (ha'.obj.cell_is rfl) h
  have hc3 : ∀ w', Below w.heap.size w w' → w'.cell? ⟨g, 3, none⟩ = some (.int .u64 (b.k0 : Int)) := fun w' h => cell (ha.obj.cell_is rfl) h
  have hc4 : ∀ w', Below w.heap.size w w' → w'.cell? ⟨g, 4, none⟩ = some (.int .u64 (b.k1 : Int)) := fun w' h => cell (ha.obj.cell_is rfl) h
  have hd3 : ∀ w', Below w.heap.size w w' → w'.cell? ⟨g', 3, none⟩ = some (.int .u64 (b'.k0 : Int)) := fun w' h => cell (ha'.obj.cell_is rfl) h
  have hd4 : ∀ w', Below w.heap.size w w' → w'.cell? ⟨g', 4, none⟩ = some (.int .u64 (b'.k1 : Int)) := fun w' h => cell (ha'.obj.cell_is rfl) h
  rw [ek0] at hd3
  rw [ek1] at hd4
  have HSUM := Lib.hid (fun W f hf (hW : Below w.heap.size w W) => (sums_below ha hb hl W f hf hW).mono fun e w' (h : ∃ x ys, e = .returned x ∧ IsSums (b.side f) ys ∧ w'.ownsRow W.heap.size 94 33 x ys.length (ys.flatMap HV.enc) ∧ ys.length ≤ 1000000 ∧ Below w.heap.size w w' ∧ Below W.heap.size W w') =>
    (show ∃ x ys, e = .returned x ∧ IsSums (b.side f) ys ∧ w'.ownsRow W.heap.size 94 33 x ys.length (ys.flatMap HV.enc) ∧ ys.length ≤ 1000000 ∧ Below w.heap.size w w' by obtain ⟨x, ys, h1, h2, h3, h4, h5, _⟩ := h; exact ⟨x, ys, h1, h2, h3, h4, h5⟩))
  have HSUM' := Lib.hid (sums_below ha' hb' hl')
  have hn := hb.len
  have hn' := hb'.len
  have hbd : Below w.heap.size w w.drew := (Below.refl _ _).drew
  have hbr := Below.refl w.heap.size w
  have HA := Lib.hid ha
  have HA' := Lib.hid ha'
  have HB := Lib.hid hb
  have HB' := Lib.hid hb'
  have HQ0 := Lib.hid (fun ys zs (h1 : IsSums (b.side 0) ys) (h2 : IsSums (b'.side 0) zs) => (show sameL ys zs = true from (sameL_iff h1 h2 (ha.map0.nodup) (ha'.map0.nodup) (hb.nums 0) (hb'.nums 0)).2 hq0))
  have HQ1 := Lib.hid (fun ys zs (h1 : IsSums (b.side 1) ys) (h2 : IsSums (b'.side 1) zs) => (show sameL ys zs = false from Bool.eq_false_iff.2 (fun e => hq1 ((sameL_iff h1 h2 (ha.map1.nodup) (ha'.map1.nodup) (hb.nums 1) (hb'.nums 1)).1 e))))
  obtain ⟨K0, hK0⟩ : ∃ x, x = b.k0 := ⟨_, rfl⟩
  obtain ⟨K1, hK1⟩ : ∃ x, x = b.k1 := ⟨_, rfl⟩
  obtain ⟨n, hnn⟩ : ∃ x, x = b.offers.length := ⟨_, rfl⟩
  obtain ⟨n', hnn'⟩ : ∃ x, x = b'.offers.length := ⟨_, rfl⟩
  rw [← hK0] at hc3 hd3
  rw [← hK1] at hc4 hd4
  rw [hv, ← hnn] at hc2
  rw [hv', ← hnn'] at hd2
  rw [← hnn] at hn hlen
  rw [← hnn'] at hn' hlen
  have HC2 := Lib.hid hc2
  have HC3 := Lib.hid hc3
  have HC4 := Lib.hid hc4
  have HD2 := Lib.hid hd2
  have HD3 := Lib.hid hd3
  have HD4 := Lib.hid hd4
  have htn := fun W => two_neq (K0 : Int) (K1 : Int) W
  have HNN := Lib.hid hnn
  have HNN' := Lib.hid hnn'
  have HV := Lib.hid hv
  have HV' := Lib.hid hv'
  subst hlen
  clear ha ha' hb hb' hl hl' ek0 ek1 cell hc2 hc3 hc4 hd2 hd3 hd4 hK0 hK1 hnn hnn' hv hv'
  go_enter Tryd.func20, Tryd.ntmps20
  go_upto_region 3 with (fail)
  refine wp_region_noPanic ?_
  refine wp_region_held_drew (S := fun w' => Below w.heap.size w w') (by kernel_rfl) hbd (fun hH0 => ?_)
  refine wpAnyH_take (i := 0) (v := (.pointer (some ⟨g, 0, none⟩))) rfl (by kernel_rfl) (by kernel_rfl) (by kernel_rfl) (fun _ _ _ h => h) (Or.inl ⟨by kernel_rfl, by intro w' hS; go_simp⟩) hH0 ?_
  simp only [Act.put, List.getElem_toArray, List.getElem_cons_zero, List.getElem_cons_succ, List.setIfInBounds_toArray, List.set_cons_zero, List.set_cons_succ]
  refine wpAnyH_take (i := 1) (v := (.pointer (some ⟨g, 0, none⟩))) rfl (by kernel_rfl) (by kernel_rfl) (by kernel_rfl) (fun _ _ _ h => h) (Or.inl ⟨by kernel_rfl, by intro w' hS; go_simp⟩) hH0 ?_
  simp only [Act.put, List.getElem_toArray, List.getElem_cons_zero, List.getElem_cons_succ, List.setIfInBounds_toArray, List.set_cons_zero, List.set_cons_succ]
  refine wpAnyH_take (i := 2) (v := (.pointer (some ⟨g, 3, none⟩))) rfl (by kernel_rfl) (by kernel_rfl) (by kernel_rfl) (fun _ _ _ h => h) (Or.inl ⟨by kernel_rfl, by intro w' hS; go_simp⟩) hH0 ?_
  simp only [Act.put, List.getElem_toArray, List.getElem_cons_zero, List.getElem_cons_succ, List.setIfInBounds_toArray, List.set_cons_zero, List.set_cons_succ]
  refine wpAnyH_take (i := 3) (v := (.agg #[.int .u64 (K0 : Int), .int .u64 (K1 : Int)])) rfl (by kernel_rfl) (by kernel_rfl) (by kernel_rfl) (fun _ _ _ h => h) (Or.inl ⟨by kernel_rfl, by intro w' hS; have e0 := HC3.out w' hS; have e1 := HC4.out w' hS; go_simp⟩) hH0 ?_
  simp only [Act.put, List.getElem_toArray, List.getElem_cons_zero, List.getElem_cons_succ, List.setIfInBounds_toArray, List.set_cons_zero, List.set_cons_succ]
  refine wpAnyH_take (i := 4) (v := (.pointer (some ⟨g', 0, none⟩))) rfl (by kernel_rfl) (by kernel_rfl) (by kernel_rfl) (fun _ _ _ h => h) (Or.inl ⟨by kernel_rfl, by intro w' hS; go_simp⟩) hH0 ?_
  simp only [Act.put, List.getElem_toArray, List.getElem_cons_zero, List.getElem_cons_succ, List.setIfInBounds_toArray, List.set_cons_zero, List.set_cons_succ]
  refine wpAnyH_take (i := 5) (v := (.pointer (some ⟨g', 0, none⟩))) rfl (by kernel_rfl) (by kernel_rfl) (by kernel_rfl) (fun _ _ _ h => h) (Or.inl ⟨by kernel_rfl, by intro w' hS; go_simp⟩) hH0 ?_
  simp only [Act.put, List.getElem_toArray, List.getElem_cons_zero, List.getElem_cons_succ, List.setIfInBounds_toArray, List.set_cons_zero, List.set_cons_succ]
  refine wpAnyH_take (i := 6) (v := (.pointer (some ⟨g', 3, none⟩))) rfl (by kernel_rfl) (by kernel_rfl) (by kernel_rfl) (fun _ _ _ h => h) (Or.inl ⟨by kernel_rfl, by intro w' hS; go_simp⟩) hH0 ?_
  simp only [Act.put, List.getElem_toArray, List.getElem_cons_zero, List.getElem_cons_succ, List.setIfInBounds_toArray, List.set_cons_zero, List.set_cons_succ]
  refine wpAnyH_take (i := 7) (v := (.agg #[.int .u64 (K0 : Int), .int .u64 (K1 : Int)])) rfl (by kernel_rfl) (by kernel_rfl) (by kernel_rfl) (fun _ _ _ h => h) (Or.inl ⟨by kernel_rfl, by intro w' hS; have e0 := HD3.out w' hS; have e1 := HD4.out w' hS; go_simp⟩) hH0 ?_
  simp only [Act.put, List.getElem_toArray, List.getElem_cons_zero, List.getElem_cons_succ, List.setIfInBounds_toArray, List.set_cons_zero, List.set_cons_succ]
  refine wpAnyH_take (i := 8) (v := (.bool false)) rfl (by kernel_rfl) (by kernel_rfl) (by kernel_rfl) (fun _ _ _ h => h) (Or.inl ⟨by kernel_rfl, by intro w' hS; go_simp⟩) hH0 ?_
  simp only [Act.put, List.getElem_toArray, List.getElem_cons_zero, List.getElem_cons_succ, List.setIfInBounds_toArray, List.set_cons_zero, List.set_cons_succ]
  refine wpAnyH_take (i := 9) (v := (.bool false)) rfl (by kernel_rfl) (by kernel_rfl) (by kernel_rfl) (fun _ _ _ h => h) (Or.inl ⟨by kernel_rfl, by intro w' hS; go_simp⟩) hH0 ?_
  simp only [Act.put, List.getElem_toArray, List.getElem_cons_zero, List.getElem_cons_succ, List.setIfInBounds_toArray, List.set_cons_zero, List.set_cons_succ]
  refine wpAnyH_take (i := 10) (v := (.pointer (some ⟨g, 0, none⟩))) rfl (by kernel_rfl) (by kernel_rfl) (by kernel_rfl) (fun _ _ _ h => h) (Or.inl ⟨by kernel_rfl, by intro w' hS; go_simp⟩) hH0 ?_
  simp only [Act.put, List.getElem_toArray, List.getElem_cons_zero, List.getElem_cons_succ, List.setIfInBounds_toArray, List.set_cons_zero, List.set_cons_succ]
  refine wpAnyH_take (i := 11) (v := (.pointer (some ⟨g, 0, none⟩))) rfl (by kernel_rfl) (by kernel_rfl) (by kernel_rfl) (fun _ _ _ h => h) (Or.inl ⟨by kernel_rfl, by intro w' hS; go_simp⟩) hH0 ?_
  simp only [Act.put, List.getElem_toArray, List.getElem_cons_zero, List.getElem_cons_succ, List.setIfInBounds_toArray, List.set_cons_zero, List.set_cons_succ]
  refine wpAnyH_take (i := 12) (v := (.pointer (some ⟨g, 2, none⟩))) rfl (by kernel_rfl) (by kernel_rfl) (by kernel_rfl) (fun _ _ _ h => h) (Or.inl ⟨by kernel_rfl, by intro w' hS; go_simp⟩) hH0 ?_
  simp only [Act.put, List.getElem_toArray, List.getElem_cons_zero, List.getElem_cons_succ, List.setIfInBounds_toArray, List.set_cons_zero, List.set_cons_succ]
  refine wpAnyH_take (i := 13) (v := (.slice va n vc)) rfl (by kernel_rfl) (by kernel_rfl) (by kernel_rfl) (fun _ _ _ h => h) (Or.inl ⟨by kernel_rfl, by intro w' hS; have e0 := HC2.out w' hS; go_simp⟩) hH0 ?_
  simp only [Act.put, List.getElem_toArray, List.getElem_cons_zero, List.getElem_cons_succ, List.setIfInBounds_toArray, List.set_cons_zero, List.set_cons_succ]
  refine wpAnyH_take (i := 14) (v := (.int .i64 (n : Int))) rfl (by kernel_rfl) (by kernel_rfl) (by kernel_rfl) (fun _ _ _ h => h) (Or.inl ⟨by kernel_rfl, by intro w' hS; go_simp⟩) hH0 ?_
  simp only [Act.put, List.getElem_toArray, List.getElem_cons_zero, List.getElem_cons_succ, List.setIfInBounds_toArray, List.set_cons_zero, List.set_cons_succ]
  refine wpAnyH_take (i := 15) (v := (.pointer (some ⟨g', 0, none⟩))) rfl (by kernel_rfl) (by kernel_rfl) (by kernel_rfl) (fun _ _ _ h => h) (Or.inl ⟨by kernel_rfl, by intro w' hS; go_simp⟩) hH0 ?_
  simp only [Act.put, List.getElem_toArray, List.getElem_cons_zero, List.getElem_cons_succ, List.setIfInBounds_toArray, List.set_cons_zero, List.set_cons_succ]
  refine wpAnyH_take (i := 16) (v := (.pointer (some ⟨g', 0, none⟩))) rfl (by kernel_rfl) (by kernel_rfl) (by kernel_rfl) (fun _ _ _ h => h) (Or.inl ⟨by kernel_rfl, by intro w' hS; go_simp⟩) hH0 ?_
  simp only [Act.put, List.getElem_toArray, List.getElem_cons_zero, List.getElem_cons_succ, List.setIfInBounds_toArray, List.set_cons_zero, List.set_cons_succ]
  refine wpAnyH_take (i := 17) (v := (.pointer (some ⟨g', 2, none⟩))) rfl (by kernel_rfl) (by kernel_rfl) (by kernel_rfl) (fun _ _ _ h => h) (Or.inl ⟨by kernel_rfl, by intro w' hS; go_simp⟩) hH0 ?_
  simp only [Act.put, List.getElem_toArray, List.getElem_cons_zero, List.getElem_cons_succ, List.setIfInBounds_toArray, List.set_cons_zero, List.set_cons_succ]
  refine wpAnyH_take (i := 18) (v := (.slice va' n vc')) rfl (by kernel_rfl) (by kernel_rfl) (by kernel_rfl) (fun _ _ _ h => h) (Or.inl ⟨by kernel_rfl, by intro w' hS; have e0 := HD2.out w' hS; go_simp⟩) hH0 ?_
  simp only [Act.put, List.getElem_toArray, List.getElem_cons_zero, List.getElem_cons_succ, List.setIfInBounds_toArray, List.set_cons_zero, List.set_cons_succ]
  refine wpAnyH_take (i := 19) (v := (.int .i64 (n : Int))) rfl (by kernel_rfl) (by kernel_rfl) (by kernel_rfl) (fun _ _ _ h => h) (Or.inl ⟨by kernel_rfl, by intro w' hS; go_simp⟩) hH0 ?_
  simp only [Act.put, List.getElem_toArray, List.getElem_cons_zero, List.getElem_cons_succ, List.setIfInBounds_toArray, List.set_cons_zero, List.set_cons_succ]
  refine wpAnyH_take (i := 20) (v := (.bool false)) rfl (by kernel_rfl) (by kernel_rfl) (by kernel_rfl) (fun _ _ _ h => h) (Or.inl ⟨by kernel_rfl, by intro w' hS; go_simp⟩) hH0 ?_
  simp only [Act.put, List.getElem_toArray, List.getElem_cons_zero, List.getElem_cons_succ, List.setIfInBounds_toArray, List.set_cons_zero, List.set_cons_succ]
  refine wpAnyH_take (i := 21) (v := (.bool false)) rfl (by kernel_rfl) (by kernel_rfl) (by kernel_rfl) (fun _ _ _ h => h) (Or.inl ⟨by kernel_rfl, by intro w' hS; go_simp⟩) hH0 ?_
  simp only [Act.put, List.getElem_toArray, List.getElem_cons_zero, List.getElem_cons_succ, List.setIfInBounds_toArray, List.set_cons_zero, List.set_cons_succ]
  refine wpAnyH_take (i := 22) (v := (.bool false)) rfl (by kernel_rfl) (by kernel_rfl) (by kernel_rfl) (fun _ _ _ h => h) (Or.inl ⟨by kernel_rfl, by intro w' hS; go_simp⟩) hH0 ?_
  simp only [Act.put, List.getElem_toArray, List.getElem_cons_zero, List.getElem_cons_succ, List.setIfInBounds_toArray, List.set_cons_zero, List.set_cons_succ]
  refine wpAnyH_take (i := 23) (v := (.pointer (some ⟨g, 0, none⟩))) rfl (by kernel_rfl) (by kernel_rfl) (by kernel_rfl) (fun _ _ _ h => h) (Or.inl ⟨by kernel_rfl, by intro w' hS; go_simp⟩) hH0 ?_
  simp only [Act.put, List.getElem_toArray, List.getElem_cons_zero, List.getElem_cons_succ, List.setIfInBounds_toArray, List.set_cons_zero, List.set_cons_succ]
  refine wpAnyH_take (i := 25) (v := (.pointer (some ⟨g', 0, none⟩))) rfl (by kernel_rfl) (by kernel_rfl) (by kernel_rfl) (fun _ _ _ h => h) (Or.inl ⟨by kernel_rfl, by intro w' hS; go_simp⟩) hH0 ?_
  simp only [Act.put, List.getElem_toArray, List.getElem_cons_zero, List.getElem_cons_succ, List.setIfInBounds_toArray, List.set_cons_zero, List.set_cons_succ]
  refine wpAnyH_ready (rs := [24]) (by kernel_rfl) (by simp) ?_
  refine AllReadyH.cons rfl (fun K hK => ?_) AllReadyH.nil
  go_simp
  refine (HSUM.out _ 0 (.inl rfl) hH0).mono ?_
  rintro _ w1 ⟨x0, ys0, rfl, is0, ow0, hl0, hb1⟩
  refine Shut.out hK _ _ hb1 (fun hH1 => ?_)
  clear hK K
  try simp only [Act.put, List.getElem_toArray, List.getElem_cons_zero, List.getElem_cons_succ, List.setIfInBounds_toArray, List.set_cons_zero, List.set_cons_succ]
  refine wpAnyH_ready (rs := [26]) (by kernel_rfl) (by simp) ?_
  refine AllReadyH.cons rfl (fun K hK => ?_) AllReadyH.nil
  go_simp
  refine (HSUM'.out _ 0 (.inl rfl) hH1).mono ?_
  rintro _ w2 ⟨y0, zs0, rfl, js0, pw0, hl0', hb2, hg2⟩
  refine Shut.out hK _ _ hb2 (fun hH2 => ?_)
  clear hK K
  try simp only [Act.put, List.getElem_toArray, List.getElem_cons_zero, List.getElem_cons_succ, List.setIfInBounds_toArray, List.set_cons_zero, List.set_cons_succ]
  refine wpAnyH_ready (rs := [27]) (by kernel_rfl) (by simp) ?_
  refine AllReadyH.cons rfl (fun K hK => ?_) AllReadyH.nil
  go_simp
  refine (equal_lit _ x0 y0 ys0 zs0 true (own_kept ow0 (Kept.of_below (S := fun _ => False) hg2) (fun _ _ h => h)) pw0 hl0 hl0' (HQ0.out _ _ is0 js0)).mono ?_
  rintro _ w3 ⟨rfl, hg3⟩
  have hb3 := Below.trans hH2 (hg3.mono (Below.size hH2))
  refine Shut.out hK _ _ hb3 (fun hH3 => ?_)
  clear hK K
  try simp only [Act.put, List.getElem_toArray, List.getElem_cons_zero, List.getElem_cons_succ, List.setIfInBounds_toArray, List.set_cons_zero, List.set_cons_succ]
  refine wpAnyH_take (i := 28) (v := (.bool false)) rfl (by kernel_rfl) (by kernel_rfl) (by kernel_rfl) (fun _ _ _ h => h) (Or.inl ⟨by kernel_rfl, by intro w' hS; go_simp⟩) hH3 ?_
  simp only [Act.put, List.getElem_toArray, List.getElem_cons_zero, List.getElem_cons_succ, List.setIfInBounds_toArray, List.set_cons_zero, List.set_cons_succ]
  refine wpAnyH_take (i := 29) (v := (.bool false)) rfl (by kernel_rfl) (by kernel_rfl) (by kernel_rfl) (fun _ _ _ h => h) (Or.inl ⟨by kernel_rfl, by intro w' hS; go_simp⟩) hH3 ?_
  simp only [Act.put, List.getElem_toArray, List.getElem_cons_zero, List.getElem_cons_succ, List.setIfInBounds_toArray, List.set_cons_zero, List.set_cons_succ]
  refine wpAnyH_take (i := 30) (v := (.bool false)) rfl (by kernel_rfl) (by kernel_rfl) (by kernel_rfl) (fun _ _ _ h => h) (Or.inl ⟨by kernel_rfl, by intro w' hS; go_simp⟩) hH3 ?_
  simp only [Act.put, List.getElem_toArray, List.getElem_cons_zero, List.getElem_cons_succ, List.setIfInBounds_toArray, List.set_cons_zero, List.set_cons_succ]
  refine wpAnyH_take (i := 31) (v := (.pointer (some ⟨g, 0, none⟩))) rfl (by kernel_rfl) (by kernel_rfl) (by kernel_rfl) (fun _ _ _ h => h) (Or.inl ⟨by kernel_rfl, by intro w' hS; go_simp⟩) hH3 ?_
  simp only [Act.put, List.getElem_toArray, List.getElem_cons_zero, List.getElem_cons_succ, List.setIfInBounds_toArray, List.set_cons_zero, List.set_cons_succ]
  refine wpAnyH_take (i := 33) (v := (.pointer (some ⟨g', 0, none⟩))) rfl (by kernel_rfl) (by kernel_rfl) (by kernel_rfl) (fun _ _ _ h => h) (Or.inl ⟨by kernel_rfl, by intro w' hS; go_simp⟩) hH3 ?_
  simp only [Act.put, List.getElem_toArray, List.getElem_cons_zero, List.getElem_cons_succ, List.setIfInBounds_toArray, List.set_cons_zero, List.set_cons_succ]
  refine wpAnyH_ready (rs := [32]) (by kernel_rfl) (by simp) ?_
  refine AllReadyH.cons rfl (fun K hK => ?_) AllReadyH.nil
  go_simp
  refine (HSUM.out _ 1 (.inr rfl) hH3).mono ?_
  rintro _ w4 ⟨x1, ys1, rfl, is1, ow1, hl1, hb4⟩
  refine Shut.out hK _ _ hb4 (fun hH4 => ?_)
  clear hK K
  try simp only [Act.put, List.getElem_toArray, List.getElem_cons_zero, List.getElem_cons_succ, List.setIfInBounds_toArray, List.set_cons_zero, List.set_cons_succ]
  refine wpAnyH_ready (rs := [34]) (by kernel_rfl) (by simp) ?_
  refine AllReadyH.cons rfl (fun K hK => ?_) AllReadyH.nil
  go_simp
  refine (HSUM'.out _ 1 (.inr rfl) hH4).mono ?_
  rintro _ w5 ⟨y1, zs1, rfl, js1, pw1, hl1', hb5, hg5⟩
  refine Shut.out hK _ _ hb5 (fun hH5 => ?_)
  clear hK K
  try simp only [Act.put, List.getElem_toArray, List.getElem_cons_zero, List.getElem_cons_succ, List.setIfInBounds_toArray, List.set_cons_zero, List.set_cons_succ]
  refine wpAnyH_ready (rs := [35]) (by kernel_rfl) (by simp) ?_
  refine AllReadyH.cons rfl (fun K hK => ?_) AllReadyH.nil
  go_simp
  refine (equal_lit _ x1 y1 ys1 zs1 false (own_kept ow1 (Kept.of_below (S := fun _ => False) hg5) (fun _ _ h => h)) pw1 hl1 hl1' (HQ1.out _ _ is1 js1)).mono ?_
  rintro _ w6 ⟨rfl, hg6⟩
  have hb6 := Below.trans hH5 (hg6.mono (Below.size hH5))
  refine Shut.out hK _ _ hb6 (fun hH6 => ?_)
  clear hK K
  try simp only [Act.put, List.getElem_toArray, List.getElem_cons_zero, List.getElem_cons_succ, List.setIfInBounds_toArray, List.set_cons_zero, List.set_cons_succ]
  refine wpAnyH_take (i := 36) (v := (.bool true)) rfl (by kernel_rfl) (by kernel_rfl) (by kernel_rfl) (fun _ _ _ h => h) (Or.inl ⟨by kernel_rfl, by intro w' hS; go_simp⟩) hH6 ?_
  simp only [Act.put, List.getElem_toArray, List.getElem_cons_zero, List.getElem_cons_succ, List.setIfInBounds_toArray, List.set_cons_zero, List.set_cons_succ]
  refine wpAnyH_take (i := 37) (v := (.bool true)) rfl (by kernel_rfl) (by kernel_rfl) (by kernel_rfl) (fun _ _ _ h => h) (Or.inl ⟨by kernel_rfl, by intro w' hS; go_simp⟩) hH6 ?_
  simp only [Act.put, List.getElem_toArray, List.getElem_cons_zero, List.getElem_cons_succ, List.setIfInBounds_toArray, List.set_cons_zero, List.set_cons_succ]
  refine wpAnyH_done (by kernel_rfl) ?_ _
  refine NoPanic.normal ?_
  go_wp2
  go_ret
  exact ⟨rfl, hb6⟩
end Go.Proofs.YtnddejgglbdkmaaDoor
