/- How bytes, digests, a leaf and a node are read off the arguments. -/
import Derived.Test.YtngmpcmeebcdmaaDoorMsum3
import Derived.Test.YtngmpcmeebcdmaaDoorRead
namespace Go.Proofs.YtngmpcmeebcdmaaDoor
set_option linter.unusedVariables false
set_option linter.unusedSimpArgs false
open Go.ChangeShapes Go.WideShapes Go.ChangeAt Go.RowKit Go.Maps

section
variable {H : Type} {enc : TypeId × Value → H} {P : Program} {w : World} {base : Nat} {spare : Nat → Bool} {held : Bool}
/-- 32 cells that read as a [32]byte. -/
theorem hash_cells {t e m : Nat} {cs : List Value} {y : Option (DataW H × List MemPlace)} (ht : P.underlying t = some (.array 32 e)) (he : P.underlying e = some (.int .u8)) (h1 : P.cellsOf e = 1) (h32 : P.cellsOf t = 32)
    (h : DataW.trod enc P w base spare held m t cs = y) (hy : y.isSome = true) : ∃ ks, cs = bcells ks ∧ IsHash ks := by
  obtain ⟨z, rfl⟩ := Option.isSome_iff_exists.1 hy
  obtain ⟨xs, m, _, hx, hlen, hn, hall⟩ := DataW.trod_array ht h
  rw [h32] at hlen
  obtain ⟨e1, e2⟩ := bytes_of_cells cs hlen (by
    intro i hi
    have := hall i hi
    rw [h1, Nat.mul_one, List.getElem?_eq_getElem (by omega)] at this
    obtain ⟨n, hn1, _, hw⟩ := DataW.trod_int he this
    rw [List.drop_eq_getElem_cons (by omega)] at hn1
    simp only [List.take_succ_cons, List.take_zero, List.cons.injEq, and_true] at hn1
    have hb := bounds_u8 hw
    refine ⟨n.toNat, ?_, by omega⟩
    rw [List.getElem?_eq_getElem (by omega), hn1, Int.toNat_of_nonneg hb.1])
  exact ⟨cs.map u8Of, e1, e2⟩
theorem hash_cut {t e m i : Nat} {cs : List Value} {y : Option (DataW H × List MemPlace)} (ht : P.underlying t = some (.array 32 e)) (he : P.underlying e = some (.int .u8)) (h1 : P.cellsOf e = 1) (h32 : P.cellsOf t = 32)
    (h : DataW.trod enc P w base spare held m t ((cs.drop i).take (P.cellsOf t)) = y) (hy : y.isSome = true) : ∃ ks, (cs.drop i).take 32 = bcells ks ∧ IsHash ks := by
  have := hash_cells ht he h1 h32 h hy
  rwa [h32] at this
theorem int_cut {k : IntKind} {t m i : Nat} {cs : List Value} {y : Option (DataW H × List MemPlace)} (ht : P.underlying t = some (.int k)) (h1 : P.cellsOf t = 1) (h : DataW.trod enc P w base spare held m t ((cs.drop i).take (P.cellsOf t)) = y) (hy : y.isSome = true) :
    ∃ n, (cs.drop i).take 1 = [.int k n] ∧ (Lit.int k n).wf = true := by
  obtain ⟨z, rfl⟩ := Option.isSome_iff_exists.1 hy
  obtain ⟨n, hn, _, hw⟩ := DataW.trod_int ht h
  rw [h1] at hn
  exact ⟨n, hn, hw⟩
theorem slice_cut {t e m i : Nat} {cs : List Value} {y : Option (DataW H × List MemPlace)} (ht : P.underlying t = some (.slice e)) (h1 : P.cellsOf t = 1) (h : DataW.trod enc P w base spare held m t ((cs.drop i).take (P.cellsOf t)) = y) (hy : y.isSome = true) :
    ∃ A n c z, (cs.drop i).take 1 = [.slice A n c] ∧ DataW.trod enc P w base spare held m t [.slice A n c] = some z := by
  obtain ⟨z, rfl⟩ := Option.isSome_iff_exists.1 hy
  obtain ⟨A, n, c, hc⟩ := read_bytes_head ht h
  refine ⟨A, n, c, z, by rw [h1] at hc; exact hc, by rw [← hc]; exact h⟩
/-- a slice of bytes among the arguments. -/
theorem open_bytes {t e m : Nat} {A : Option Addr} {n c : Nat} {z : DataW H × List MemPlace} (ht : P.underlying t = some (.slice e)) (he : P.underlying e = some (.int .u8)) (h1 : P.cellsOf e = 1) (h : DataW.trod enc P w base spare held m t [.slice A n c] = some z) :
    ∃ bs : List Nat, bs.length = n ∧ n ≤ 9223372036854775807 ∧ Bytes w w.heap.size (.slice A n c) bs := by
  rcases Deep.open_slice1 ht h1 h with ⟨e0, _⟩ | ⟨a, len, cap, m2, n2, V, D, Pl, e0, hb, hl, hm, hmm, _, hall⟩
  · injection e0 with e0 _
    injection e0 with e1 e2 e3
    subst e1; subst e2; subst e3
    exact ⟨[], rfl, by decide, none, 0, rfl, Nat.le_refl _, (fun x hx => by cases hx), fun h => absurd h (by decide)⟩
  · injection e0 with e0 _
    injection e0 with e1 e2 e3
    subst e1; subst e2; subst e3
    have hnm : n ≤ m2 := by rw [hmm]; split <;> omega
    have hV : ∀ i, i < n → ∃ x : Nat, V i = .int .u8 (x : Int) ∧ x < 256 := fun i hi => by
      obtain ⟨x, hx, _, hw⟩ := DataW.trod_int he (hall i (by omega)).2
      injection hx with hx _
      have hb := bounds_u8 hw
      exact ⟨x.toNat, by rw [hx, Int.toNat_of_nonneg hb.1], by omega⟩
    refine ⟨(List.range n).map fun i => u8Of (V i), by simp, by unfold maxLen at hm; omega, some a, c, by simp, by simpa using hl, fun x hx => ?_, fun h0 => ?_⟩
    · obtain ⟨i, hi, rfl⟩ := List.mem_map.1 hx
      obtain ⟨y, hy, hlt⟩ := hV i (List.mem_range.1 hi)
      rw [hy]
      simpa [u8Of] using hlt
    · have hn0 : 0 < n := by simpa using h0
      have hc0 := (hall 0 (by omega)).1
      have ea : a.add 0 = a := by simp [Addr.add]
      rw [ea] at hc0
      have hlt := World.block_lt_of_cell? w _ hc0
      have hsp : a.spot = none := by
        unfold World.cell? at hc0
        split at hc0
        · split at hc0
          · cases hc0
          · rename_i hs
            cases hsp : a.spot
            · rfl
            · rw [hsp] at hs; simp at hs
        · cases hc0
      refine ⟨a.block, a.off, by cases a; simp at hsp; simp [hsp], by omega, fun i hi => ?_⟩
      have hi' : i < n := by simpa using hi
      obtain ⟨y, hy, hyl⟩ := hV i hi'
      have hc := (hall i (by omega)).1
      rw [hy] at hc
      have e3 : a.add i = ⟨a.block, a.off + i, none⟩ := by
        cases a
        simp at hsp
        subst hsp
        unfold Addr.add
        by_cases h1 : i = 0 <;> simp [h1]
      rw [e3] at hc
      rw [hc]
      simp [List.getD, hi', hy, u8Of]
end
theorem cut_list (l : List Value) (i n : Nat) : l.drop i = (l.drop i).take n ++ l.drop (i + n) := by
  rw [← List.drop_drop]; exact (List.take_append_drop n (l.drop i)).symm

section
variable {H : Type} {enc : TypeId × Value → H} {w : World} {base : Nat} {spare : Nat → Bool} {held : Bool}
/-- a leaf's two cells. -/
theorem open_leaf {m : Nat} {cs : List Value} {y : Option (DataW H × List MemPlace)} (h : DataW.trod enc Tryd.prog w base spare held m 32 cs = y) (hy : y.isSome = true) (hl : cs.length = 2) :
    ∃ (A : Option Addr) (bs : List Nat) (c s : Nat), cs = [.slice A bs.length c, .int .u64 (s : Int)] ∧ s < 18446744073709551616 ∧ bs.length ≤ 9223372036854775807 ∧ Bytes w w.heap.size (.slice A bs.length c) bs := by
  obtain ⟨z, rfl⟩ := Option.isSome_iff_exists.1 hy
  obtain ⟨xs, m2, _, _, _, hn, hf⟩ := DataW.trod_struct Tryd.underlying32 h
  have hn2 : xs.length = 2 := hn
  have hsome : ∀ j, j < 2 → (xs[j]?).isSome = true := fun j hj => by rw [List.getElem?_eq_getElem (by omega)]; rfl
  obtain ⟨A, n, c, z0, e0, h0⟩ := slice_cut (i := 0) Tryd.underlying29 (by kernel_rfl) (hf 0 _ rfl) (hsome 0 (by decide))
  obtain ⟨a1, e1, w1⟩ := int_cut (i := 1) Tryd.underlying30 (by kernel_rfl) (hf 1 _ rfl) (hsome 1 (by decide))
  obtain ⟨bs, rfl, hb2, hb3⟩ := open_bytes Tryd.underlying29 Tryd.underlying5 (by kernel_rfl) h0
  have hb := bounds_u64 w1
  obtain ⟨n1, rfl⟩ : ∃ n : Nat, a1 = n := ⟨a1.toNat, by omega⟩
  refine ⟨A, bs, c, n1, ?_, by omega, hb2, hb3⟩
  have f0 := cut_list cs 0 1
  have f1 := cut_list cs 1 1
  have f2 : cs.drop 2 = [] := List.drop_eq_nil_of_le (by omega)
  simp only [Nat.reduceAdd] at f0 f1
  rw [e0] at f0
  rw [e1, f2] at f1
  rw [f1] at f0
  rw [List.drop_zero] at f0
  exact f0
theorem leaf_cut {m i : Nat} {cs : List Value} {y : Option (DataW H × List MemPlace)} (h : DataW.trod enc Tryd.prog w base spare held m 32 ((cs.drop i).take (Tryd.prog.cellsOf 32)) = y) (hy : y.isSome = true) (hl : i + 2 ≤ cs.length) :
    ∃ (A : Option Addr) (bs : List Nat) (c s : Nat), (cs.drop i).take 2 = [.slice A bs.length c, .int .u64 (s : Int)] ∧ s < 18446744073709551616 ∧ bs.length ≤ 9223372036854775807 ∧ Bytes w w.heap.size (.slice A bs.length c) bs := by
  have c4 : Tryd.prog.cellsOf 32 = 2 := by kernel_rfl
  rw [c4] at h
  exact open_leaf h hy (by rw [List.length_take, List.length_drop]; omega)
set_option maxRecDepth 100000 in
/-- a leaf by value. -/
theorem open_leafV {base' : Nat} {r : Reach} {v : Value} {d : DataW H} {p : List MemPlace} (hv : Value.okWide Tryd.prog w r base' 32 v) (h : DataW.Trod enc Tryd.prog w base spare held 32 v d p) :
    ∃ (A : Option Addr) (bs : List Nat) (c s : Nat), v = leafV (.slice A bs.length c) s ∧ s < 18446744073709551616 ∧ bs.length ≤ 9223372036854775807 ∧ Bytes w w.heap.size (.slice A bs.length c) bs := by
  obtain ⟨cs, rfl, hs⟩ := okWide_struct Tryd.underlying32 hv
  obtain ⟨fuel, hf⟩ := h
  have hf' : DataW.trod enc Tryd.prog w base spare held fuel 32 cs.toList = some (d, p) := by simpa [Value.cells] using hf
  have hc : Tryd.prog.cellsOf 32 = 2 := by kernel_rfl
  obtain ⟨A, bs, c, s, h1, h2, h3, h4⟩ := open_leaf hf' rfl (by rw [Array.length_toList, hs, hc])
  exact ⟨A, bs, c, s, by unfold leafV; rw [← h1], h2, h3, h4⟩
theorem open_node {m : Nat} {cs : List Value} {y : Option (DataW H × List MemPlace)} (h : DataW.trod enc Tryd.prog w base spare held m 58 cs = y) (hy : y.isSome = true) (hl : cs.length = 33) :
    ∃ (k : List Nat) (s : Nat), cs = ncells k s ∧ IsHash k ∧ s < 18446744073709551616 := by
  obtain ⟨z, rfl⟩ := Option.isSome_iff_exists.1 hy
  obtain ⟨xs, m2, _, _, _, hn, hf⟩ := DataW.trod_struct Tryd.underlying58 h
  have hn2 : xs.length = 2 := hn
  have hsome : ∀ j, j < 2 → (xs[j]?).isSome = true := fun j hj => by rw [List.getElem?_eq_getElem (by omega)]; rfl
  obtain ⟨k, e0, w0⟩ := hash_cut (i := 0) Tryd.underlying28 Tryd.underlying5 (by kernel_rfl) (by kernel_rfl) (hf 0 _ rfl) (hsome 0 (by decide))
  obtain ⟨a1, e1, w1⟩ := int_cut (i := 32) Tryd.underlying30 (by kernel_rfl) (hf 1 _ rfl) (hsome 1 (by decide))
  have hb := bounds_u64 w1
  obtain ⟨n1, rfl⟩ : ∃ n : Nat, a1 = n := ⟨a1.toNat, by omega⟩
  refine ⟨k, n1, ?_, w0, by omega⟩
  have f0 := cut_list cs 0 32
  have f1 := cut_list cs 32 1
  have f2 : cs.drop 33 = [] := List.drop_eq_nil_of_le (by omega)
  simp only [Nat.reduceAdd] at f0 f1
  rw [e0] at f0
  rw [e1, f2] at f1
  rw [f1] at f0
  rw [List.drop_zero] at f0
  rw [f0]; rfl
set_option maxRecDepth 100000 in
/-- a node by value. -/
theorem open_nodeV {base' : Nat} {r : Reach} {v : Value} {d : DataW H} {p : List MemPlace} (hv : Value.okWide Tryd.prog w r base' 58 v) (h : DataW.Trod enc Tryd.prog w base spare held 58 v d p) :
    ∃ (k : List Nat) (s : Nat), v = nodeV k s ∧ IsHash k ∧ s < 18446744073709551616 := by
  obtain ⟨cs, rfl, hs⟩ := okWide_struct Tryd.underlying58 hv
  obtain ⟨fuel, hf⟩ := h
  have hf' : DataW.trod enc Tryd.prog w base spare held fuel 58 cs.toList = some (d, p) := by simpa [Value.cells] using hf
  have hc : Tryd.prog.cellsOf 58 = 33 := by kernel_rfl
  obtain ⟨k, s, h1, h2, h3⟩ := open_node hf' rfl (by rw [Array.length_toList, hs, hc])
  exact ⟨k, s, by unfold nodeV; rw [← h1], h2, h3⟩
end
end Go.Proofs.YtngmpcmeebcdmaaDoor
