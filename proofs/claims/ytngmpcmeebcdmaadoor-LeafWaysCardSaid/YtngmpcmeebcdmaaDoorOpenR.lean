/- How slices of structs among the arguments are read. -/
import Derived.Test.YtngmpcmeebcdmaaDoorMem
import Derived.Deep.Slices
import Derived.Test.YtngmpcmeebcdmaaDoorMsum3
import Derived.Test.YtngmpcmeebcdmaaDoorPf2
namespace Go.Proofs.YtngmpcmeebcdmaaDoor
set_option linter.unusedVariables false
set_option linter.unusedSimpArgs false
open Go.ChangeShapes Go.WideShapes Go.ChangeAt Go.RowKit

theorem mapM_cells {w : World} {a : Addr} {k : Nat} {cs : List Value} (h : (List.range k).mapM (fun i => w.cell? (a.add i)) = some cs) : cs.length = k ∧ ∀ j, j < k → w.cell? (a.add j) = cs[j]? := by
  refine ⟨by simpa using mapM_some_length h, fun j hj => ?_⟩
  have := mapM_some_get h j j (by simp [hj])
  exact this

/-- a slice among the arguments, whatever its elements: where they lie, and that each is read. -/
theorem open_rows {H : Type} {enc : TypeId × Value → H} {P : Program} {w : World} {base : Nat} {spare : Nat → Bool} {held : Bool} {t e k : Nat} {A : Option Addr} {n c : Nat} {d : DataW H} {p : List MemPlace}
    (ht : P.underlying t = some (.slice e)) (hk : P.cellsOf e = k) (hk0 : 0 < k) (h : DataW.Trod enc P w base spare held t (.slice A n c) d p) :
    n ≤ maxLen ∧ ∃ b off, (0 < n → A = some ⟨b, off, none⟩) ∧ ∀ i, i < n → ∃ cs m x, cs.length = k ∧ (∀ j, j < k → w.cell? ⟨b, off + i * k + j, none⟩ = cs[j]?) ∧ DataW.trod enc P w base spare held m e cs = some x := by
  obtain ⟨fuel, hf⟩ := h
  have hf' : DataW.trod enc P w base spare held fuel t [.slice A n c] = some (d, p) := by simpa [Value.cells] using hf
  rcases Deep.open_slice ht hf' with ⟨h1, _⟩ | ⟨a, len, cap, m, fu, D, Pl, h1, hb, hl, hm, hmm, _, hall⟩
  · simp at h1
    obtain ⟨rfl, rfl, rfl⟩ := h1
    exact ⟨by simp [maxLen], 0, 0, fun h => absurd h (by omega), fun i hi => absurd hi (by omega)⟩
  · simp at h1
    obtain ⟨rfl, rfl, rfl⟩ := h1
    rw [hk] at hall
    have hnm : n ≤ m := by rw [hmm]; split <;> omega
    have key : ∀ i, i < n → ∃ cs, cs.length = k ∧ (∀ j, j < k → w.cell? ((a.add (i * k)).add j) = cs[j]?) ∧ DataW.trod enc P w base spare held fu e cs = some (D i, Pl i) := by
      intro i hi
      obtain ⟨cs, hc, htr⟩ := hall i (by omega)
      unfold World.cells? at hc
      split at hc
      · obtain ⟨x, y⟩ := mapM_cells hc
        exact ⟨cs, x, y, htr⟩
      · cases hc
    refine ⟨by omega, a.block, a.off, fun hn => ?_, fun i hi => ?_⟩
    · obtain ⟨cs, hl1, hc1, _⟩ := key 0 hn
      have h0 := hc1 0 hk0
      have e0 : (a.add (0 * k)).add 0 = a := by simp [Addr.add]
      rw [e0, List.getElem?_eq_getElem (by omega)] at h0
      have : a.spot = none := by
        unfold World.cell? at h0
        split at h0
        · split at h0
          · cases h0
          · rename_i hs
            cases hsp : a.spot
            · rfl
            · rw [hsp] at hs; simp at hs
        · cases h0
      cases a
      simp at this
      simp [this]
    · obtain ⟨cs, hl1, hc1, htr⟩ := key i hi
      refine ⟨cs, fu, _, hl1, fun j hj => ?_, htr⟩
      rw [← hc1 j hj]
      obtain ⟨cs0, hl0, hc0, _⟩ := key 0 (by omega)
      have h0 := hc0 0 hk0
      have e0 : (a.add (0 * k)).add 0 = a := by simp [Addr.add]
      rw [e0, List.getElem?_eq_getElem (by omega)] at h0
      have : a.spot = none := by
        unfold World.cell? at h0
        split at h0
        · split at h0
          · cases h0
          · rename_i hs
            cases hsp : a.spot
            · rfl
            · rw [hsp] at hs; simp at hs
        · cases h0
      congr 1
      cases a
      simp at this
      subst this
      unfold Addr.add
      by_cases h1 : i * k = 0 <;> by_cases h2 : j = 0 <;> simp [h1, h2, Nat.add_assoc]

/-- a byte slice's header among some cells. -/
theorem read_bytes_head {H : Type} {enc : TypeId × Value → H} {P : Program} {w : World} {base : Nat} {spare : Nat → Bool} {held : Bool} {t e m : Nat} {cs : List Value} {x : DataW H × List MemPlace}
    (ht : P.underlying t = some (.slice e)) (h : DataW.trod enc P w base spare held m t cs = some x) : ∃ A n c, cs = [.slice A n c] := by
  rcases DataW.trod_slice ht h with ⟨rfl, _⟩ | ⟨a, len, cap, _, _, _, _, rfl, _⟩
  · exact ⟨_, _, _, rfl⟩
  · exact ⟨_, _, _, rfl⟩
section
variable {H : Type} {enc : TypeId × Value → H} {P : Program} {w : World} {base : Nat} {spare : Nat → Bool} {held : Bool} {t e m : Nat} {cs : List Value} {y : Option (DataW H × List MemPlace)}

theorem take_one (cs : List Value) (i : Nat) (h : i < cs.length) : (cs.drop i).take 1 = [cs[i]] := by
  rw [List.drop_eq_getElem_cons h, List.take_succ_cons, List.take_zero]

/-- an integer's field. -/
theorem int_field {k : IntKind} {i : Nat} (ht : P.underlying t = some (.int k)) (h1 : P.cellsOf t = 1) (hi : i < cs.length) (h : DataW.trod enc P w base spare held m t ((cs.drop i).take (P.cellsOf t)) = y) (hy : y.isSome = true) :
    ∃ n, cs[i]? = some (.int k n) ∧ (Lit.int k n).wf = true := by
  obtain ⟨z, rfl⟩ := Option.isSome_iff_exists.1 hy
  rw [h1, take_one cs i hi] at h
  obtain ⟨n, hn, _, hw⟩ := DataW.trod_int ht h
  refine ⟨n, ?_, hw⟩
  rw [List.getElem?_eq_getElem hi]
  simpa using hn
/-- a bool's field. -/
theorem bool_field {i : Nat} (ht : P.underlying t = some .bool) (h1 : P.cellsOf t = 1) (hi : i < cs.length) (h : DataW.trod enc P w base spare held m t ((cs.drop i).take (P.cellsOf t)) = y) (hy : y.isSome = true) :
    ∃ b, cs[i]? = some (.bool b) := by
  obtain ⟨z, rfl⟩ := Option.isSome_iff_exists.1 hy
  rw [h1, take_one cs i hi] at h
  cases m with
  | zero => simp [DataW.trod] at h
  | succ m =>
    unfold DataW.trod at h
    rw [ht] at h
    rw [List.getElem?_eq_getElem hi]
    split at h <;> simp_all
/-- a slice's field. -/
theorem slice_field {i : Nat} (ht : P.underlying t = some (.slice e)) (h1 : P.cellsOf t = 1) (hi : i < cs.length) (h : DataW.trod enc P w base spare held m t ((cs.drop i).take (P.cellsOf t)) = y) (hy : y.isSome = true) :
    ∃ A n c, cs[i]? = some (.slice A n c) ∧ ∃ z, DataW.trod enc P w base spare held m t [.slice A n c] = some z := by
  obtain ⟨z, rfl⟩ := Option.isSome_iff_exists.1 hy
  rw [h1, take_one cs i hi] at h
  obtain ⟨A, n, c, hc⟩ := read_bytes_head ht h
  refine ⟨A, n, c, ?_, z, by rw [← hc]; exact h⟩
  rw [List.getElem?_eq_getElem hi]
  simpa using hc
end
end Go.Proofs.YtngmpcmeebcdmaaDoor

/- How bytes, digests, a leaf and a node are read off the arguments. -/
namespace Go.Proofs.YtngmpcmeebcdmaaDoor
set_option linter.unusedVariables false
set_option linter.unusedSimpArgs false
open Go.ChangeShapes Go.WideShapes Go.ChangeAt Go.RowKit Go.Maps

section
variable {H : Type} {enc : TypeId × Value → H} {P : Program} {w : World} {base : Nat} {spare : Nat → Bool} {held : Bool}
/-- 32 cells that read as a [32]byte. -/
theorem hash_cells {t e m : Nat} {cs : List Value} {y : Option (DataW H × List MemPlace)} (ht : P.underlying t = some (.array 32 e)) (he : P.underlying e = some (.int .u8)) (h1 : P.cellsOf e = 1) (h32 : P.cellsOf t = 32)
    (h : DataW.trod enc P w base spare held m t cs = y) (hy : y.isSome = true) : ∃ ks, cs = bcells ks ∧ IsHash ks := by
  obtain ⟨z, rfl⟩ := Option.isSome_iff_exists.1 hy
  obtain ⟨xs, m, _, hx, hlen, hn, hall⟩ := DataW.trod_array ht h
  rw [h32] at hlen
  obtain ⟨e1, e2⟩ := bytes_of_cells cs hlen (by
    intro i hi
    have := hall i hi
    rw [h1, Nat.mul_one, List.getElem?_eq_getElem (by omega)] at this
    obtain ⟨n, hn1, _, hw⟩ := DataW.trod_int he this
    rw [List.drop_eq_getElem_cons (by omega)] at hn1
    simp only [List.take_succ_cons, List.take_zero, List.cons.injEq, and_true] at hn1
    have hb := bounds_u8 hw
    refine ⟨n.toNat, ?_, by omega⟩
    rw [List.getElem?_eq_getElem (by omega), hn1, Int.toNat_of_nonneg hb.1])
  exact ⟨cs.map u8Of, e1, e2⟩
theorem hash_cut {t e m i : Nat} {cs : List Value} {y : Option (DataW H × List MemPlace)} (ht : P.underlying t = some (.array 32 e)) (he : P.underlying e = some (.int .u8)) (h1 : P.cellsOf e = 1) (h32 : P.cellsOf t = 32)
    (h : DataW.trod enc P w base spare held m t ((cs.drop i).take (P.cellsOf t)) = y) (hy : y.isSome = true) : ∃ ks, (cs.drop i).take 32 = bcells ks ∧ IsHash ks := by
  have := hash_cells ht he h1 h32 h hy
  rwa [h32] at this
theorem int_cut {k : IntKind} {t m i : Nat} {cs : List Value} {y : Option (DataW H × List MemPlace)} (ht : P.underlying t = some (.int k)) (h1 : P.cellsOf t = 1) (h : DataW.trod enc P w base spare held m t ((cs.drop i).take (P.cellsOf t)) = y) (hy : y.isSome = true) :
    ∃ n, (cs.drop i).take 1 = [.int k n] ∧ (Lit.int k n).wf = true := by
  obtain ⟨z, rfl⟩ := Option.isSome_iff_exists.1 hy
  obtain ⟨n, hn, _, hw⟩ := DataW.trod_int ht h
  rw [h1] at hn
  exact ⟨n, hn, hw⟩
theorem slice_cut {t e m i : Nat} {cs : List Value} {y : Option (DataW H × List MemPlace)} (ht : P.underlying t = some (.slice e)) (h1 : P.cellsOf t = 1) (h : DataW.trod enc P w base spare held m t ((cs.drop i).take (P.cellsOf t)) = y) (hy : y.isSome = true) :
    ∃ A n c z, (cs.drop i).take 1 = [.slice A n c] ∧ DataW.trod enc P w base spare held m t [.slice A n c] = some z := by
  obtain ⟨z, rfl⟩ := Option.isSome_iff_exists.1 hy
  obtain ⟨A, n, c, hc⟩ := read_bytes_head ht h
  refine ⟨A, n, c, z, by rw [h1] at hc; exact hc, by rw [← hc]; exact h⟩
/-- a slice of bytes among the arguments. -/
theorem open_bytes {t e m : Nat} {A : Option Addr} {n c : Nat} {z : DataW H × List MemPlace} (ht : P.underlying t = some (.slice e)) (he : P.underlying e = some (.int .u8)) (h1 : P.cellsOf e = 1) (h : DataW.trod enc P w base spare held m t [.slice A n c] = some z) :
    ∃ bs : List Nat, bs.length = n ∧ n ≤ 9223372036854775807 ∧ Bytes w w.heap.size (.slice A n c) bs := by
  rcases Deep.open_slice1 ht h1 h with ⟨e0, _⟩ | ⟨a, len, cap, m2, n2, V, D, Pl, e0, hb, hl, hm, hmm, _, hall⟩
  · injection e0 with e0 _
    injection e0 with e1 e2 e3
    subst e1; subst e2; subst e3
    exact ⟨[], rfl, by decide, none, 0, rfl, Nat.le_refl _, (fun x hx => by cases hx), fun h => absurd h (by decide)⟩
  · injection e0 with e0 _
    injection e0 with e1 e2 e3
    subst e1; subst e2; subst e3
    have hnm : n ≤ m2 := by rw [hmm]; split <;> omega
    have hV : ∀ i, i < n → ∃ x : Nat, V i = .int .u8 (x : Int) ∧ x < 256 := fun i hi => by
      obtain ⟨x, hx, _, hw⟩ := DataW.trod_int he (hall i (by omega)).2
      injection hx with hx _
      have hb := bounds_u8 hw
      exact ⟨x.toNat, by rw [hx, Int.toNat_of_nonneg hb.1], by omega⟩
    refine ⟨(List.range n).map fun i => u8Of (V i), by simp, by unfold maxLen at hm; omega, some a, c, by simp, by simpa using hl, fun x hx => ?_, fun h0 => ?_⟩
    · obtain ⟨i, hi, rfl⟩ := List.mem_map.1 hx
      obtain ⟨y, hy, hlt⟩ := hV i (List.mem_range.1 hi)
      rw [hy]
      simpa [u8Of] using hlt
    · have hn0 : 0 < n := by simpa using h0
      have hc0 := (hall 0 (by omega)).1
      have ea : a.add 0 = a := by simp [Addr.add]
      rw [ea] at hc0
      have hlt := World.block_lt_of_cell? w _ hc0
      have hsp : a.spot = none := by
        unfold World.cell? at hc0
        split at hc0
        · split at hc0
          · cases hc0
          · rename_i hs
            cases hsp : a.spot
            · rfl
            · rw [hsp] at hs; simp at hs
        · cases hc0
      refine ⟨a.block, a.off, by cases a; simp at hsp; simp [hsp], by omega, fun i hi => ?_⟩
      have hi' : i < n := by simpa using hi
      obtain ⟨y, hy, hyl⟩ := hV i hi'
      have hc := (hall i (by omega)).1
      rw [hy] at hc
      have e3 : a.add i = ⟨a.block, a.off + i, none⟩ := by
        cases a
        simp at hsp
        subst hsp
        unfold Addr.add
        by_cases h1 : i = 0 <;> simp [h1]
      rw [e3] at hc
      rw [hc]
      simp [List.getD, hi', hy, u8Of]
end
theorem cut_list (l : List Value) (i n : Nat) : l.drop i = (l.drop i).take n ++ l.drop (i + n) := by
  rw [← List.drop_drop]; exact (List.take_append_drop n (l.drop i)).symm

section
variable {H : Type} {enc : TypeId × Value → H} {w : World} {base : Nat} {spare : Nat → Bool} {held : Bool}
/-- a leaf's two cells. -/
theorem open_leaf {m : Nat} {cs : List Value} {y : Option (DataW H × List MemPlace)} (h : DataW.trod enc Tryd.prog w base spare held m 32 cs = y) (hy : y.isSome = true) (hl : cs.length = 2) :
    ∃ (A : Option Addr) (bs : List Nat) (c s : Nat), cs = [.slice A bs.length c, .int .u64 (s : Int)] ∧ s < 18446744073709551616 ∧ bs.length ≤ 9223372036854775807 ∧ Bytes w w.heap.size (.slice A bs.length c) bs := by
  obtain ⟨z, rfl⟩ := Option.isSome_iff_exists.1 hy
  obtain ⟨xs, m2, _, _, _, hn, hf⟩ := DataW.trod_struct Tryd.underlying32 h
  have hn2 : xs.length = 2 := hn
  have hsome : ∀ j, j < 2 → (xs[j]?).isSome = true := fun j hj => by rw [List.getElem?_eq_getElem (by omega)]; rfl
  obtain ⟨A, n, c, z0, e0, h0⟩ := slice_cut (i := 0) Tryd.underlying29 (by kernel_rfl) (hf 0 _ rfl) (hsome 0 (by decide))
  obtain ⟨a1, e1, w1⟩ := int_cut (i := 1) Tryd.underlying30 (by kernel_rfl) (hf 1 _ rfl) (hsome 1 (by decide))
  obtain ⟨bs, rfl, hb2, hb3⟩ := open_bytes Tryd.underlying29 Tryd.underlying5 (by kernel_rfl) h0
  have hb := bounds_u64 w1
  obtain ⟨n1, rfl⟩ : ∃ n : Nat, a1 = n := ⟨a1.toNat, by omega⟩
  refine ⟨A, bs, c, n1, ?_, by omega, hb2, hb3⟩
  have f0 := cut_list cs 0 1
  have f1 := cut_list cs 1 1
  have f2 : cs.drop 2 = [] := List.drop_eq_nil_of_le (by omega)
  simp only [Nat.reduceAdd] at f0 f1
  rw [e0] at f0
  rw [e1, f2] at f1
  rw [f1] at f0
  rw [List.drop_zero] at f0
  exact f0
theorem leaf_cut {m i : Nat} {cs : List Value} {y : Option (DataW H × List MemPlace)} (h : DataW.trod enc Tryd.prog w base spare held m 32 ((cs.drop i).take (Tryd.prog.cellsOf 32)) = y) (hy : y.isSome = true) (hl : i + 2 ≤ cs.length) :
    ∃ (A : Option Addr) (bs : List Nat) (c s : Nat), (cs.drop i).take 2 = [.slice A bs.length c, .int .u64 (s : Int)] ∧ s < 18446744073709551616 ∧ bs.length ≤ 9223372036854775807 ∧ Bytes w w.heap.size (.slice A bs.length c) bs := by
  have c4 : Tryd.prog.cellsOf 32 = 2 := by kernel_rfl
  rw [c4] at h
  exact open_leaf h hy (by rw [List.length_take, List.length_drop]; omega)
set_option maxRecDepth 100000 in
/-- a leaf by value. -/
theorem open_leafV {base' : Nat} {r : Reach} {v : Value} {d : DataW H} {p : List MemPlace} (hv : Value.okWide Tryd.prog w r base' 32 v) (h : DataW.Trod enc Tryd.prog w base spare held 32 v d p) :
    ∃ (A : Option Addr) (bs : List Nat) (c s : Nat), v = leafV (.slice A bs.length c) s ∧ s < 18446744073709551616 ∧ bs.length ≤ 9223372036854775807 ∧ Bytes w w.heap.size (.slice A bs.length c) bs := by
  obtain ⟨cs, rfl, hs⟩ := okWide_struct Tryd.underlying32 hv
  obtain ⟨fuel, hf⟩ := h
  have hf' : DataW.trod enc Tryd.prog w base spare held fuel 32 cs.toList = some (d, p) := by simpa [Value.cells] using hf
  have hc : Tryd.prog.cellsOf 32 = 2 := by kernel_rfl
  obtain ⟨A, bs, c, s, h1, h2, h3, h4⟩ := open_leaf hf' rfl (by rw [Array.length_toList, hs, hc])
  exact ⟨A, bs, c, s, by unfold leafV; rw [← h1], h2, h3, h4⟩
theorem open_node {m : Nat} {cs : List Value} {y : Option (DataW H × List MemPlace)} (h : DataW.trod enc Tryd.prog w base spare held m 58 cs = y) (hy : y.isSome = true) (hl : cs.length = 33) :
    ∃ (k : List Nat) (s : Nat), cs = ncells k s ∧ IsHash k ∧ s < 18446744073709551616 := by
  obtain ⟨z, rfl⟩ := Option.isSome_iff_exists.1 hy
  obtain ⟨xs, m2, _, _, _, hn, hf⟩ := DataW.trod_struct Tryd.underlying58 h
  have hn2 : xs.length = 2 := hn
  have hsome : ∀ j, j < 2 → (xs[j]?).isSome = true := fun j hj => by rw [List.getElem?_eq_getElem (by omega)]; rfl
  obtain ⟨k, e0, w0⟩ := hash_cut (i := 0) Tryd.underlying28 Tryd.underlying5 (by kernel_rfl) (by kernel_rfl) (hf 0 _ rfl) (hsome 0 (by decide))
  obtain ⟨a1, e1, w1⟩ := int_cut (i := 32) Tryd.underlying30 (by kernel_rfl) (hf 1 _ rfl) (hsome 1 (by decide))
  have hb := bounds_u64 w1
  obtain ⟨n1, rfl⟩ : ∃ n : Nat, a1 = n := ⟨a1.toNat, by omega⟩
  refine ⟨k, n1, ?_, w0, by omega⟩
  have f0 := cut_list cs 0 32
  have f1 := cut_list cs 32 1
  have f2 : cs.drop 33 = [] := List.drop_eq_nil_of_le (by omega)
  simp only [Nat.reduceAdd] at f0 f1
  rw [e0] at f0
  rw [e1, f2] at f1
  rw [f1] at f0
  rw [List.drop_zero] at f0
  rw [f0]; rfl
set_option maxRecDepth 100000 in
/-- a node by value. -/
theorem open_nodeV {base' : Nat} {r : Reach} {v : Value} {d : DataW H} {p : List MemPlace} (hv : Value.okWide Tryd.prog w r base' 58 v) (h : DataW.Trod enc Tryd.prog w base spare held 58 v d p) :
    ∃ (k : List Nat) (s : Nat), v = nodeV k s ∧ IsHash k ∧ s < 18446744073709551616 := by
  obtain ⟨cs, rfl, hs⟩ := okWide_struct Tryd.underlying58 hv
  obtain ⟨fuel, hf⟩ := h
  have hf' : DataW.trod enc Tryd.prog w base spare held fuel 58 cs.toList = some (d, p) := by simpa [Value.cells] using hf
  have hc : Tryd.prog.cellsOf 58 = 33 := by kernel_rfl
  obtain ⟨k, s, h1, h2, h3⟩ := open_node hf' rfl (by rw [Array.length_toList, hs, hc])
  exact ⟨k, s, by unfold nodeV; rw [← h1], h2, h3⟩
end
end Go.Proofs.YtngmpcmeebcdmaaDoor

/- How slices of structs are read off the arguments; nodes, a proof. -/
namespace Go.Proofs.YtngmpcmeebcdmaaDoor
set_option linter.unusedVariables false
set_option linter.unusedSimpArgs false
open Go.ChangeShapes Go.WideShapes Go.ChangeAt Go.RowKit Go.Maps

/-- a slice of structs, element by element. -/
theorem open_list {H : Type} {enc : TypeId × Value → H} {P : Program} {w : World} {base : Nat} {spare : Nat → Bool} {held : Bool} {α : Type} (cl : α → List Value) (ok : α → Prop) (k : Nat) {t e : TypeId} (ht : P.underlying t = some (.slice e)) (hk : P.cellsOf e = k) (hk0 : 0 < k)
    (hE : ∀ (m : Nat) cs x, DataW.trod enc P w base spare held m e cs = some x → cs.length = k → ∃ s, cs = cl s ∧ ok s) (hl : ∀ s, ok s → (cl s).length = k)
    {A : Option Addr} {n c : Nat} {d : DataW H} {p : List MemPlace} (h : DataW.Trod enc P w base spare held t (.slice A n c) d p) :
    ∃ xs : List α, xs.length = n ∧ n ≤ 9223372036854775807 ∧ (∀ x ∈ xs, ok x) ∧ (0 < n → ∃ b o, A = some ⟨b, o, none⟩ ∧ b < w.heap.size ∧ ∀ (i : Nat) x, xs[i]? = some x → w.rangeAt b (o + i * k) (cl x)) := by
  obtain ⟨hm, b, off, hA, hall⟩ := open_rows ht hk hk0 h
  have ho : ∀ i, i < n → ∃ s : α, ok s ∧ w.rangeAt b (off + i * k) (cl s) := fun i hi => by
    obtain ⟨cs, m, x, hlc, hc, htr⟩ := hall i hi
    obtain ⟨s, hs, hok⟩ := hE m cs x htr hlc
    refine ⟨s, hok, fun j v hv => ?_⟩
    have hj := (List.getElem?_eq_some_iff.1 hv).1
    rw [hl s hok] at hj
    rw [hc j hj, hs]; exact hv
  have mk : ∀ m, m ≤ n → ∃ ss : List α, ss.length = m ∧ (∀ s ∈ ss, ok s) ∧ ∀ (i : Nat) s, ss[i]? = some s → w.rangeAt b (off + i * k) (cl s) := fun m => by
    induction m with
    | zero => exact fun _ => ⟨[], rfl, fun s hs => (by cases hs), fun i s hi => (by simp at hi)⟩
    | succ m ih =>
      intro hm
      obtain ⟨ss, h1, h2, h3⟩ := ih (by omega)
      obtain ⟨s, hs, hr⟩ := ho m (by omega)
      refine ⟨ss ++ [s], by simp [h1], fun t ht => ?_, fun i t hi => ?_⟩
      · rcases List.mem_append.1 ht with ht | ht
        · exact h2 t ht
        · rw [List.mem_singleton.1 ht]; exact hs
      · rcases Nat.lt_or_ge i m with hlt | hge
        · rw [List.getElem?_append_left (by omega)] at hi
          exact h3 i t hi
        · have hil := (List.getElem?_eq_some_iff.1 hi).1
          rw [List.length_append, h1] at hil
          have : i = m := by simp at hil; omega
          subst this
          rw [List.getElem?_append_right (by omega), h1, Nat.sub_self] at hi
          obtain rfl : s = t := by simpa using hi
          exact hr
  obtain ⟨ss, h1, h2, h3⟩ := mk n (Nat.le_refl _)
  refine ⟨ss, h1, by unfold maxLen at hm; omega, h2, fun hn => ⟨b, off, hA hn, ?_, h3⟩⟩
  obtain ⟨s, hs, hr⟩ := ho 0 hn
  have h0 : 0 < (cl s).length := by rw [hl s hs]; exact hk0
  exact World.block_lt_of_cell? w _ (hr 0 _ (List.getElem?_eq_getElem h0))
section
variable {H : Type} {enc : TypeId × Value → H} {w : World} {base : Nat} {spare : Nat → Bool} {held : Bool}
theorem open_nodes {A : Option Addr} {n c : Nat} {d : DataW H} {p : List MemPlace} (h : DataW.Trod enc Tryd.prog w base spare held 54 (.slice A n c) d p) : ∃ xs, NodesAt w A n xs ∧ n ≤ 9223372036854775807 := by
  obtain ⟨xs, h1, h2, h3, h4⟩ := open_list (α := Nd) ndV (fun x => IsHash x.h ∧ x.s < 18446744073709551616) 33 Tryd.underlying54 (by kernel_rfl) (by decide)
    (fun m cs x hx hl => by
      obtain ⟨k, s, e1, e2, e3⟩ := open_node hx rfl hl
      exact ⟨⟨k, s⟩, e1, e2, e3⟩) (fun s hs => ndV_len hs.1) h
  exact ⟨xs, ⟨h1, fun x hx => (h3 x hx).1, fun x hx => (h3 x hx).2, h4⟩, h2⟩
/-- a proof's cells among the arguments. -/
theorem open_proof {m : Nat} {cs : List Value} {y : Option (DataW H × List MemPlace)} (h : DataW.trod enc Tryd.prog w base spare held m 56 cs = y) (hy : y.isSome = true) (hl : cs.length = 33) :
    ∃ (bb : List Nat) (A : Option Addr) (n c : Nat) (xs : List Nd), cs = pcells bb A n c ∧ IsHash bb ∧ NodesAt w A n xs ∧ n ≤ 9223372036854775807 := by
  obtain ⟨z, rfl⟩ := Option.isSome_iff_exists.1 hy
  obtain ⟨xs, m2, _, _, _, hn, hf⟩ := DataW.trod_struct Tryd.underlying56 h
  have hn2 : xs.length = 2 := hn
  have hsome : ∀ j, j < 2 → (xs[j]?).isSome = true := fun j hj => by rw [List.getElem?_eq_getElem (by omega)]; rfl
  obtain ⟨k, e0, w0⟩ := hash_cut (i := 0) Tryd.underlying27 Tryd.underlying5 (by kernel_rfl) (by kernel_rfl) (hf 0 _ rfl) (hsome 0 (by decide))
  obtain ⟨A, n, c, z1, e1, h1⟩ := slice_cut (i := 32) Tryd.underlying54 (by kernel_rfl) (hf 1 _ rfl) (hsome 1 (by decide))
  obtain ⟨ys, hys⟩ := open_nodes (A := A) (n := n) (c := c) (d := z1.1) (p := z1.2) ⟨_, h1⟩
  refine ⟨k, A, n, c, ys, ?_, w0, hys⟩
  have f0 := cut_list cs 0 32
  have f1 := cut_list cs 32 1
  have f2 : cs.drop 33 = [] := List.drop_eq_nil_of_le (by omega)
  simp only [Nat.reduceAdd] at f0 f1
  rw [e0] at f0
  rw [e1, f2] at f1
  rw [f1] at f0
  rw [List.drop_zero] at f0
  rw [f0]; rfl
set_option maxRecDepth 100000 in
/-- a proof by value. -/
theorem open_proofV {base' : Nat} {r : Reach} {v : Value} {d : DataW H} {p : List MemPlace} (hv : Value.okWide Tryd.prog w r base' 56 v) (h : DataW.Trod enc Tryd.prog w base spare held 56 v d p) :
    ∃ (bb : List Nat) (A : Option Addr) (n c : Nat) (xs : List Nd), v = .agg (pcells bb A n c).toArray ∧ IsHash bb ∧ NodesAt w A n xs ∧ n ≤ 9223372036854775807 := by
  obtain ⟨cs, rfl, hs⟩ := okWide_struct Tryd.underlying56 hv
  obtain ⟨fuel, hf⟩ := h
  have hf' : DataW.trod enc Tryd.prog w base spare held fuel 56 cs.toList = some (d, p) := by simpa [Value.cells] using hf
  have hc : Tryd.prog.cellsOf 56 = 33 := by kernel_rfl
  obtain ⟨bb, A, n, c, xs, h1, h2, h3⟩ := open_proof hf' rfl (by rw [Array.length_toList, hs, hc])
  exact ⟨bb, A, n, c, xs, by rw [← h1], h2, h3⟩
end
end Go.Proofs.YtngmpcmeebcdmaaDoor
