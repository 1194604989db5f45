/- How slices of structs are read off the arguments; nodes, a proof. -/
import Derived.Test.YtngmpcmeebcdmaaDoorOpenB
import Derived.Test.YtngmpcmeebcdmaaDoorPf2
namespace Go.Proofs.YtngmpcmeebcdmaaDoor
set_option linter.unusedVariables false
set_option linter.unusedSimpArgs false
open Go.ChangeShapes Go.WideShapes Go.ChangeAt Go.RowKit Go.Maps

/-- a slice of structs, element by element. -/
theorem open_list {H : Type} {enc : TypeId × Value → H} {P : Program} {w : World} {base : Nat} {spare : Nat → Bool} {held : Bool} {α : Type} (cl : α → List Value) (ok : α → Prop) (k : Nat) {t e : TypeId} (ht : P.underlying t = some (.slice e)) (hk : P.cellsOf e = k) (hk0 : 0 < k)
    (hE : ∀ (m : Nat) cs x, DataW.trod enc P w base spare held m e cs = some x → cs.length = k → ∃ s, cs = cl s ∧ ok s) (hl : ∀ s, ok s → (cl s).length = k)
    {A : Option Addr} {n c : Nat} {d : DataW H} {p : List MemPlace} (h : DataW.Trod enc P w base spare held t (.slice A n c) d p) :
    ∃ xs : List α, xs.length = n ∧ n ≤ 9223372036854775807 ∧ (∀ x ∈ xs, ok x) ∧ (0 < n → ∃ b o, A = some ⟨b, o, none⟩ ∧ b < w.heap.size ∧ ∀ (i : Nat) x, xs[i]? = some x → w.rangeAt b (o + i * k) (cl x)) := by
  obtain ⟨hm, b, off, hA, hall⟩ := open_rows ht hk hk0 h
  have ho : ∀ i, i < n → ∃ s : α, ok s ∧ w.rangeAt b (off + i * k) (cl s) := fun i hi => by
    obtain ⟨cs, m, x, hlc, hc, htr⟩ := hall i hi
    obtain ⟨s, hs, hok⟩ := hE m cs x htr hlc
    refine ⟨s, hok, fun j v hv => ?_⟩
    have hj := (List.getElem?_eq_some_iff.1 hv).1
    rw [hl s hok] at hj
    rw [hc j hj, hs]; exact hv
  have mk : ∀ m, m ≤ n → ∃ ss : List α, ss.length = m ∧ (∀ s ∈ ss, ok s) ∧ ∀ (i : Nat) s, ss[i]? = some s → w.rangeAt b (off + i * k) (cl s) := fun m => by
    induction m with
    | zero => exact fun _ => ⟨[], rfl, fun s hs => (by cases hs), fun i s hi => (by simp at hi)⟩
    | succ m ih =>
      intro hm
      obtain ⟨ss, h1, h2, h3⟩ := ih (by omega)
      obtain ⟨s, hs, hr⟩ := ho m (by omega)
      refine ⟨ss ++ [s], by simp [h1], fun t ht => ?_, fun i t hi => ?_⟩
      · rcases List.mem_append.1 ht with ht | ht
        · exact h2 t ht
        · rw [List.mem_singleton.1 ht]; exact hs
      · rcases Nat.lt_or_ge i m with hlt | hge
        · rw [List.getElem?_append_left (by omega)] at hi
          exact h3 i t hi
        · have hil := (List.getElem?_eq_some_iff.1 hi).1
          rw [List.length_append, h1] at hil
          have : i = m := by simp at hil; omega
          subst this
          rw [List.getElem?_append_right (by omega), h1, Nat.sub_self] at hi
          obtain rfl : s = t := by simpa using hi
          exact hr
  obtain ⟨ss, h1, h2, h3⟩ := mk n (Nat.le_refl _)
  refine ⟨ss, h1, by unfold maxLen at hm; omega, h2, fun hn => ⟨b, off, hA hn, ?_, h3⟩⟩
  obtain ⟨s, hs, hr⟩ := ho 0 hn
  have h0 : 0 < (cl s).length := by rw [hl s hs]; exact hk0
  exact World.block_lt_of_cell? w _ (hr 0 _ (List.getElem?_eq_getElem h0))
section
variable {H : Type} {enc : TypeId × Value → H} {w : World} {base : Nat} {spare : Nat → Bool} {held : Bool}
theorem open_nodes {A : Option Addr} {n c : Nat} {d : DataW H} {p : List MemPlace} (h : DataW.Trod enc Tryd.prog w base spare held 54 (.slice A n c) d p) : ∃ xs, NodesAt w A n xs ∧ n ≤ 9223372036854775807 := by
  obtain ⟨xs, h1, h2, h3, h4⟩ := open_list (α := Nd) ndV (fun x => IsHash x.h ∧ x.s < 18446744073709551616) 33 Tryd.underlying54 (by kernel_rfl) (by decide)
    (fun m cs x hx hl => by
      obtain ⟨k, s, e1, e2, e3⟩ := open_node hx rfl hl
      exact ⟨⟨k, s⟩, e1, e2, e3⟩) (fun s hs => ndV_len hs.1) h
  exact ⟨xs, ⟨h1, fun x hx => (h3 x hx).1, fun x hx => (h3 x hx).2, h4⟩, h2⟩
/-- a proof's cells among the arguments. -/
theorem open_proof {m : Nat} {cs : List Value} {y : Option (DataW H × List MemPlace)} (h : DataW.trod enc Tryd.prog w base spare held m 56 cs = y) (hy : y.isSome = true) (hl : cs.length = 33) :
    ∃ (bb : List Nat) (A : Option Addr) (n c : Nat) (xs : List Nd), cs = pcells bb A n c ∧ IsHash bb ∧ NodesAt w A n xs ∧ n ≤ 9223372036854775807 := by
  obtain ⟨z, rfl⟩ := Option.isSome_iff_exists.1 hy
  obtain ⟨xs, m2, _, _, _, hn, hf⟩ := DataW.trod_struct Tryd.underlying56 h
  have hn2 : xs.length = 2 := hn
  have hsome : ∀ j, j < 2 → (xs[j]?).isSome = true := fun j hj => by rw [List.getElem?_eq_getElem (by omega)]; rfl
  obtain ⟨k, e0, w0⟩ := hash_cut (i := 0) Tryd.underlying27 Tryd.underlying5 (by kernel_rfl) (by kernel_rfl) (hf 0 _ rfl) (hsome 0 (by decide))
  obtain ⟨A, n, c, z1, e1, h1⟩ := slice_cut (i := 32) Tryd.underlying54 (by kernel_rfl) (hf 1 _ rfl) (hsome 1 (by decide))
  obtain ⟨ys, hys⟩ := open_nodes (A := A) (n := n) (c := c) (d := z1.1) (p := z1.2) ⟨_, h1⟩
  refine ⟨k, A, n, c, ys, ?_, w0, hys⟩
  have f0 := cut_list cs 0 32
  have f1 := cut_list cs 32 1
  have f2 : cs.drop 33 = [] := List.drop_eq_nil_of_le (by omega)
  simp only [Nat.reduceAdd] at f0 f1
  rw [e0] at f0
  rw [e1, f2] at f1
  rw [f1] at f0
  rw [List.drop_zero] at f0
  rw [f0]; rfl
set_option maxRecDepth 100000 in
/-- a proof by value. -/
theorem open_proofV {base' : Nat} {r : Reach} {v : Value} {d : DataW H} {p : List MemPlace} (hv : Value.okWide Tryd.prog w r base' 56 v) (h : DataW.Trod enc Tryd.prog w base spare held 56 v d p) :
    ∃ (bb : List Nat) (A : Option Addr) (n c : Nat) (xs : List Nd), v = .agg (pcells bb A n c).toArray ∧ IsHash bb ∧ NodesAt w A n xs ∧ n ≤ 9223372036854775807 := by
  obtain ⟨cs, rfl, hs⟩ := okWide_struct Tryd.underlying56 hv
  obtain ⟨fuel, hf⟩ := h
  have hf' : DataW.trod enc Tryd.prog w base spare held fuel 56 cs.toList = some (d, p) := by simpa [Value.cells] using hf
  have hc : Tryd.prog.cellsOf 56 = 33 := by kernel_rfl
  obtain ⟨bb, A, n, c, xs, h1, h2, h3⟩ := open_proof hf' rfl (by rw [Array.length_toList, hs, hc])
  exact ⟨bb, A, n, c, xs, by rw [← h1], h2, h3⟩
end
end Go.Proofs.YtngmpcmeebcdmaaDoor
