/- Leaves of layer 7, as they come in: by value, and in a row. -/
import Derived.Test.YtniakgoefkbkhaaDoorWs
import Derived.Test.YtniakgoefkbkhaaDoorVLf4
import Derived.Test.YtniakgoefkbkhaaDoorVOpenR
namespace Go.Proofs.YtniakgoefkbkhaaDoor
set_option linter.unusedVariables false
set_option linter.unusedSimpArgs false
open Go.ChangeShapes Go.WideShapes Go.ChangeAt Go.RowKit Go.Maps

section
variable {H : Type} {enc : TypeId × Value → H} {w : World} {base : Nat} {spare : Nat → Bool} {held : Bool}
set_option maxRecDepth 100000 in
theorem open_lf {m : Nat} {cs : List Value} {y : Option (DataW H × List MemPlace)} (h : DataW.trod enc Tryd.prog w base spare held m 81 cs = y) (hy : y.isSome = true) (hl : cs.length = 99) : ∃ l : LeafT, cs = l.cells ∧ l.ok := by
 obtain ⟨z, rfl⟩ := Option.isSome_iff_exists.1 hy
 obtain ⟨xs, m2, _, _, _, hn, hf⟩ := DataW.trod_struct Tryd.underlying81 h
 have hn2 : xs.length = 5 := hn
 have hsome : ∀ j, j < 5 → (xs[j]?).isSome = true := fun j hj => by rw [List.getElem?_eq_getElem (by omega)]; rfl
 obtain ⟨k0, e0, w0⟩ := hash_cut (i := 0) Tryd.underlying39 Tryd.underlying5 (by kernel_rfl) (by kernel_rfl) (hf 0 _ rfl) (hsome 0 (by decide))
 obtain ⟨a1, e1, w1⟩ := int_cut (i := 32) Tryd.underlying22 (by kernel_rfl) (hf 1 _ rfl) (hsome 1 (by decide))
 obtain ⟨k2, e2, w2⟩ := hash_cut (i := 33) Tryd.underlying39 Tryd.underlying5 (by kernel_rfl) (by kernel_rfl) (hf 2 _ rfl) (hsome 2 (by decide))
 obtain ⟨a3, e3, w3⟩ := int_cut (i := 65) Tryd.underlying3 (by kernel_rfl) (hf 3 _ rfl) (hsome 3 (by decide))
 have h4 := hf 4 _ rfl
 have hc4 : Tryd.prog.cellsOf 79 = 33 := by kernel_rfl
 obtain ⟨k4, s4, e4, w4, v4⟩ := open_node (cs := (cs.drop 66).take 33) (by rw [← hc4]; exact h4) (hsome 4 (by decide)) (by rw [List.length_take, List.length_drop]; omega)
 have q1 := bounds_u64 w1
 have q3 := bounds_i64 w3
 refine ⟨⟨k0, a1.toNat, k2, a3, ⟨k4, s4⟩⟩, ?_, ⟨w0, by show a1.toNat < _; omega, w2, by show _ ≤ a3; omega, by show a3 ≤ _; omega, w4, v4⟩⟩
 have f0 := cut_list cs 0 32
 have f1 := cut_list cs 32 1
 have f2 := cut_list cs 33 32
 have f3 := cut_list cs 65 1
 have f4 := cut_list cs 66 33
 have f5 : cs.drop 99 = [] := List.drop_eq_nil_of_le (by omega)
 simp only [Nat.reduceAdd] at f0 f1 f2 f3 f4
 rw [e4, f5, List.append_nil] at f4
 rw [e3, f4] at f3
 rw [e2, f3] at f2
 rw [e1, f2] at f1
 rw [e0, f1, List.drop_zero] at f0
 rw [f0]
 unfold LeafT.cells ndV
 rw [show ((a1.toNat : Nat) : Int) = a1 from Int.toNat_of_nonneg (by omega)]
 rfl
set_option maxRecDepth 100000 in
/-- leaves in a row. -/
theorem open_lfs {A : Option Addr} {n c : Nat} {d : DataW H} {p : List MemPlace} (h : DataW.Trod enc Tryd.prog w base spare held 69 (.slice A n c) d p) : ∃ ls : List LeafT, RowsAt LeafT.cells 99 w A n ls ∧ (∀ l ∈ ls, l.ok) ∧ n ≤ 9223372036854775807 := by
 obtain ⟨xs, h1, h2, h3, h4⟩ := open_list LeafT.cells LeafT.ok 99 Tryd.underlying69 (by kernel_rfl) (by decide) (fun m cs x hx hl => open_lf hx rfl hl) (fun s hs => LeafT.len hs) h
 exact ⟨xs, ⟨h1, fun x hx => LeafT.len (h3 x hx), h4⟩, h3, h2⟩
end
end Go.Proofs.YtniakgoefkbkhaaDoor

