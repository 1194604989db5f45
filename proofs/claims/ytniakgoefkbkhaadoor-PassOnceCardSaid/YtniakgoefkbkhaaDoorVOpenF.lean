/- Leaves that are handed on, and how a transfer is made, as they come in. -/
import Derived.Test.YtniakgoefkbkhaaDoorWs
import Derived.Test.YtniakgoefkbkhaaDoorVFr0
import Derived.Test.YtniakgoefkbkhaaDoorVOpenL
namespace Go.Proofs.YtniakgoefkbkhaaDoor
set_option linter.unusedVariables false
set_option linter.unusedSimpArgs false
open Go.ChangeShapes Go.WideShapes Go.ChangeAt Go.RowKit Go.Maps

section
variable {H : Type} {enc : TypeId × Value → H} {w : World} {base : Nat} {spare : Nat → Bool} {held : Bool}
set_option maxRecDepth 100000 in
theorem open_pt {m : Nat} {cs : List Value} {y : Option (DataW H × List MemPlace)} (h : DataW.trod enc Tryd.prog w base spare held m 84 cs = y) (hy : y.isSome = true) (hl : cs.length = 33) :
  ∃ tx out, cs = ptCells tx out ∧ IsHash tx ∧ -9223372036854775808 ≤ out ∧ out ≤ 9223372036854775807 := by
 obtain ⟨z, rfl⟩ := Option.isSome_iff_exists.1 hy
 obtain ⟨xs, m2, _, _, _, hn, hf⟩ := DataW.trod_struct Tryd.underlying84 h
 have hn2 : xs.length = 2 := hn
 have hsome : ∀ j, j < 2 → (xs[j]?).isSome = true := fun j hj => by rw [List.getElem?_eq_getElem (by omega)]; rfl
 obtain ⟨k0, e0, w0⟩ := hash_cut (i := 0) Tryd.underlying39 Tryd.underlying5 (by kernel_rfl) (by kernel_rfl) (hf 0 _ rfl) (hsome 0 (by decide))
 obtain ⟨a1, e1, w1⟩ := int_cut (i := 32) Tryd.underlying3 (by kernel_rfl) (hf 1 _ rfl) (hsome 1 (by decide))
 have q1 := bounds_i64 w1
 refine ⟨k0, a1, ?_, w0, by omega, by omega⟩
 have f0 := cut_list cs 0 32
 have f1 := cut_list cs 32 1
 have f2 : cs.drop 33 = [] := List.drop_eq_nil_of_le (by omega)
 simp only [Nat.reduceAdd] at f0 f1
 rw [e1, f2] at f1
 rw [e0, f1, List.drop_zero] at f0
 rw [f0]; rfl
set_option maxRecDepth 100000 in
theorem open_from {m : Nat} {cs : List Value} {y : Option (DataW H × List MemPlace)} (h : DataW.trod enc Tryd.prog w base spare held m 86 cs = y) (hy : y.isSome = true) (hl : cs.length = 164) : ∃ f : FromT, cs = f.cells ∧ f.ok := by
 obtain ⟨z, rfl⟩ := Option.isSome_iff_exists.1 hy
 obtain ⟨xs, m2, _, _, _, hn, hf⟩ := DataW.trod_struct Tryd.underlying86 h
 have hn2 : xs.length = 3 := hn
 have hsome : ∀ j, j < 3 → (xs[j]?).isSome = true := fun j hj => by rw [List.getElem?_eq_getElem (by omega)]; rfl
 have hc0 : Tryd.prog.cellsOf 84 = 33 := by kernel_rfl
 have hc1 : Tryd.prog.cellsOf 81 = 99 := by kernel_rfl
 have h0 := hf 0 _ rfl
 have h1 := hf 1 _ rfl
 obtain ⟨tx, out, e0, w0, b1, b2⟩ := open_pt (cs := (cs.drop 0).take 33) (by rw [← hc0]; exact h0) (hsome 0 (by decide)) (by rw [List.length_take, List.length_drop]; omega)
 obtain ⟨l, e1, w1⟩ := open_lf (cs := (cs.drop 33).take 99) (by rw [← hc1]; exact h1) (hsome 1 (by decide)) (by rw [List.length_take, List.length_drop]; omega)
 obtain ⟨k2, e2, w2⟩ := hash_cut (i := 132) Tryd.underlying39 Tryd.underlying5 (by kernel_rfl) (by kernel_rfl) (hf 2 _ rfl) (hsome 2 (by decide))
 refine ⟨⟨tx, out, l, k2⟩, ?_, ⟨w0, b1, b2, w1, w2⟩⟩
 have f0 := cut_list cs 0 33
 have f1 := cut_list cs 33 99
 have f2 := cut_list cs 132 32
 have f3 : cs.drop 164 = [] := List.drop_eq_nil_of_le (by omega)
 simp only [Nat.reduceAdd] at f0 f1 f2
 rw [e2, f3, List.append_nil] at f2
 rw [e1, f2] at f1
 rw [e0, f1, List.drop_zero] at f0
 rw [f0]; rfl
set_option maxRecDepth 100000 in
/-- leaves that are handed on, in a row. -/
theorem open_froms {A : Option Addr} {n c : Nat} {d : DataW H} {p : List MemPlace} (h : DataW.Trod enc Tryd.prog w base spare held 68 (.slice A n c) d p) : ∃ fs : List FromT, RowsAt FromT.cells 164 w A n fs ∧ (∀ f ∈ fs, f.ok) ∧ n ≤ 9223372036854775807 := by
 obtain ⟨xs, h1, h2, h3, h4⟩ := open_list FromT.cells FromT.ok 164 Tryd.underlying68 (by kernel_rfl) (by decide) (fun m cs x hx hl => open_from hx rfl hl) (fun s hs => FromT.len hs) h
 exact ⟨xs, ⟨h1, fun x hx => FromT.len (h3 x hx), h4⟩, h3, h2⟩
def madeC (A : Option Addr) (n c : Nat) (B : Option Addr) (m d : Nat) (who : List Nat) (p q : Bool) : List Value := .slice A n c :: .slice B m d :: (bcells who ++ [.bool p, .bool q])
set_option maxRecDepth 100000 in
theorem open_made {base' : Nat} {r : Reach} {v : Value} {d : DataW H} {p : List MemPlace} (hv : Value.okWide Tryd.prog w r base' 71 v) (h : DataW.Trod enc Tryd.prog w base spare held 71 v d p) :
  ∃ (A : Option Addr) (n c : Nat) (B : Option Addr) (m e : Nat) (who : List Nat) (p q : Bool) (fs : List FromT) (ls : List LeafT), v = .agg (madeC A n c B m e who p q).toArray ∧ IsHash who ∧
   (RowsAt FromT.cells 164 w A n fs ∧ (∀ f ∈ fs, f.ok) ∧ n ≤ 9223372036854775807) ∧ (RowsAt LeafT.cells 99 w B m ls ∧ (∀ l ∈ ls, l.ok) ∧ m ≤ 9223372036854775807) := by
 obtain ⟨cs, rfl, hs⟩ := okWide_struct Tryd.underlying71 hv
 obtain ⟨fuel, hf⟩ := h
 have hf' : DataW.trod enc Tryd.prog w base spare held fuel 71 cs.toList = some (d, p) := by simpa [Value.cells] using hf
 have hc : Tryd.prog.cellsOf 71 = 36 := by kernel_rfl
 have hl : cs.toList.length = 36 := by rw [Array.length_toList, hs, hc]
 obtain ⟨xs, m2, _, _, _, hn, hg⟩ := DataW.trod_struct Tryd.underlying71 hf'
 have hn2 : xs.length = 5 := hn
 have hsome : ∀ j, j < 5 → (xs[j]?).isSome = true := fun j hj => by rw [List.getElem?_eq_getElem (by omega)]; rfl
 obtain ⟨A, n, c, z0, e0, h0⟩ := slice_cut (i := 0) Tryd.underlying68 (by kernel_rfl) (hg 0 _ rfl) (hsome 0 (by decide))
 obtain ⟨B, m, e, z1, e1, h1⟩ := slice_cut (i := 1) Tryd.underlying69 (by kernel_rfl) (hg 1 _ rfl) (hsome 1 (by decide))
 obtain ⟨k2, e2, w2⟩ := hash_cut (i := 2) Tryd.underlying39 Tryd.underlying5 (by kernel_rfl) (by kernel_rfl) (hg 2 _ rfl) (hsome 2 (by decide))
 obtain ⟨p3, e3⟩ := bool_field (i := 34) Tryd.underlying4 (by kernel_rfl) (by omega) (hg 3 _ rfl) (hsome 3 (by decide))
 obtain ⟨p4, e4⟩ := bool_field (i := 35) Tryd.underlying4 (by kernel_rfl) (by omega) (hg 4 _ rfl) (hsome 4 (by decide))
 obtain ⟨fs, hfs⟩ := open_froms (A := A) (n := n) (c := c) (d := z0.1) (p := z0.2) ⟨_, h0⟩
 obtain ⟨ls, hls⟩ := open_lfs (A := B) (n := m) (c := e) (d := z1.1) (p := z1.2) ⟨_, h1⟩
 refine ⟨A, n, c, B, m, e, k2, p3, p4, fs, ls, ?_, w2, hfs, hls⟩
 have f0 := cut_list cs.toList 0 1
 have f1 := cut_list cs.toList 1 1
 have f2 := cut_list cs.toList 2 32
 have f3 := cut_list cs.toList 34 1
 have f4 := cut_list cs.toList 35 1
 have f5 : cs.toList.drop 36 = [] := List.drop_eq_nil_of_le (by omega)
 have t3 : (cs.toList.drop 34).take 1 = [.bool p3] := by rw [take_one _ 34 (by omega)]; rw [List.getElem?_eq_getElem (by omega)] at e3; injection e3 with e3; rw [e3]
 have t4 : (cs.toList.drop 35).take 1 = [.bool p4] := by rw [take_one _ 35 (by omega)]; rw [List.getElem?_eq_getElem (by omega)] at e4; injection e4 with e4; rw [e4]
 simp only [Nat.reduceAdd] at f0 f1 f2 f3 f4
 rw [t4, f5] at f4
 rw [t3, f4] at f3
 rw [e2, f3] at f2
 rw [e1, f2] at f1
 rw [e0, f1, List.drop_zero] at f0
 congr 1
 apply Array.toList_inj.1
 rw [f0]; rfl
end
end Go.Proofs.YtniakgoefkbkhaaDoor

