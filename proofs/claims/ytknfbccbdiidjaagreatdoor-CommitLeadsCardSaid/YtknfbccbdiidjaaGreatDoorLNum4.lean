/- How slices of structs among the arguments are read. -/
import Derived.Test.YtknfbccbdiidjaaGreatDoorWu
import Derived.Test.YtknfbccbdiidjaaGreatDoorLMem
import Derived.Test.YtknfbccbdiidjaaGreatDoorLBits
import Derived.Test.YtknfbccbdiidjaaGreatDoorLPf3
import Derived.Deep.Slices
import Derived.Test.YtknfbccbdiidjaaGreatDoorLLf4
import Derived.Test.YtknfbccbdiidjaaGreatDoorLCp1
import Derived.Test.YtknfbccbdiidjaaGreatDoorLCo9
import Derived.Test.YtknfbccbdiidjaaGreatDoorLLb2
import Derived.Test.YtknfbccbdiidjaaGreatDoorLFc
namespace Go.Proofs.YtknfbccbdiidjaaGreatDoor
set_option linter.unusedVariables false
set_option linter.unusedSimpArgs false
open Go.ChangeShapes Go.WideShapes Go.ChangeAt Go.RowKit

theorem mapM_cells {w : World} {a : Addr} {k : Nat} {cs : List Value} (h : (List.range k).mapM (fun i => w.cell? (a.add i)) = some cs) : cs.length = k ∧ ∀ j, j < k → w.cell? (a.add j) = cs[j]? := by
 refine ⟨by simpa using mapM_some_length h, fun j hj => ?_⟩
 have := mapM_some_get h j j (by simp [hj])
 exact this

theorem open_rows {H : Type} {enc : TypeId × Value → H} {P : Program} {w : World} {base : Nat} {spare : Nat → Bool} {held : Bool} {t e k : Nat} {A : Option Addr} {n c : Nat} {d : DataW H} {p : List MemPlace}
   (ht : P.underlying t = some (.slice e)) (hk : P.cellsOf e = k) (hk0 : 0 < k) (h : DataW.Trod enc P w base spare held t (.slice A n c) d p) :
   n ≤ maxLen ∧ ∃ b off, (0 < n → A = some ⟨b, off, none⟩) ∧ ∀ i, i < n → ∃ cs m x, cs.length = k ∧ (∀ j, j < k → w.cell? ⟨b, off + i * k + j, none⟩ = cs[j]?) ∧ DataW.trod enc P w base spare held m e cs = some x := by
 obtain ⟨fuel, hf⟩ := h
 have hf' : DataW.trod enc P w base spare held fuel t [.slice A n c] = some (d, p) := by simpa [Value.cells] using hf
 rcases Deep.open_slice ht hf' with ⟨h1, _⟩ | ⟨a, len, cap, m, fu, D, Pl, h1, hb, hl, hm, hmm, _, hall⟩
 · simp at h1
   obtain ⟨rfl, rfl, rfl⟩ := h1
   exact ⟨by simp [maxLen], 0, 0, fun h => absurd h (by omega), fun i hi => absurd hi (by omega)⟩
 · simp at h1
   obtain ⟨rfl, rfl, rfl⟩ := h1
   rw [hk] at hall
   have hnm : n ≤ m := by rw [hmm]; split <;> omega
   have key : ∀ i, i < n → ∃ cs, cs.length = k ∧ (∀ j, j < k → w.cell? ((a.add (i * k)).add j) = cs[j]?) ∧ DataW.trod enc P w base spare held fu e cs = some (D i, Pl i) := by
     intro i hi
     obtain ⟨cs, hc, htr⟩ := hall i (by omega)
     unfold World.cells? at hc
     split at hc
     · obtain ⟨x, y⟩ := mapM_cells hc
       exact ⟨cs, x, y, htr⟩
     · cases hc
   refine ⟨by omega, a.block, a.off, fun hn => ?_, fun i hi => ?_⟩
   · obtain ⟨cs, hl1, hc1, _⟩ := key 0 hn
     have h0 := hc1 0 hk0
     have e0 : (a.add (0 * k)).add 0 = a := by simp [Addr.add]
     rw [e0, List.getElem?_eq_getElem (by omega)] at h0
     have : a.spot = none := by
       unfold World.cell? at h0
       split at h0
       · split at h0
         · cases h0
         · rename_i hs
           cases hsp : a.spot
           · rfl
           · rw [hsp] at hs; simp at hs
       · cases h0
     cases a
     simp at this
     simp [this]
   · obtain ⟨cs, hl1, hc1, htr⟩ := key i hi
     refine ⟨cs, fu, _, hl1, fun j hj => ?_, htr⟩
     rw [← hc1 j hj]
     obtain ⟨cs0, hl0, hc0, _⟩ := key 0 (by omega)
     have h0 := hc0 0 hk0
     have e0 : (a.add (0 * k)).add 0 = a := by simp [Addr.add]
     rw [e0, List.getElem?_eq_getElem (by omega)] at h0
     have : a.spot = none := by
       unfold World.cell? at h0
       split at h0
       · split at h0
         · cases h0
         · rename_i hs
           cases hsp : a.spot
           · rfl
           · rw [hsp] at hs; simp at hs
       · cases h0
     congr 1
     cases a
     simp at this
     subst this
     unfold Addr.add
     by_cases h1 : i * k = 0 <;> by_cases h2 : j = 0 <;> simp [h1, h2, Nat.add_assoc]

theorem read_bytes_head {H : Type} {enc : TypeId × Value → H} {P : Program} {w : World} {base : Nat} {spare : Nat → Bool} {held : Bool} {t e m : Nat} {cs : List Value} {x : DataW H × List MemPlace}
   (ht : P.underlying t = some (.slice e)) (h : DataW.trod enc P w base spare held m t cs = some x) : ∃ A n c, cs = [.slice A n c] := by
 rcases DataW.trod_slice ht h with ⟨rfl, _⟩ | ⟨a, len, cap, _, _, _, _, rfl, _⟩
 · exact ⟨_, _, _, rfl⟩
 · exact ⟨_, _, _, rfl⟩
section
section
variable {H : Type} {enc : TypeId × Value → H} {P : Program} {w : World} {base : Nat} {spare : Nat → Bool} {held : Bool} {t e m : Nat} {cs : List Value} {y : Option (DataW H × List MemPlace)}

theorem take_one (cs : List Value) (i : Nat) (h : i < cs.length) : (cs.drop i).take 1 = [cs[i]] := by
 rw [List.drop_eq_getElem_cons h, List.take_succ_cons, List.take_zero]

end
end
section

/- How bytes, digests, a leaf and a node are read off the arguments. -/
open Go.ChangeShapes Go.WideShapes Go.ChangeAt Go.RowKit Go.Maps

section
variable {H : Type} {enc : TypeId × Value → H} {P : Program} {w : World} {base : Nat} {spare : Nat → Bool} {held : Bool}
theorem hash_cells {t e m : Nat} {cs : List Value} {y : Option (DataW H × List MemPlace)} (ht : P.underlying t = some (.array 32 e)) (he : P.underlying e = some (.int .u8)) (h1 : P.cellsOf e = 1) (h32 : P.cellsOf t = 32)
  (h : DataW.trod enc P w base spare held m t cs = y) (hy : y.isSome = true) : ∃ ks, cs = bcells ks ∧ IsHash ks := by
 obtain ⟨z, rfl⟩ := Option.isSome_iff_exists.1 hy
 obtain ⟨xs, m, _, hx, Aa, hn, Ab⟩ := DataW.trod_array ht h
 rw [h32] at Aa
 obtain ⟨e1, e2⟩ := bytes_of_cells cs Aa (by
  intro i hi
  have := Ab i hi
  rw [h1, Nat.mul_one, List.getElem?_eq_getElem (by omega)] at this
  obtain ⟨n, hn1, _, hw⟩ := DataW.trod_int he this
  rw [List.drop_eq_getElem_cons (by omega)] at hn1
  simp only [List.take_succ_cons, List.take_zero, List.cons.injEq, and_true] at hn1
  have hb := bounds_u8 hw
  refine ⟨n.toNat, ?_, by omega⟩
  rw [List.getElem?_eq_getElem (by omega), hn1, Int.toNat_of_nonneg hb.1])
 exact ⟨cs.map u8Of, e1, e2⟩
theorem hash_cut {t e m i : Nat} {cs : List Value} {y : Option (DataW H × List MemPlace)} (ht : P.underlying t = some (.array 32 e)) (he : P.underlying e = some (.int .u8)) (h1 : P.cellsOf e = 1) (h32 : P.cellsOf t = 32)
  (h : DataW.trod enc P w base spare held m t ((cs.drop i).take (P.cellsOf t)) = y) (hy : y.isSome = true) : ∃ ks, (cs.drop i).take 32 = bcells ks ∧ IsHash ks := by
 have := hash_cells ht he h1 h32 h hy
 rwa [h32] at this
theorem int_cut {k : IntKind} {t m i : Nat} {cs : List Value} {y : Option (DataW H × List MemPlace)} (ht : P.underlying t = some (.int k)) (h1 : P.cellsOf t = 1) (h : DataW.trod enc P w base spare held m t ((cs.drop i).take (P.cellsOf t)) = y) (hy : y.isSome = true) :
  ∃ n, (cs.drop i).take 1 = [.int k n] ∧ (Lit.int k n).wf = true := by
 obtain ⟨z, rfl⟩ := Option.isSome_iff_exists.1 hy
 obtain ⟨n, hn, _, hw⟩ := DataW.trod_int ht h
 rw [h1] at hn
 exact ⟨n, hn, hw⟩
theorem slice_cut {t e m i : Nat} {cs : List Value} {y : Option (DataW H × List MemPlace)} (ht : P.underlying t = some (.slice e)) (h1 : P.cellsOf t = 1) (h : DataW.trod enc P w base spare held m t ((cs.drop i).take (P.cellsOf t)) = y) (hy : y.isSome = true) :
  ∃ A n c z, (cs.drop i).take 1 = [.slice A n c] ∧ DataW.trod enc P w base spare held m t [.slice A n c] = some z := by
 obtain ⟨z, rfl⟩ := Option.isSome_iff_exists.1 hy
 obtain ⟨A, n, c, hc⟩ := read_bytes_head ht h
 refine ⟨A, n, c, z, by rw [h1] at hc; exact hc, by rw [← hc]; exact h⟩
end
theorem cut_list (l : List Value) (i n : Nat) : l.drop i = (l.drop i).take n ++ l.drop (i + n) := by
 rw [← List.drop_drop]; exact (List.take_append_drop n (l.drop i)).symm

section
variable {H : Type} {enc : TypeId × Value → H} {w : World} {base : Nat} {spare : Nat → Bool} {held : Bool}
theorem open_node {m : Nat} {cs : List Value} {y : Option (DataW H × List MemPlace)} (h : DataW.trod enc Tryz.prog w base spare held m 30 cs = y) (hy : y.isSome = true) (hl : cs.length = 33) :
  ∃ (k : List Nat) (s : Nat), cs = ncells k s ∧ IsHash k ∧ s < 18446744073709551616 := by
 obtain ⟨z, rfl⟩ := Option.isSome_iff_exists.1 hy
 obtain ⟨xs, m2, _, _, _, hn, hf⟩ := DataW.trod_struct Tryz.underlying30 h
 have hn2 : xs.length = 2 := hn
 have Aa : ∀ j, j < 2 → (xs[j]?).isSome = true := fun j hj => by rw [List.getElem?_eq_getElem (by omega)]; rfl
 obtain ⟨k, e0, w0⟩ := hash_cut (i := 0) Tryz.underlying27 Tryz.underlying5 (by kernel_rfl) (by kernel_rfl) (hf 0 _ rfl) (Aa 0 (by decide))
 obtain ⟨a1, e1, w1⟩ := int_cut (i := 32) Tryz.underlying28 (by kernel_rfl) (hf 1 _ rfl) (Aa 1 (by decide))
 have hb := bounds_u64 w1
 obtain ⟨n1, rfl⟩ : ∃ n : Nat, a1 = n := ⟨a1.toNat, by omega⟩
 refine ⟨k, n1, ?_, w0, by omega⟩
 have f0 := cut_list cs 0 32
 have f1 := cut_list cs 32 1
 have f2 : cs.drop 33 = [] := List.drop_eq_nil_of_le (by omega)
 simp only [Nat.reduceAdd] at f0 f1
 rw [e0] at f0
 rw [e1, f2] at f1
 rw [f1] at f0
 rw [List.drop_zero] at f0
 rw [f0]; rfl
end
end
section

/- How slices of structs are read off the arguments; nodes, a proof. -/

theorem open_list {H : Type} {enc : TypeId × Value → H} {P : Program} {w : World} {base : Nat} {spare : Nat → Bool} {held : Bool} {α : Type} (cl : α → List Value) (ok : α → Prop) (k : Nat) {t e : TypeId} (ht : P.underlying t = some (.slice e)) (hk : P.cellsOf e = k) (hk0 : 0 < k)
  (hE : ∀ (m : Nat) cs x, DataW.trod enc P w base spare held m e cs = some x → cs.length = k → ∃ s, cs = cl s ∧ ok s) (hl : ∀ s, ok s → (cl s).length = k)
  {A : Option Addr} {n c : Nat} {d : DataW H} {p : List MemPlace} (h : DataW.Trod enc P w base spare held t (.slice A n c) d p) :
  ∃ xs : List α, xs.length = n ∧ n ≤ 9223372036854775807 ∧ (∀ x ∈ xs, ok x) ∧ (0 < n → ∃ b o, A = some ⟨b, o, none⟩ ∧ b < w.heap.size ∧ ∀ (i : Nat) x, xs[i]? = some x → w.rangeAt b (o + i * k) (cl x)) := by
 obtain ⟨hm, b, off, hA, Aa⟩ := open_rows ht hk hk0 h
 have ho : ∀ i, i < n → ∃ s : α, ok s ∧ w.rangeAt b (off + i * k) (cl s) := fun i hi => by
  obtain ⟨cs, m, x, hlc, hc, htr⟩ := Aa i hi
  obtain ⟨s, hs, hok⟩ := hE m cs x htr hlc
  refine ⟨s, hok, fun j v hv => ?_⟩
  have hj := (List.getElem?_eq_some_iff.1 hv).1
  rw [hl s hok] at hj
  rw [hc j hj, hs]; exact hv
 have mk : ∀ m, m ≤ n → ∃ ss : List α, ss.length = m ∧ (∀ s ∈ ss, ok s) ∧ ∀ (i : Nat) s, ss[i]? = some s → w.rangeAt b (off + i * k) (cl s) := fun m => by
  induction m with
  | zero => exact fun _ => ⟨[], rfl, fun s hs => (by cases hs), fun i s hi => (by simp at hi)⟩
  | succ m ih =>
   intro hm
   obtain ⟨ss, h1, h2, h3⟩ := ih (by omega)
   obtain ⟨s, hs, hr⟩ := ho m (by omega)
   refine ⟨ss ++ [s], by simp [h1], fun t ht => ?_, fun i t hi => ?_⟩
   · rcases List.mem_append.1 ht with ht | ht
     · exact h2 t ht
     · rw [List.mem_singleton.1 ht]; exact hs
   · rcases Nat.lt_or_ge i m with hlt | hge
     · rw [List.getElem?_append_left (by omega)] at hi
       exact h3 i t hi
     · have hil := (List.getElem?_eq_some_iff.1 hi).1
       rw [List.length_append, h1] at hil
       have : i = m := by simp at hil; omega
       subst this
       rw [List.getElem?_append_right (by omega), h1, Nat.sub_self] at hi
       obtain rfl : s = t := by simpa using hi
       exact hr
 obtain ⟨ss, h1, h2, h3⟩ := mk n (Nat.le_refl _)
 refine ⟨ss, h1, by unfold maxLen at hm; omega, h2, fun hn => ⟨b, off, hA hn, ?_, h3⟩⟩
 obtain ⟨s, hs, hr⟩ := ho 0 hn
 have h0 : 0 < (cl s).length := by rw [hl s hs]; exact hk0
 exact World.block_lt_of_cell? w _ (hr 0 _ (List.getElem?_eq_getElem h0))
section
variable {H : Type} {enc : TypeId × Value → H} {w : World} {base : Nat} {spare : Nat → Bool} {held : Bool}
theorem open_nodes {A : Option Addr} {n c : Nat} {d : DataW H} {p : List MemPlace} (h : DataW.Trod enc Tryz.prog w base spare held 37 (.slice A n c) d p) : ∃ xs, NodesAt w A n xs ∧ n ≤ 9223372036854775807 := by
 obtain ⟨xs, h1, h2, h3, h4⟩ := open_list (α := Nd) ndV (fun x => IsHash x.h ∧ x.s < 18446744073709551616) 33 Tryz.underlying37 (by kernel_rfl) (by decide)
  (fun m cs x hx hl => by
   obtain ⟨k, s, e1, e2, e3⟩ := open_node hx rfl hl
   exact ⟨⟨k, s⟩, e1, e2, e3⟩) (fun s hs => ndV_len hs.1) h
 exact ⟨xs, ⟨h1, fun x hx => (h3 x hx).1, fun x hx => (h3 x hx).2, h4⟩, h2⟩
theorem open_proof {m : Nat} {cs : List Value} {y : Option (DataW H × List MemPlace)} (h : DataW.trod enc Tryz.prog w base spare held m 39 cs = y) (hy : y.isSome = true) (hl : cs.length = 33) :
  ∃ (bb : List Nat) (A : Option Addr) (n c : Nat) (xs : List Nd), cs = pcells bb A n c ∧ IsHash bb ∧ NodesAt w A n xs ∧ n ≤ 9223372036854775807 := by
 obtain ⟨z, rfl⟩ := Option.isSome_iff_exists.1 hy
 obtain ⟨xs, m2, _, _, _, hn, hf⟩ := DataW.trod_struct Tryz.underlying39 h
 have hn2 : xs.length = 2 := hn
 have Aa : ∀ j, j < 2 → (xs[j]?).isSome = true := fun j hj => by rw [List.getElem?_eq_getElem (by omega)]; rfl
 obtain ⟨k, e0, w0⟩ := hash_cut (i := 0) Tryz.underlying26 Tryz.underlying5 (by kernel_rfl) (by kernel_rfl) (hf 0 _ rfl) (Aa 0 (by decide))
 obtain ⟨A, n, c, z1, e1, h1⟩ := slice_cut (i := 32) Tryz.underlying37 (by kernel_rfl) (hf 1 _ rfl) (Aa 1 (by decide))
 obtain ⟨ys, hys⟩ := open_nodes (A := A) (n := n) (c := c) (d := z1.1) (p := z1.2) ⟨_, h1⟩
 refine ⟨k, A, n, c, ys, ?_, w0, hys⟩
 have f0 := cut_list cs 0 32
 have f1 := cut_list cs 32 1
 have f2 : cs.drop 33 = [] := List.drop_eq_nil_of_le (by omega)
 simp only [Nat.reduceAdd] at f0 f1
 rw [e0] at f0
 rw [e1, f2] at f1
 rw [f1] at f0
 rw [List.drop_zero] at f0
 rw [f0]; rfl
end
end
section
/- Leaves of layer 7, as they come in: by value, and in a row. -/

section
variable {H : Type} {enc : TypeId × Value → H} {w : World} {base : Nat} {spare : Nat → Bool} {held : Bool}
set_option maxRecDepth 100000 in
theorem open_lf {m : Nat} {cs : List Value} {y : Option (DataW H × List MemPlace)} (h : DataW.trod enc Tryz.prog w base spare held m 32 cs = y) (hy : y.isSome = true) (hl : cs.length = 99) : ∃ l : LeafT, cs = l.cells ∧ l.ok := by
 obtain ⟨z, rfl⟩ := Option.isSome_iff_exists.1 hy
 obtain ⟨xs, m2, _, _, _, hn, hf⟩ := DataW.trod_struct Tryz.underlying32 h
 have hn2 : xs.length = 5 := hn
 have Aa : ∀ j, j < 5 → (xs[j]?).isSome = true := fun j hj => by rw [List.getElem?_eq_getElem (by omega)]; rfl
 obtain ⟨k0, e0, w0⟩ := hash_cut (i := 0) Tryz.underlying27 Tryz.underlying5 (by kernel_rfl) (by kernel_rfl) (hf 0 _ rfl) (Aa 0 (by decide))
 obtain ⟨a1, e1, w1⟩ := int_cut (i := 32) Tryz.underlying28 (by kernel_rfl) (hf 1 _ rfl) (Aa 1 (by decide))
 obtain ⟨k2, e2, w2⟩ := hash_cut (i := 33) Tryz.underlying27 Tryz.underlying5 (by kernel_rfl) (by kernel_rfl) (hf 2 _ rfl) (Aa 2 (by decide))
 obtain ⟨a3, e3, w3⟩ := int_cut (i := 65) Tryz.underlying3 (by kernel_rfl) (hf 3 _ rfl) (Aa 3 (by decide))
 have h4 := hf 4 _ rfl
 have hc4 : Tryz.prog.cellsOf 30 = 33 := by kernel_rfl
 obtain ⟨k4, s4, e4, w4, v4⟩ := open_node (cs := (cs.drop 66).take 33) (by rw [← hc4]; exact h4) (Aa 4 (by decide)) (by rw [List.length_take, List.length_drop]; omega)
 have q1 := bounds_u64 w1
 have q3 := bounds_i64 w3
 refine ⟨⟨k0, a1.toNat, k2, a3, ⟨k4, s4⟩⟩, ?_, ⟨w0, by show a1.toNat < _; omega, w2, by show _ ≤ a3; omega, by show a3 ≤ _; omega, w4, v4⟩⟩
 have f0 := cut_list cs 0 32
 have f1 := cut_list cs 32 1
 have f2 := cut_list cs 33 32
 have f3 := cut_list cs 65 1
 have f4 := cut_list cs 66 33
 have f5 : cs.drop 99 = [] := List.drop_eq_nil_of_le (by omega)
 simp only [Nat.reduceAdd] at f0 f1 f2 f3 f4
 rw [e4, f5, List.append_nil] at f4
 rw [e3, f4] at f3
 rw [e2, f3] at f2
 rw [e1, f2] at f1
 rw [e0, f1, List.drop_zero] at f0
 rw [f0]
 unfold LeafT.cells ndV
 rw [show ((a1.toNat : Nat) : Int) = a1 from Int.toNat_of_nonneg (by omega)]
 rfl
set_option maxRecDepth 100000 in
/-- a leaf by value. -/
theorem open_lfV {base' : Nat} {r : Reach} {v : Value} {d : DataW H} {p : List MemPlace} (hv : Value.okWide Tryz.prog w r base' 32 v) (h : DataW.Trod enc Tryz.prog w base spare held 32 v d p) : ∃ l : LeafT, v = .agg l.cells.toArray ∧ l.ok := by
 obtain ⟨cs, rfl, hs⟩ := okWide_struct Tryz.underlying32 hv
 obtain ⟨fuel, hf⟩ := h
 have hf' : DataW.trod enc Tryz.prog w base spare held fuel 32 cs.toList = some (d, p) := by simpa [Value.cells] using hf
 have hc : Tryz.prog.cellsOf 32 = 99 := by kernel_rfl
 have hl : cs.toList.length = 99 := by rw [Array.length_toList, hs, hc]
 obtain ⟨o, ho, hok⟩ := open_lf hf' rfl hl
 exact ⟨o, by rw [← ho], hok⟩
end
end
/- The walk of CommitOrders. -/

def Cz (N : Nat) (w : World) (g : Nat) (ls : List LeafT) (S : Nat → Prop) : Prop := Cm KS SS S w g ls ∧ ∀ k, S k → N ≤ k ∧ k < w.heap.size
theorem Cz.kept {N : Nat} {w w' : World} {g : Nat} {ls : List LeafT} {S T : Nat → Prop} (h : Cz N w g ls S) (hk : Kept T w w') (hs : ∀ k, S k → ¬ T k) : Cz N w' g ls S :=
 ⟨h.1.kept hk (fun k _ e => hs k e), fun k e => ⟨(h.2 k e).1, Nat.lt_of_lt_of_le (h.2 k e).2 hk.size⟩⟩
theorem Cz.below {N : Nat} {w w' : World} {g : Nat} {ls : List LeafT} {S : Nat → Prop} (h : Cz N w g ls S) (hb : Below w.heap.size w w') : Cz N w' g ls S := h.kept (Kept.of_below (S := fun _ => False) hb) (fun _ _ e => e)
section
/- The plain law of CommitProves. -/

variable {K s0 : List Wd} {T U : List Lf} {key key' : List Nat} {N : Nat} {w : World} {p q p' q' : Pf} {l : LeafT}
theorem lead_bad (h : leafBad l = true) : leadR K s0 p q l = .error 1 := by unfold leadR; rw [if_pos h]
theorem Pf.At.keptN {p : Pf} {S : Nat → Prop} {w w' : World} (h : p.At w) (hk : Kept S w w') (hs : 0 < p.n → ∀ A, p.a = some A → ¬ S A.block) : p.At w' := ⟨h.hash, h.nodes.keptN hk (fun h0 A e => hs h0 A e), h.cap⟩
theorem Pf.At.lt {p : Pf} {w : World} (h : p.At w) : 0 < p.n → ∀ A, p.a = some A → A.block < w.heap.size := fun h0 A e => by
 obtain ⟨b, o, e2, hb, _⟩ := h.nodes.at_ h0
 rw [e] at e2
 injection e2 with e2
 rw [e2]
 exact hb
end
/- Numbers as digits of one byte, the lowest first: the plain laws. -/

def digs (n : Nat) : List Nat := if h : n = 0 then [] else n % 256 :: digs (n / 256)
termination_by n
decreasing_by omega
theorem digs_zero : digs 0 = [] := by rw [digs, dif_pos rfl]
theorem digs_pos {n : Nat} (h : ¬ n = 0) : digs n = n % 256 :: digs (n / 256) := by rw [digs, dif_neg h]
def valD : List Nat → Nat
 | [] => 0
 | d :: ds => d + 256 * valD ds
theorem digs_val (n : Nat) : valD (digs n) = n := by
 induction n using Nat.strongRecOn with
 | ind n ih =>
  by_cases h : n = 0
  · rw [h, digs_zero]; rfl
  · rw [digs_pos h]
    show n % 256 + 256 * valD (digs (n / 256)) = n
    rw [ih (n / 256) (by omega)]; omega
theorem digs_lt (n : Nat) : ∀ d ∈ digs n, d < 256 := by
 induction n using Nat.strongRecOn with
 | ind n ih =>
  by_cases h : n = 0
  · rw [h, digs_zero]; intro d hd; cases hd
  · rw [digs_pos h]
    intro d hd
    rcases List.mem_cons.1 hd with e | e
    · omega
    · exact ih (n / 256) (by omega) d e
theorem digs_at (n i : Nat) : (digs n).getD i 0 = n / 256 ^ i % 256 := by
 induction i generalizing n with
 | zero =>
  by_cases h : n = 0
  · rw [h, digs_zero]; rfl
  · rw [digs_pos h]; simp
 | succ i ih =>
  by_cases h : n = 0
  · rw [h, digs_zero]; simp
  · rw [digs_pos h]
    show (digs (n / 256)).getD i 0 = _
    rw [ih, Nat.div_div_eq_div_mul, Nat.pow_succ, Nat.mul_comm 256]
theorem digs_len (n k : Nat) : (digs n).length ≤ k ↔ n < 256 ^ k := by
 induction k generalizing n with
 | zero =>
  by_cases h : n = 0
  · rw [h, digs_zero]; simp
  · rw [digs_pos h]; simp; omega
 | succ k ih =>
  by_cases h : n = 0
  · rw [h, digs_zero]; simp; exact Nat.pow_pos (by decide)
  · rw [digs_pos h, List.length_cons, Nat.succ_le_succ_iff, ih, Nat.pow_succ]
    exact Nat.div_lt_iff_lt_mul (by decide)
theorem digs_over {n i : Nat} (h : (digs n).length ≤ i) : n / 256 ^ i = 0 := Nat.div_eq_of_lt ((digs_len n i).1 h)
theorem val_app (l m : List Nat) : valD (l ++ m) = valD l + 256 ^ l.length * valD m := by
 induction l with
 | nil => simp [valD]
 | cons d l ih =>
  show d + 256 * valD (l ++ m) = d + 256 * valD l + 256 ^ (l.length + 1) * valD m
  rw [ih, Nat.pow_succ, Nat.mul_add]
  have : 256 ^ l.length * 256 * valD m = 256 * (256 ^ l.length * valD m) := by rw [Nat.mul_comm (256 ^ l.length) 256, Nat.mul_assoc]
  omega
theorem val_lt (l : List Nat) (h : ∀ d ∈ l, d < 256) : valD l < 256 ^ l.length := by
 induction l with
 | nil => simp [valD]
 | cons d l ih =>
  have h1 := h d List.mem_cons_self
  have h2 := ih (fun x hx => h x (List.mem_cons_of_mem _ hx))
  show d + 256 * valD l < 256 ^ (l.length + 1)
  rw [Nat.pow_succ]
  omega
theorem val_digs (l : List Nat) (h : ∀ d ∈ l, d < 256) (ht : 0 < l.length → ¬ l.getD (l.length - 1) 0 = 0) : digs (valD l) = l := by
 induction l with
 | nil => exact digs_zero
 | cons d l ih =>
  have h1 := h d List.mem_cons_self
  have hl : ∀ x ∈ l, x < 256 := fun x hx => h x (List.mem_cons_of_mem _ hx)
  have e : valD (d :: l) = d + 256 * valD l := rfl
  have hi : digs (valD l) = l := ih hl fun h0 => by
   have h2 := ht (by simp)
   rw [List.length_cons, Nat.add_sub_cancel] at h2
   intro hc
   apply h2
   have e2 : l.length = (l.length - 1) + 1 := by omega
   rw [e2]
   exact hc
  have hnz : ¬ valD (d :: l) = 0 := by
   intro h0
   rw [e] at h0
   have hd : d = 0 := by omega
   have hv : valD l = 0 := by omega
   rw [hv, digs_zero] at hi
   have h2 := ht (by simp)
   rw [← hi] at h2
   exact h2 hd
  rw [digs_pos hnz, e]
  have a : (d + 256 * valD l) % 256 = d := by omega
  have b : (d + 256 * valD l) / 256 = valD l := by omega
  rw [a, b, hi]
theorem val_snoc0 (l : List Nat) : valD (l ++ [0]) = valD l := by rw [val_app]; simp [valD]
theorem val_take (l : List Nat) (k : Nat) (hk : k < l.length) (h : l.getD k 0 = 0) : valD (l.take (k + 1)) = valD (l.take k) := by
 rw [List.take_add_one, List.getElem?_eq_getElem hk]
 have : l[k] = 0 := by rwa [List.getD_eq_getElem?_getD, List.getElem?_eq_getElem hk] at h
 rw [this]
 exact val_snoc0 _
theorem pow_step (n i : Nat) : n / 256 ^ i = 256 * (n / 256 ^ (i + 1)) + n / 256 ^ i % 256 := by
 rw [Nat.pow_succ, ← Nat.div_div_eq_div_mul]; omega

/- Products and orders of numbers in digits: the plain laws. -/

theorem val_set (l : List Nat) (j x : Nat) (h : j < l.length) : valD (l.set j (l.getD j 0 + x)) = valD l + 256 ^ j * x := by
 induction l generalizing j with
 | nil => cases h
 | cons d l ih =>
  cases j with
  | zero =>
   show (d + x) + 256 * valD l = d + 256 * valD l + 256 ^ 0 * x
   omega
  | succ j =>
   show d + 256 * valD (l.set j (l.getD j 0 + x)) = d + 256 * valD l + 256 ^ (j + 1) * x
   rw [ih j (by simpa using h), Nat.pow_succ, Nat.mul_add]
   have : 256 ^ j * 256 * x = 256 * (256 ^ j * x) := by rw [Nat.mul_comm (256 ^ j) 256, Nat.mul_assoc]
   omega
theorem set_lt {l : List Nat} {j x B : Nat} (h : ∀ d ∈ l, d ≤ B) (hx : x ≤ B) : ∀ d ∈ l.set j x, d ≤ B := fun d hd => by
 rcases List.mem_or_eq_of_mem_set hd with h1 | h1
 · exact h d h1
 · omega
theorem getD_le {l : List Nat} {B : Nat} (h : ∀ d ∈ l, d ≤ B) (j : Nat) : l.getD j 0 ≤ B := by
 rw [List.getD_eq_getElem?_getD]
 cases hj : l[j]? with
 | none => exact Nat.zero_le _
 | some d => exact h d (List.mem_of_getElem? hj)
theorem val_zeros (n : Nat) : valD (List.replicate n 0) = 0 := by
 induction n with
 | zero => rfl
 | succ n ih => rw [List.replicate_succ]; show 0 + 256 * valD _ = 0; rw [ih]
theorem val_take_succ (l : List Nat) (k : Nat) : valD (l.take (k + 1)) = valD (l.take k) + 256 ^ k * l.getD k 0 := by
 by_cases h : k < l.length
 · rw [List.take_add_one, List.getElem?_eq_getElem h, val_app, List.length_take, Nat.min_eq_left (by omega)]
   rw [List.getD_eq_getElem?_getD, List.getElem?_eq_getElem h]
   simp [valD]
 · rw [List.take_of_length_le (by omega), List.take_of_length_le (by omega), List.getD_eq_getElem?_getD, List.getElem?_eq_none (by omega)]
   simp
structure MulAt (a b out : List Nat) (i k : Nat) : Prop where
 len : out.length = a.length + b.length + 4
 val : valD out = valD (a.take i) * valD b + 256 ^ i * (a.getD i 0 * valD (b.take k))
 low : ∀ d ∈ out, d ≤ (i * b.length + k) * 65025
theorem MulAt.start (a b : List Nat) : MulAt a b (List.replicate (a.length + b.length + 4) 0) 0 0 :=
 ⟨by simp, by rw [val_zeros]; simp [valD], fun d hd => by rw [(List.mem_replicate.1 hd).2]; exact Nat.zero_le _⟩
theorem MulAt.step {a b out : List Nat} {i k : Nat} (h : MulAt a b out i k) (hi : i < a.length) (hk : k < b.length) (ha : ∀ d ∈ a, d < 256) (hb : ∀ d ∈ b, d < 256) :
   MulAt a b (out.set (i + k) (out.getD (i + k) 0 + a.getD i 0 * b.getD k 0)) i (k + 1) := by
 have h1 : a.getD i 0 ≤ 255 := getD_le (fun d hd => by have := ha d hd; omega) i
 have h2 : b.getD k 0 ≤ 255 := getD_le (fun d hd => by have := hb d hd; omega) k
 have h3 : a.getD i 0 * b.getD k 0 ≤ 255 * 255 := Nat.mul_le_mul h1 h2
 have h4 := getD_le h.low (i + k)
 refine ⟨by rw [List.length_set]; exact h.len, ?_, ?_⟩
 · rw [val_set _ _ _ (by rw [h.len]; omega), h.val, val_take_succ, Nat.mul_add, Nat.mul_add, Nat.pow_add]
   have : 256 ^ i * (a.getD i 0 * (256 ^ k * b.getD k 0)) = 256 ^ i * 256 ^ k * (a.getD i 0 * b.getD k 0) := by
    rw [Nat.mul_assoc, Nat.mul_left_comm (a.getD i 0)]
   omega
 · have e : (i * b.length + (k + 1)) * 65025 = (i * b.length + k) * 65025 + 65025 := by rw [← Nat.add_assoc, Nat.succ_mul]
   rw [e]
   exact set_lt (fun d hd => Nat.le_trans (h.low d hd) (by omega)) (by omega)
theorem MulAt.row {a b out : List Nat} {i : Nat} (h : MulAt a b out i b.length) : MulAt a b out (i + 1) 0 := by
 refine ⟨h.len, ?_, ?_⟩
 · rw [h.val, List.take_length, val_take_succ, Nat.add_mul, Nat.mul_assoc]
   simp [valD]
 · rw [Nat.succ_mul]
   exact fun d hd => Nat.le_trans (h.low d hd) (by omega)
structure CarryAt (P B : Nat) (out : List Nat) (i c : Nat) : Prop where
 val : valD out + 256 ^ i * c = P
 low : ∀ (j : Nat) d, j < i → out[j]? = some d → d < 256
 top : ∀ d ∈ out, d ≤ B
 car : c ≤ B
 big : 255 ≤ B
theorem CarryAt.step {P B : Nat} {out : List Nat} {i c : Nat} (h : CarryAt P B out i c) (hi : i < out.length) : CarryAt P B (out.set i ((c + out.getD i 0) % 256)) (i + 1) ((c + out.getD i 0) / 256) := by
 have ht := getD_le h.top i
 obtain ⟨x, hx⟩ : ∃ x, x = out.getD i 0 := ⟨_, rfl⟩
 have hg : out[i]? = some x := by rw [hx, List.getD_eq_getElem?_getD, List.getElem?_eq_getElem hi]; rfl
 have hc := h.car
 have hbg := h.big
 rw [← hx] at ht ⊢
 refine ⟨?_, fun j d hj hd => ?_, fun d hd => ?_, by have := h.big; omega, h.big⟩
 · have e0 := val_set (out.set i 0) i ((c + x) % 256) (by rw [List.length_set]; exact hi)
   have e1 := val_set (out.set i 0) i x (by rw [List.length_set]; exact hi)
   have ez : (out.set i 0).getD i 0 = 0 := by rw [List.getD_eq_getElem?_getD, List.getElem?_set_self hi]; rfl
   rw [ez, Nat.zero_add, List.set_set] at e0 e1
   have es : out.set i x = out := by
     apply List.ext_getElem?
     intro j
     by_cases hj : i = j
     · subst hj; rw [List.getElem?_set_self hi, hg]
     · rw [List.getElem?_set_ne hj]
   rw [es] at e1
   have hv := h.val
   rw [e0, Nat.pow_succ]
   have : 256 ^ i * (c + x) = 256 ^ i * ((c + x) % 256) + 256 ^ i * 256 * ((c + x) / 256) := by
     rw [Nat.mul_assoc, ← Nat.mul_add]
     congr 1
     omega
   rw [Nat.mul_add] at this
   omega
 · rcases Nat.lt_or_ge j i with h1 | h1
   · rw [List.getElem?_set_ne (by omega)] at hd
     exact h.low j d h1 hd
   · have e : j = i := by omega
     subst e
     rw [List.getElem?_set_self hi] at hd
     injection hd with hd
     omega
 · rcases List.mem_or_eq_of_mem_set hd with h1 | h1
   · exact h.top d h1
   · omega
theorem CarryAt.done {P B : Nat} {out : List Nat} {c : Nat} (h : CarryAt P B out out.length c) (hP : P < 256 ^ out.length) : valD out = P ∧ ∀ d ∈ out, d < 256 := by
 have hv := h.val
 have hc : c = 0 := by
  rcases Nat.eq_zero_or_pos c with h0 | h0
  · exact h0
  · have := Nat.mul_le_mul_left (256 ^ out.length) h0
    omega
 rw [hc] at hv
 refine ⟨by omega, fun d hd => ?_⟩
 obtain ⟨j, hj⟩ := List.getElem?_of_mem hd
 exact h.low j d (List.getElem?_eq_some_iff.1 hj).1 hj
theorem prod_lt (a b : List Nat) (ha : ∀ d ∈ a, d < 256) (hb : ∀ d ∈ b, d < 256) : valD a * valD b < 256 ^ (a.length + b.length + 4) := by
 have h1 := val_lt a ha
 have h2 := val_lt b hb
 have h3 : valD a * valD b ≤ 256 ^ a.length * 256 ^ b.length := Nat.mul_le_mul (by omega) (by omega)
 rw [← Nat.pow_add] at h3
 have h4 : 256 ^ (a.length + b.length) < 256 ^ (a.length + b.length + 4) := Nat.pow_lt_pow_right (by decide) (by omega)
 omega
def cmpN (m n : Nat) : Int := if m < n then -1 else if m = n then 0 else 1
theorem cmp_len {m n : Nat} (h : (digs m).length < (digs n).length) : m < n := by
 refine Nat.lt_of_not_le fun hc => ?_
 have h1 := (digs_len m (digs m).length).1 (Nat.le_refl _)
 have := (digs_len n (digs m).length).2 (by omega)
 omega
theorem cmp_digit {m n i : Nat} (he : m / 256 ^ (i + 1) = n / 256 ^ (i + 1)) (h : m / 256 ^ i % 256 < n / 256 ^ i % 256) : m < n := by
 have h1 := pow_step m i
 have h2 := pow_step n i
 refine Nat.lt_of_not_le fun hc => ?_
 have := Nat.div_le_div_right (c := 256 ^ i) hc
 omega
theorem cmp_same {m n i : Nat} (he : m / 256 ^ (i + 1) = n / 256 ^ (i + 1)) (h : m / 256 ^ i % 256 = n / 256 ^ i % 256) : m / 256 ^ i = n / 256 ^ i := by
 have h1 := pow_step m i
 have h2 := pow_step n i
 omega
/- The walks of the reference's numbers: trim, Of, Num. -/

def icells (ds : List Nat) : List Value := ds.map fun (n : Nat) => Value.int .i64 (n : Int)
theorem icells_length (ds : List Nat) : (icells ds).length = ds.length := by simp [icells]
theorem icells_get (ds : List Nat) (i : Nat) (h : i < ds.length) : (icells ds)[i]? = some (.int .i64 (ds.getD i 0 : Nat)) := by
 simp [icells, h]
theorem icells_one (ds : List Nat) : ∀ v ∈ icells ds, v.oneCell' = true := fun v hv => by
 obtain ⟨n, _, rfl⟩ := List.mem_map.1 hv; rfl
structure DigAt (w : World) (a : Option Addr) (n c : Nat) (ds : List Nat) : Prop where
 len : ds.length = n
 cap : n ≤ c
 at_ : 0 < n → ∃ b o, a = some ⟨b, o, none⟩ ∧ b < w.heap.size ∧ ∀ i, i < n → w.cell? ⟨b, o + i, none⟩ = some (.int .i64 (ds.getD i 0 : Nat))
def IsD (w : World) (v : Value) (ds : List Nat) : Prop := ∃ a c, v = .slice a ds.length c ∧ DigAt w a ds.length c ds
theorem DigAt.kept {S : Nat → Prop} {w w' : World} {a : Option Addr} {n c : Nat} {ds : List Nat} (h : DigAt w a n c ds) (hk : Kept S w w') (hs : ∀ b o, a = some ⟨b, o, none⟩ → ¬ S b) : DigAt w' a n c ds :=
 ⟨h.len, h.cap, fun hn => by
  obtain ⟨b, o, e, hb, hr⟩ := h.at_ hn
  exact ⟨b, o, e, by have := hk.size; omega, fun i hi => by
   have h1 := hr i hi
   have := World.block_lt_of_cell? w _ h1
   unfold World.cell? at h1 ⊢
   rw [hk.block _ this (hs b o e)]; exact h1⟩⟩
theorem DigAt.below {w w' : World} {a : Option Addr} {n c : Nat} {ds : List Nat} (h : DigAt w a n c ds) (hb : Below w.heap.size w w') : DigAt w' a n c ds := h.kept (S := fun _ => False) (Kept.of_below hb) (fun _ _ _ h => h)
theorem IsD.below {w w' : World} {v : Value} {ds : List Nat} (h : IsD w v ds) (hb : Below w.heap.size w w') : IsD w' v ds := by
 obtain ⟨a, c, e, h⟩ := h
 exact ⟨a, c, e, h.below hb⟩
theorem DigAt.of_own {w : World} {base n : Nat} {v : Value} {ds : List Nat} (h : w.ownsRow base 3 1 v n (icells ds)) (hn : ds.length = n) : IsD w v ds := by
 rcases h.2 with ⟨rfl, h0⟩ | ⟨g, cap, cur, rfl, hB, hh, h1, h2, h3, h4⟩
 · have e : ds = [] := List.eq_nil_of_length_eq_zero (by omega)
   subst e
   exact ⟨none, 0, rfl, rfl, Nat.le_refl _, fun h => absurd h (by decide)⟩
 · refine ⟨some ⟨g, 0, none⟩, cap, by rw [hn], rfl, by omega, fun h0 => ⟨g, 0, rfl, (Array.getElem?_eq_some_iff.1 hh).1, fun i hi => ?_⟩⟩
   have hg : Has w g 3 cur := hh
   refine hg.cell_is ?_
   rw [Nat.zero_add, ← Array.getElem?_toList]
   have e2 : cur.toList[i]? = (cur.toList.take (n * 1))[i]? := by rw [List.getElem?_take_of_lt (by omega)]
   rw [e2, h4]
   exact icells_get ds i hi
def lenD : Value → Nat
 | .slice _ n _ => n
 | _ => 0
theorem size_int (w : World) : (sizeOf 3).run Tryz.prog w = .ok 1 w := by kernel_rfl
theorem info_int : (Tryz.prog.info? 3).map (fun i => (i.zero, i.size, i.bytes)) = some (some (.int .i64 0), 1, 8) := by kernel_rfl
theorem DigAt.cut {w : World} {a : Option Addr} {n c : Nat} {ds : List Nat} (h : DigAt w a n c ds) (p : Nat) (hp : p ≤ n) :
  ∃ a1, (∀ w', (Instr.slice 63 (.slice a n c) none (some (.int .i64 (p : Int))) none).run Tryz.prog w' = .ok (.slice a1 p c) w') ∧ DigAt w a1 p c (ds.take p) := by
 have hu : Tryz.prog.underlying 63 = some (.slice (Tryz.prog.elem 63)) := by kernel_rfl
 have he : Tryz.prog.elem 63 = 3 := by kernel_rfl
 have hc := h.cap
 have hr : ∀ w', (Instr.slice 63 (.slice a n c) none (some (.int .i64 (p : Int))) none).run Tryz.prog w' = .ok (.slice (if c = 0 then a else a.map (·.add 0)) p c) w' := fun w' => by
  rw [run_slice_h w' 63 a n c hu .i64 (p : Int) (by omega) (by omega), he, size_int]
  simp only [Result.andThen, sliced, Int.toNat_natCast, Nat.zero_mul, Nat.sub_zero]
 refine ⟨_, hr, by rw [List.length_take, h.len]; omega, by omega, fun h0 => ?_⟩
 obtain ⟨b, o, rfl, hb, hcl⟩ := h.at_ (by omega)
 refine ⟨b, o, by rw [if_neg (by omega), Option.map_some, Addr.add_mid, Nat.add_zero], hb, fun i hi => ?_⟩
 rw [hcl i (by omega), List.getD_eq_getElem?_getD, List.getD_eq_getElem?_getD, List.getElem?_take_of_lt hi]
theorem at_dig (b o n c k : Nat) (hk : k < n) (w : World) : (Instr.indexAt 63 (.slice (some ⟨b, o, none⟩) n c) (.int .i64 (k : Int))).run Tryz.prog w = .ok (.pointer (some ⟨b, o + k, none⟩)) w := by
 have hu : Tryz.prog.underlying 63 = some (.slice (Tryz.prog.elem 63)) := by kernel_rfl
 have he : Tryz.prog.elem 63 = 3 := by kernel_rfl
 rw [run_indexAt_slice w 63 ⟨b, o, none⟩ n c .i64 (k : Int) hu, if_pos ⟨by omega, by omega⟩, he, size_int]
 simp only [Result.andThen, Int.toNat_natCast, Nat.mul_one, Addr.add_mid]

set_option maxRecDepth 100000 in
theorem trim_is (w : World) (a : Option Addr) (n c : Nat) (ds : List Nat) (hd : DigAt w a n c ds) (hn : n ≤ 1000000) (hlt : ∀ d ∈ ds, d < 256) :
  Calls Tryz.prog 59 #[.slice a n c] w fun e w' => (∃ v', e = .returned v' ∧ IsD w' v' (digs (valD ds))) ∧ w' = w := by
 have HD := Hh hd
 have Ae := Hh hlt
 clear hd hlt
 go_enter Tryz.func59, Tryz.ntmps59
 go_wp2_with fail
 go_loopw [0] (fun v wr => ∃ a' k, v = .slice a' k c ∧ k ≤ n ∧ DigAt w a' k c (ds.take k) ∧ valD (ds.take k) = valD ds ∧ wr = w) (fun v _ => lenD v)
 case atStart => exact ⟨a, n, rfl, Nat.le_refl _, by rw [List.take_of_length_le (by rw [HD.o.len]; exact Nat.le_refl _)]; exact HD.o, by rw [List.take_of_length_le (by rw [HD.o.len]; exact Nat.le_refl _)], rfl⟩
 case round =>
  obtain ⟨a', k, rfl, hk, hda, hv, rfl⟩ := hrel
  have Ab := Hh hda
  have HV := Hh hv
  clear hda hv
  rcases Nat.eq_zero_or_pos k with h0 | h0
  · subst h0
    go_wp2
    go_ret
    have e : digs (valD ds) = [] := by rw [← HV.o]; exact digs_zero
    rw [e]
    exact ⟨⟨_, rfl, a', c, rfl, Ab.o⟩, rfl⟩
  · obtain ⟨m, rfl⟩ : ∃ m, k = m + 1 := ⟨k - 1, by omega⟩
    obtain ⟨b, o, ha, hb, hcl⟩ := Ab.o.at_ (by omega)
    subst ha
    have hc0 := hcl m (by omega)
    have hg : (ds.take (m + 1)).getD m 0 = ds.getD m 0 := by
      rw [List.getD_eq_getElem?_getD, List.getD_eq_getElem?_getD, List.getElem?_take_of_lt (by omega)]
    rw [hg] at hc0
    have hat := at_dig b o (m + 1) c m (by omega)
    obtain ⟨d, hdd⟩ : ∃ d, d = ds.getD m 0 := ⟨_, rfl⟩
    rw [← hdd] at hc0
    have hlen : (0 : Int) < ((m + 1 : Nat) : Int) := by omega
    have hw : wrap64 (((m + 1 : Nat) : Int) - 1) = (m : Int) := by unfold wrap64; omega
    obtain ⟨a1, hcut, Aa⟩ := Ab.o.cut m (by omega)
    have Ac := Hh Aa
    have Ad := Hh hdd
    clear Aa hcl hg hdd
    by_cases hz : d = 0
    · have hz' : (d : Int) = 0 := by omega
      go_wp2
      go_roundw
      case rel =>
       refine ⟨a1, m, rfl, by omega, ?_, ?_, by first | rfl | trivial⟩
       · have := Ac.o
         rwa [List.take_take, Nat.min_eq_left (by omega)] at this
       · rw [← HV.o, val_take ds m (by have := HD.o.len; omega) (by rw [← Ad.o]; exact hz)]
      case measure => simp [lenD]
    · have hz' : ¬ (d : Int) = 0 := by omega
      go_wp2
      go_ret
      have e : digs (valD ds) = ds.take (m + 1) := by
       rw [← HV.o]
       refine val_digs _ (fun x hx => Ae.o x (List.mem_of_mem_take hx)) (fun _ => ?_)
       have hl : (ds.take (m + 1)).length = m + 1 := by rw [List.length_take, HD.o.len]; omega
       rw [hl, Nat.add_sub_cancel, List.getD_eq_getElem?_getD, List.getElem?_take_of_lt (by omega), ← List.getD_eq_getElem?_getD, ← Ad.o]
       exact hz
      have hl : (digs (valD ds)).length = m + 1 := by rw [e, List.length_take, HD.o.len]; omega
      exact ⟨⟨_, rfl, _, c, by rw [hl]; rfl, by rw [hl, e]; exact Ab.o⟩, rfl⟩

set_option maxRecDepth 100000 in
set_option maxHeartbeats 1000000 in
theorem of_is (w : World) (x : Nat) (hx : x < 18446744073709551616) :
  Calls Tryz.prog 26 #[.int .u64 (x : Int)] w fun e w' => (∃ v', e = .returned v' ∧ IsD w' v' (digs x)) ∧ Below w.heap.size w w' := by
 obtain ⟨ii, his, Ai, Aj, Ak⟩ := info_parts info_int
 have Ac : (w.alloc (.cells #[] 3)).ownsRow w.heap.size 3 1 (.slice (some ⟨w.heap.size, 0, none⟩) 0 0) 0 (icells []) := World.ownsRow_made w #[] 0 (Nat.le_refl _) (by decide) rfl
 have Ab := Hh Ac
 clear Ac
 go_enter Tryz.func26, Tryz.ntmps26
 go_wp2_with fail
 go_loopw [3, 0] (fun ov v wr => ∃ l y, v = .int .u64 ((y : Nat) : Int) ∧ y ≤ x ∧ digs x = l ++ digs y ∧ (∃ oa on oc, ov = .slice oa on oc) ∧ wr.ownsRow w.heap.size 3 1 ov l.length (icells l) ∧ Below w.heap.size w wr) (fun _ v _ => (intOf v).toNat)
 case atStart => exact ⟨[], x, rfl, Nat.le_refl _, rfl, ⟨_, _, _, rfl⟩, Ab.o, (Below.refl _ _).alloc (Nat.le_refl _) _⟩
 case round =>
  obtain ⟨l, y, rfl, hy, hl, ⟨oa, on, oc, rfl⟩, Af, Ae⟩ := hrel
  have hl8 : (digs x).length ≤ 8 := (digs_len x 8).2 (by omega)
  have Ad := Hh Af
  have Aa := Hh Ae
  have HL := Hh hl
  clear Af Ae Ab
  by_cases h0 : y = 0
  · subst h0
    go_wp2
    go_ret
    refine ⟨⟨_, rfl, ?_⟩, Aa.o⟩
    have e := HL.o
    rw [digs_zero, List.append_nil] at e
    rw [e]
    exact DigAt.of_own Ad.o rfl
  · have hpos : (0 : Int) < (y : Int) := by omega
    have hm : (y : Int) % 256 = ((y % 256 : Nat) : Int) := by omega
    have hq : (y : Int) / 256 = ((y / 256 : Nat) : Int) := by omega
    have Am := Hh (show l.length + 1 ≤ 8 by
     have h1 := hl8
     rw [HL.o, List.length_append, digs_pos h0] at h1
     simp at h1; omega)
    obtain ⟨d, hd⟩ : ∃ d, d = y % 256 := ⟨_, rfl⟩
    obtain ⟨z, hz⟩ : ∃ z, z = y / 256 := ⟨_, rfl⟩
    have hd256 : d < 256 := by omega
    rw [← hd] at hm
    rw [← hz] at hq
    have HN := Hh (show digs x = (l ++ [d]) ++ digs z by rw [HL.o, digs_pos h0, hd, hz]; simp)
    have HZ := Hh (show z < y by omega)
    clear hd hz
    have Ao := Hh (show l.length + 1 ≤ maxLen by unfold maxLen; have := Am.o; omega)
    have An := Hh (show (l.length + 1) * 8 ≤ 140737488355328 by have := Am.o; omega)
    have Al := Hh (show w.heap.size ≤ (wr.alloc (.cells #[.int .i64 (d : Int)] 3)).heap.size by have := Aa.o.size; simp; omega)
    go_wp2_with (at_builtin; refine wpList_append_lies _ rfl (.tmp 7) (.tmp 11) 63 rfl w.heap.size 3 ii (.int .i64 0) 1 8 Tryz.underlying63 his Ai Aj Ak rfl (by decide) _ l.length _ rfl (Ad.o.alloc _) ⟨wr.heap.size, 0, none⟩ 1 1 [.int .i64 (d : Int)] rfl rfl (World.news_of_block (cs := #[.int .i64 (d : Int)]) (heap_alloc_new wr _)) (by intro v hv; rw [List.mem_singleton] at hv; rw [hv]; rfl) (by decide) Ao.o An.o Al.o _ rfl ?_; intro g6 cap6 w6 Ag Ah hat6 hlt6)
    go_roundw
    case rel =>
     refine ⟨l ++ [d], z, rfl, by have := HZ.o; omega, HN.o, ⟨_, _, _, rfl⟩, ?_, ?_⟩
     · rw [List.length_append]
       have e : icells (l ++ [d]) = icells l ++ [.int .i64 (d : Int)] := by simp [icells]
       rw [e]
       exact Ag
     · exact (Aa.o.alloc Aa.o.size _).grown Ah Al.o (own_blk Ad.o)
    case measure => have := HZ.o; simp [intOf]; omega
/- The walks of the reference's order and product of two numbers. -/

set_option maxRecDepth 100000 in
set_option maxHeartbeats 2000000 in
theorem cmp_is (w : World) (a : Option Addr) (n c : Nat) (x : Nat) (a2 : Option Addr) (n2 c2 : Nat) (y : Nat) (hd : DigAt w a n c (digs x)) (hd2 : DigAt w a2 n2 c2 (digs y)) (hn : n ≤ 1000000) (hn2 : n2 ≤ 1000000) :
   Calls Tryz.prog 87 #[.slice a n c, .slice a2 n2 c2] w fun e w' => e = .returned (.int .i64 (cmpN x y)) ∧ Below w.heap.size w w' := by
 have HD := Hh hd
 have Ad := Hh hd2
 have hl := hd.len
 have hl2 := hd2.len
 have HL := Hh hl
 have Ah := Hh hl2
 clear hd hd2
 have hlt : n < n2 → cmpN x y = -1 := fun h => by
   have := cmp_len (m := x) (n := y) (by omega)
   unfold cmpN; rw [if_pos this]
 have hgt : n2 < n → cmpN x y = 1 := fun h => by
   have := cmp_len (m := y) (n := x) (by omega)
   unfold cmpN; rw [if_neg (by omega), if_neg (by omega)]
 have Aj := Hh hlt
 have Af := Hh hgt
 clear hl hl2 hlt hgt
 go_enter Tryz.func87, Tryz.ntmps87
 by_cases h1 : n < n2
 · have h1' : (n : Int) < (n2 : Int) := by omega
   have HE := Hh (Aj.o h1)
   clear h1
   go_wp2
   go_ret
   exact ⟨by rw [HE.o]; rfl, Below.refl _ _⟩
 have h1' : ¬ (n : Int) < (n2 : Int) := by omega
 by_cases h2 : n2 < n
 · have h2' : (n2 : Int) < (n : Int) := by omega
   have HE := Hh (Af.o h2)
   clear h2
   go_wp2
   go_ret
   exact ⟨by rw [HE.o]; rfl, Below.refl _ _⟩
 have h2' : ¬ (n2 : Int) < (n : Int) := by omega
 have EN := Hh (show n2 = n by omega)
 have hw : wrap64 ((n : Int) - 1) = (n : Int) - 1 := by unfold wrap64; omega
 clear h1 h2
 go_wp2_with fail
 go_loopw [5] (fun iv wr => ∃ i : Int, iv = .int .i64 i ∧ -1 ≤ i ∧ i < n ∧ x / 256 ^ (i + 1).toNat = y / 256 ^ (i + 1).toNat ∧ Below w.heap.size w wr) (fun iv _ => (intOf iv + 1).toNat)
 case atStart =>
   refine ⟨(n : Int) - 1, by go_num, by omega, by omega, ?_, Below.refl _ _⟩
   have e : ((n : Int) - 1 + 1).toNat = n := by omega
   rw [e, digs_over (by rw [HL.o]; exact Nat.le_refl _), digs_over (by rw [Ah.o, EN.o]; exact Nat.le_refl _)]
 case round =>
   obtain ⟨i, rfl, hi1, hi2, Ab, Ac⟩ := hrel
   have Aa := Hh Ac
   have HS := Hh Ab
   clear Ac Ab hw
   by_cases h0 : 0 ≤ i
   · obtain ⟨j, rfl⟩ : ∃ j : Nat, i = (j : Int) := ⟨i.toNat, by omega⟩
     have hj : j < n := by omega
     obtain ⟨bA, oA, haA, hbA, hclA⟩ := (HD.o.below Aa.o).at_ (by omega)
     obtain ⟨bB, oB, haB, hbB, hclB⟩ := (Ad.o.below Aa.o).at_ (by have := EN.o; omega)
     subst haA haB
     have hcA := hclA j hj
     have hcB := hclB j (by have := EN.o; omega)
     rw [digs_at] at hcA hcB
     have hatA := at_dig bA oA n c j hj
     have hatB := at_dig bB oB n2 c2 j (by have := EN.o; omega)
     obtain ⟨da, hda⟩ : ∃ d, d = x / 256 ^ j % 256 := ⟨_, rfl⟩
     obtain ⟨db, hdb⟩ : ∃ d, d = y / 256 ^ j % 256 := ⟨_, rfl⟩
     have hs := HS.o
     have e1 : ((j : Int) + 1).toNat = j + 1 := by omega
     rw [e1] at hs
     rw [← hda] at hcA
     rw [← hdb] at hcB
     have Ae := Hh (show da = db → x / 256 ^ j = y / 256 ^ j from fun h => cmp_same hs (by rw [← hda, ← hdb]; exact h))
     have Ai := Hh (show da < db → cmpN x y = -1 from fun h => by
       have := cmp_digit hs (by rw [← hda, ← hdb]; exact h)
       unfold cmpN; rw [if_pos this])
     have Ag := Hh (show db < da → cmpN x y = 1 from fun h => by
       have := cmp_digit hs.symm (by rw [← hda, ← hdb]; exact h)
       unfold cmpN; rw [if_neg (by omega), if_neg (by omega)])
     have hw2 : wrap64 ((j : Int) - 1) = (j : Int) - 1 := by unfold wrap64; omega
     clear hclA hclB hda hdb hs e1
     by_cases hq : da = db
     · have hq' : (da : Int) = (db : Int) := by omega
       have HJ := Hh (Ae.o hq)
       clear hq
       go_upto_region 8 with (fail)
       go_quiet (fail)
       go_wp2
       go_roundw
       case rel =>
         refine ⟨(j : Int) - 1, by go_num, by omega, by omega, ?_, ?_⟩
         · have e : ((j : Int) - 1 + 1).toNat = j := by omega
           rw [e]; exact HJ.o
         · exact below_drewN Aa.o _
       case measure => first | (simp [intOf]; done) | (simp [intOf]; omega)
     · have hq' : ¬ (da : Int) = (db : Int) := by omega
       by_cases hlo : da < db
       · have hlo' : (da : Int) < (db : Int) := by omega
         have HR := Hh (Ai.o hlo)
         clear hq hlo
         go_upto_region 8 with (fail)
         go_quiet (fail)
         go_upto_region 9 with (fail)
         go_quiet (fail)
         go_wp2
         go_ret
         exact ⟨by rw [HR.o]; rfl, by first | exact below_drewN (below_drewN Aa.o _) _ | exact below_drewN Aa.o _⟩
       · have hlo' : ¬ (da : Int) < (db : Int) := by omega
         have HR := Hh (Ag.o (by omega))
         clear hq hlo
         go_upto_region 8 with (fail)
         go_quiet (fail)
         go_upto_region 9 with (fail)
         go_quiet (fail)
         go_wp2
         go_ret
         exact ⟨by rw [HR.o]; rfl, by first | exact below_drewN (below_drewN Aa.o _) _ | exact below_drewN Aa.o _⟩
   · have e : i = -1 := by omega
     have HE := Hh (show cmpN x y = 0 by
       have h := HS.o
       rw [e] at h
       have h' : x / 256 ^ 0 = y / 256 ^ 0 := h
       rw [Nat.pow_zero, Nat.div_one, Nat.div_one] at h'
       unfold cmpN; rw [if_neg (by omega), if_pos h'])
     clear e
     go_wp2
     go_ret
     exact ⟨by rw [HE.o]; rfl, Aa.o⟩

theorem icells_set (ds : List Nat) (p q : Nat) : (icells (ds.set p q)).toArray = (icells ds).toArray.setIfInBounds p (.int .i64 (q : Int)) := by
 rw [List.setIfInBounds_toArray]
 congr 1
 simp [icells, List.map_set]
theorem made_d (w : World) (N : Nat) (hN : N ≤ 1000000000) : (Instr.makeSlice 63 (.int .i64 (N : Int)) (.int .i64 (N : Int))).run Tryz.prog w = .ok (.slice (some ⟨w.heap.size, 0, none⟩) N N) (w.alloc (.cells (icells (List.replicate N 0)).toArray 3)) := by
 obtain ⟨i, h, h0, h1, h2⟩ := info_parts info_int
 have := run_make (P := Tryz.prog) w 63 3 i _ Tryz.underlying63 h h0 .i64 .i64 N N (by omega) (by omega) (by rw [h2]; omega) (by omega)
 rw [h1, Int.toNat_natCast, Nat.mul_one] at this
 have e : madeCells (Value.int .i64 0).cells N = (icells (List.replicate N 0)).toArray := by
  apply Array.ext
  · simp [madeCells, icells]
  · intro j h1 h2
    simp [madeCells, icells, Value.cells, Nat.mod_one]
 rw [e] at this
 exact this
theorem has_dig {w : World} {g : Nat} {out : List Nat} (h : Has w g 3 (icells out).toArray) : DigAt w (some ⟨g, 0, none⟩) out.length out.length out :=
 ⟨rfl, Nat.le_refl _, fun _ => ⟨g, 0, rfl, h.lt, fun i hi => by
  rw [Nat.zero_add]
  refine h.cell_is ?_
  rw [List.getElem?_toArray]
  exact icells_get out i hi⟩⟩
theorem at_out (g n k : Nat) (hk : k < n) (w : World) : (Instr.indexAt 63 (.slice (some ⟨g, 0, none⟩) n n) (.int .i64 (k : Int))).run Tryz.prog w = .ok (.pointer (some ⟨g, k, none⟩)) w := by
 have := at_dig g 0 n n k hk w
 rwa [Nat.zero_add] at this
theorem has_set {w : World} {g : Nat} {out : List Nat} (h : Has w g 3 (icells out).toArray) (p q : Nat) : Has (w.setCell ⟨g, p, none⟩ (.int .i64 (q : Int))) g 3 (icells (out.set p q)).toArray := by
 rw [icells_set]
 exact h.set p _
theorem mul_small {n n2 i k : Nat} (hn : n ≤ 1000) (hn2 : n2 ≤ 1000) (hi : i < n) (hk : k < n2) : (i * n2 + k) * 65025 ≤ 65089960025 := by
 have h1 : i * n2 ≤ 999 * 1000 := Nat.mul_le_mul (by omega) hn2
 omega
theorem wrap64_mul (a b : Nat) (h : a * b < 4611686018427387904) : wrap64 ((a : Int) * (b : Int)) = ((a * b : Nat) : Int) := by
 rw [← Int.natCast_mul]
 exact wrap64_nat _ h
theorem i64_add (a b : Nat) (h : a + b < 4611686018427387904) : IntKind.i64.wrap ((a : Int) + (b : Int)) = ((a + b : Nat) : Int) := by rw [IntKind.wrap_i64]; omega
theorem i64_mul (a b : Nat) (h : a * b < 4611686018427387904) : IntKind.i64.wrap ((a : Int) * (b : Int)) = ((a * b : Nat) : Int) := by
 rw [← Int.natCast_mul]
 generalize a * b = m at h
 rw [IntKind.wrap_i64]; omega
set_option maxRecDepth 100000 in
set_option maxHeartbeats 4000000 in
theorem mul_is (w : World) (a : Option Addr) (n c : Nat) (x : Nat) (a2 : Option Addr) (n2 c2 : Nat) (y : Nat) (hd : DigAt w a n c (digs x)) (hd2 : DigAt w a2 n2 c2 (digs y)) (hn : n ≤ 1000) (hn2 : n2 ≤ 1000) :
  Calls Tryz.prog 86 #[.slice a n c, .slice a2 n2 c2] w fun e w' => (∃ v', e = .returned v' ∧ IsD w' v' (digs (x * y))) ∧ Below w.heap.size w w' := by
 obtain ⟨N, hN⟩ : ∃ N, N = n + n2 + 4 := ⟨_, rfl⟩
 have hs1 : wrap64 ((n : Int) + (n2 : Int)) = (n : Int) + (n2 : Int) := by unfold wrap64; omega
 have hs2 : wrap64 ((n : Int) + (n2 : Int) + 4) = (N : Int) := by unfold wrap64; omega
 have hmk := made_d w N (by omega)
 have HD := Hh hd
 have Ai := Hh hd2
 have EN := Hh hN
 have HN := Hh (And.intro hn hn2)
 have hla := hd.len
 have hlb := hd2.len
 obtain ⟨A, hA⟩ : ∃ A, A = digs x := ⟨_, rfl⟩
 obtain ⟨B, hB⟩ : ∃ A, A = digs y := ⟨_, rfl⟩
 have hA256 : ∀ d ∈ A, d < 256 := by rw [hA]; exact digs_lt x
 have hB256 : ∀ d ∈ B, d < 256 := by rw [hB]; exact digs_lt y
 have hvA : valD A = x := by rw [hA]; exact digs_val x
 have hvB : valD B = y := by rw [hB]; exact digs_val y
 rw [← hA] at HD hla
 rw [← hB] at Ai hlb
 have h0 := Has.new w 3 (icells (List.replicate N 0)).toArray
 have hm0 : MulAt A B (List.replicate N 0) 0 0 := by
  have := MulAt.start A B
  rw [hla, hlb, ← hN] at this
  exact this
 have H0 := Hh h0
 have Ak := Hh hm0
 have LA := Hh (And.intro hla hlb)
 have Aa := Hh (And.intro hA256 hB256)
 have HV := Hh (And.intro hvA hvB)
 clear hd hd2 hN hla hlb hA hB hA256 hB256 hvA hvB h0 hm0 hn hn2
 go_enter Tryz.func86, Tryz.ntmps86
 go_upto_region 2 with (fail)
 clear hmk hs1 hs2
 have hb0 : Below w.heap.size w (w.alloc (.cells (icells (List.replicate N 0)).toArray 3)) := (Below.refl _ _).alloc (Nat.le_refl _) _
 have Ah := Hh hb0
 clear hb0
 generalize w.alloc (.cells (icells (List.replicate N 0)).toArray 3) = W0 at H0 Ah ⊢
 obtain ⟨g, hg⟩ : ∃ g, g = w.heap.size := ⟨_, rfl⟩
 rw [← hg] at H0 ⊢
 have EG := Hh hg
 clear hg
 go_wp2_with fail
 go_loopw [19] (fun v wr => ∃ (i : Nat) (out : List Nat), v = .int .i64 (i : Int) ∧ i ≤ n ∧ MulAt A B out i 0 ∧ Has wr g 3 (icells out).toArray ∧ Below w.heap.size w wr) (fun v _ => n - (intOf v).toNat)
 case atStart => exact ⟨0, _, rfl, Nat.zero_le _, Ak.o, H0.o, Ah.o⟩
 case round =>
  obtain ⟨i, out, rfl, hi, hm, hh, hb⟩ := hrel
  have HM := Hh hm
  have HH := Hh hh
  have HB := Hh hb
  clear hm hh hb Ak H0 Ah
  by_cases hlt : i < n
  · go_wp2_with fail
    go_loopw [24] (fun v wy => ∃ (k : Nat) (out : List Nat), v = .int .i64 (k : Int) ∧ k ≤ n2 ∧ MulAt A B out i k ∧ Has wy g 3 (icells out).toArray ∧ Below w.heap.size w wy) (fun v _ => n2 - (intOf v).toNat)
    case atStart => exact ⟨0, out, rfl, Nat.zero_le _, HM.o, HH.o, HB.o⟩
    case round =>
     obtain ⟨k, ou, rfl, hk, hm, hh, hb⟩ := hrel
     have HM := Hh hm
     have HH := Hh hh
     have HB := Hh hb
     clear hm hh hb
     by_cases hlk : k < n2
     · obtain ⟨bA, oA, haA, hbA, hclA⟩ := (HD.o.below HB.o).at_ (by omega)
       obtain ⟨bB, oB, haB, hbB, hclB⟩ := (Ai.o.below HB.o).at_ (by omega)
       subst haA haB
       have hcA := hclA i hlt
       have hcB := hclB k hlk
       have hatA := at_dig bA oA n c i hlt
       have hatB := at_dig bB oB n2 c2 k hlk
       have hol : ou.length = N := by rw [HM.o.len, LA.o.1, LA.o.2, EN.o]
       obtain ⟨p, hp⟩ : ∃ p, p = i + k := ⟨_, rfl⟩
       have hpN : p < N := by have := EN.o; omega
       have hatO := at_out g N p hpN
       obtain ⟨o, ho⟩ : ∃ o, o = ou.getD p 0 := ⟨_, rfl⟩
       have hcO : wr.cell? ⟨g, p, none⟩ = some (.int .i64 (o : Int)) := by
        refine HH.o.cell_is ?_
        rw [List.getElem?_toArray, icells_get ou p (by omega), ← ho]
       have hfO : wr.frozen? ⟨g, p, none⟩ = false := HH.o.free _
       obtain ⟨da, hda⟩ : ∃ d, d = A.getD i 0 := ⟨_, rfl⟩
       obtain ⟨db, hdb⟩ : ∃ d, d = B.getD k 0 := ⟨_, rfl⟩
       obtain ⟨m, hm⟩ : ∃ m, m = da * db := ⟨_, rfl⟩
       obtain ⟨q, hq⟩ : ∃ q, q = o + m := ⟨_, rfl⟩
       have hst := HM.o.step (i := i) (k := k) (by rw [LA.o.1]; exact hlt) (by rw [LA.o.2]; exact hlk) Aa.o.1 Aa.o.2
       rw [← hp, ← ho, ← hda, ← hdb, ← hm, ← hq] at hst
       have hob : o ≤ 65089960025 := by
        rw [ho]
        refine getD_le (fun d hd => Nat.le_trans (HM.o.low d hd) ?_) p
        rw [LA.o.2]
        exact mul_small HN.o.1 HN.o.2 hlt hlk
       have hmb : m ≤ 255 * 255 := by
        rw [hm]
        exact Nat.mul_le_mul (by rw [hda]; exact getD_le (fun d hd => Nat.le_of_lt_succ (Aa.o.1 d hd)) i) (by rw [hdb]; exact getD_le (fun d hd => Nat.le_of_lt_succ (Aa.o.2 d hd)) k)
       have hb1 : i + k < 4611686018427387904 := by have := HN.o; omega
       have hb2 : da * db < 4611686018427387904 := by rw [← hm]; omega
       have hb3 : o + m < 4611686018427387904 := by omega
       have hb4 : k < 4611686018427387904 := by have := HN.o; omega
       rw [← hda] at hcA
       rw [← hdb] at hcB
       have Al := Hh hst
       have hkw : Kept (· = g) wr ((wr.setCell ⟨g, p, none⟩ (.int .i64 (q : Int))).drew) := ((Kept.refl (· = g) wr).set (p := ⟨g, p, none⟩) (.inl rfl) _).drew
       have hhw : Has ((wr.setCell ⟨g, p, none⟩ (.int .i64 (q : Int))).drew) g 3 (icells (ou.set p q)).toArray := has_set HH.o p q
       have hbw : Below w.heap.size w ((wr.setCell ⟨g, p, none⟩ (.int .i64 (q : Int))).drew) := HB.o.trans (hkw.below HB.o.size (fun j e => by have e' : j = g := e; have := EG.o; omega))
       have hgA : bA ≠ g := fun e => by
        obtain ⟨b', o', e1, h1, _⟩ := HD.o.at_ (by omega)
        injection e1 with e1
        injection e1 with e1 e2
        have := EG.o; omega
       have hgB : bB ≠ g := fun e => by
        obtain ⟨b', o', e1, h1, _⟩ := Ai.o.at_ (by omega)
        injection e1 with e1
        injection e1 with e1 e2
        have := EG.o; omega
       have hS0 : wr.cell? ⟨bA, oA + i, none⟩ = some (.int .i64 (da : Int)) ∧ wr.cell? ⟨bB, oB + k, none⟩ = some (.int .i64 (db : Int)) := ⟨hcA, hcB⟩
       have hS2 : ((wr.setCell ⟨g, p, none⟩ (.int .i64 (q : Int))).drew).cell? ⟨bA, oA + i, none⟩ = some (.int .i64 (da : Int)) ∧ ((wr.setCell ⟨g, p, none⟩ (.int .i64 (q : Int))).drew).cell? ⟨bB, oB + k, none⟩ = some (.int .i64 (db : Int)) := ⟨cell_held hkw hcA hgA, cell_held hkw hcB hgB⟩
       have Ad := Hh hhw
       have Ac := Hh hbw
       have Ab := Hh (And.intro hlk (show n2 - (k + 1) < n2 - k from Nat.sub_lt_sub_left hlk (Nat.lt_succ_self k)))
       have hw1 := wrap64_add i k hb1
       have hw2 := wrap64_mul da db hb2
       have hw3 := wrap64_add o m hb3
       have hw4 := wrap64_succ k hb4
       have hv1 := i64_add i k hb1
       have hv2 := i64_mul da db hb2
       have hv3 := i64_add o m hb3
       rw [← hp] at hw1 hv1
       rw [← hm] at hw2 hv2
       rw [← hq] at hw3 hv3
       have Af := Hh hw4
       clear hclA hclB hp ho hda hdb hm hq hst hob hmb hb1 hb2 hb3 hb4 hkw hhw hbw hgA hgB hcA hcB hol hpN
       go_upto_region 8 with (fail)
       refine wp_region_noPanic ?_
       refine wp_region_held_drew (S := (fun v => v.cell? ⟨bA, oA + i, none⟩ = some (.int .i64 (da : Int)) ∧ v.cell? ⟨bB, oB + k, none⟩ = some (.int .i64 (db : Int)))) (by kernel_rfl) hS0 (fun hH0 => ?_)
       refine tl 0 (v := ((.slice (some ⟨g, 0, none⟩) N N))) rfl (by intro w' hS; obtain ⟨e0, e1⟩ := hS; go_simp) hH0 ?_
       simp only [qc]
       refine tl 1 (v := (.int .i64 (i : Int))) rfl (by intro w' hS; obtain ⟨e0, e1⟩ := hS; go_simp) hH0 ?_
       simp only [qc]
       refine tl 2 (v := (.int .i64 (k : Int))) rfl (by intro w' hS; obtain ⟨e0, e1⟩ := hS; go_simp) hH0 ?_
       simp only [qc]
       refine tl 3 (v := (.int .i64 (p : Int))) rfl (by intro w' hS; obtain ⟨e0, e1⟩ := hS; go_simp) hH0 ?_
       simp only [qc]
       refine tl 4 (v := ((.pointer (some ⟨g, p, none⟩)))) rfl (by intro w' hS; obtain ⟨e0, e1⟩ := hS; go_simp) hH0 ?_
       simp only [qc]
       refine tl 6 (v := ((.slice (some ⟨bA, oA, none⟩) n c))) rfl (by intro w' hS; obtain ⟨e0, e1⟩ := hS; go_simp) hH0 ?_
       simp only [qc]
       refine tl 7 (v := (.int .i64 (i : Int))) rfl (by intro w' hS; obtain ⟨e0, e1⟩ := hS; go_simp) hH0 ?_
       simp only [qc]
       refine tl 8 (v := ((.pointer (some ⟨bA, oA + i, none⟩)))) rfl (by intro w' hS; obtain ⟨e0, e1⟩ := hS; go_simp) hH0 ?_
       simp only [qc]
       refine tl 9 (v := (.int .i64 (da : Int))) rfl (by intro w' hS; obtain ⟨e0, e1⟩ := hS; go_simp) hH0 ?_
       simp only [qc]
       refine tl 10 (v := ((.slice (some ⟨bB, oB, none⟩) n2 c2))) rfl (by intro w' hS; obtain ⟨e0, e1⟩ := hS; go_simp) hH0 ?_
       simp only [qc]
       refine tl 11 (v := (.int .i64 (k : Int))) rfl (by intro w' hS; obtain ⟨e0, e1⟩ := hS; go_simp) hH0 ?_
       simp only [qc]
       refine tl 12 (v := ((.pointer (some ⟨bB, oB + k, none⟩)))) rfl (by intro w' hS; obtain ⟨e0, e1⟩ := hS; go_simp) hH0 ?_
       simp only [qc]
       refine tl 13 (v := (.int .i64 (db : Int))) rfl (by intro w' hS; obtain ⟨e0, e1⟩ := hS; go_simp) hH0 ?_
       simp only [qc]
       refine tl 14 (v := (.int .i64 (m : Int))) rfl (by intro w' hS; obtain ⟨e0, e1⟩ := hS; go_simp) hH0 ?_
       simp only [qc]
       refine rdy [5] (ar1 rfl fun K hK => ?_)
       go_simp
       refine hK _ _ hH0 fun hH1 => ?_
       clear hK K
       try simp only [qc]
       refine tl 15 (v := (.int .i64 (q : Int))) rfl (by intro w' hS; obtain ⟨e0, e1⟩ := hS; go_simp) hH1 ?_
       simp only [qc]
       refine tl 16 (v := ((.pointer (some ⟨g, p, none⟩)))) rfl (by intro w' hS; obtain ⟨e0, e1⟩ := hS; go_simp) hH1 ?_
       simp only [qc]
       refine rdy [17] (ar1 rfl fun K hK => ?_)
       go_simp
       refine hK _ _ hS2 fun hH2 => ?_
       clear hK K
       try simp only [qc]
       refine wpAnyH_done (by kernel_rfl) ?_ _
       refine NoPanic.normal ?_
       have hhw := Ad.o
       have hbw := Ac.o
       clear Ad Ac hH0 hH1 hH2 hS0 hS2 hcO hfO HH HM HB hatA hatB hatO
       generalize (wr.setCell ⟨g, p, none⟩ (.int .i64 (q : Int))).drew = WB at hhw hbw ⊢
       have Ad := Hh hhw
       have Ac := Hh hbw
       clear hhw hbw
       go_wp2
       go_roundw
       case rel => exact ⟨k + 1, ou.set p q, by first | rfl | exact congrArg (Value.int .i64) Af.o, Ab.o.1, Al.o, Ad.o, Ac.o⟩
       case measure =>
        first | exact Ab.o.2 | (show n2 - (intOf (Value.int .i64 (wrap64 ((k : Int) + 1)))).toNat < _; rw [Af.o]; exact Ab.o.2)
     · have HR := Hh (show MulAt A B ou (i + 1) 0 from by
        have h := HM.o
        have e : k = B.length := by rw [LA.o.2]; omega
        rw [e] at h
        exact h.row)
       have hk' : ¬ (k : Int) < (n2 : Int) := by omega
       have hb4 : i < 4611686018427387904 := by have := HN.o; omega
       have hw4 := wrap64_succ i hb4
       have Af := Hh hw4
       have Ab := Hh (And.intro hlt (show n - (i + 1) < n - i from Nat.sub_lt_sub_left hlt (Nat.lt_succ_self i)))
       clear hb4 hlk
       go_wp2
       go_roundw
       case rel => exact ⟨i + 1, ou, by first | rfl | exact congrArg (Value.int .i64) Af.o, Ab.o.1, HR.o, HH.o, HB.o⟩
       case measure =>
        first | exact Ab.o.2 | (show n - (intOf (Value.int .i64 (wrap64 ((i : Int) + 1)))).toNat < _; rw [Af.o]; exact Ab.o.2)
  · have hc0 : CarryAt (x * y) 100000000000 out 0 0 := by
     have h := HM.o
     have e : i = A.length := by rw [LA.o.1]; omega
     rw [e] at h
     have hv := h.val
     rw [List.take_length, HV.o.1, HV.o.2] at hv
     refine ⟨by rw [hv]; simp [valD], fun j d hj => absurd hj (by omega), fun d hd => Nat.le_trans (h.low d hd) ?_, by omega, by omega⟩
     rw [LA.o.1, LA.o.2]
     have h1 : n * n2 ≤ 1000 * 1000 := Nat.mul_le_mul HN.o.1 HN.o.2
     omega
    have hol : out.length = N := by rw [HM.o.len, LA.o.1, LA.o.2, EN.o]
    have Aj := Hh (And.intro hol hc0)
    clear hc0 hol HM
    go_wp2_with fail
    go_loopw [8, 48] (fun cv v wy => ∃ (i cc : Nat) (out : List Nat), cv = .int .i64 (cc : Int) ∧ v = .int .i64 (i : Int) ∧ i ≤ N ∧ (out.length = N ∧ CarryAt (x * y) 100000000000 out i cc) ∧ Has wy g 3 (icells out).toArray ∧ Below w.heap.size w wy) (fun _ v _ => N - (intOf v).toNat)
    case atStart => exact ⟨0, 0, out, rfl, rfl, Nat.zero_le _, Aj.o, HH.o, HB.o⟩
    case round =>
     clear Aj HH HB
     obtain ⟨j, cc, ou, rfl, rfl, hj, ⟨hol, hca⟩, hh, hb⟩ := hrel
     have Ag := Hh hca
     have Ae := Hh hol
     have HH := Hh hh
     have HB := Hh hb
     clear hol hca hh hb
     by_cases hjl : j < N
     · have hatO := at_out g N j hjl
       obtain ⟨o, ho⟩ : ∃ o, o = ou.getD j 0 := ⟨_, rfl⟩
       have hcO : wr.cell? ⟨g, j, none⟩ = some (.int .i64 (o : Int)) := by
        refine HH.o.cell_is ?_
        rw [List.getElem?_toArray, icells_get ou j (by rw [Ae.o]; exact hjl), ← ho]
       have hfO : wr.frozen? ⟨g, j, none⟩ = false := HH.o.free _
       obtain ⟨t, ht⟩ : ∃ t, t = cc + o := ⟨_, rfl⟩
       obtain ⟨d, hd⟩ : ∃ d, d = t % 256 := ⟨_, rfl⟩
       obtain ⟨q, hq⟩ : ∃ q, q = t / 256 := ⟨_, rfl⟩
       have hst := Ag.o.step (by rw [Ae.o]; exact hjl)
       rw [← ho, ← ht, ← hd, ← hq] at hst
       have hob : o ≤ 100000000000 := by rw [ho]; exact getD_le Ag.o.top j
       have hcb := Ag.o.car
       have hb1 : cc + o < 4611686018427387904 := by omega
       have hb2 : d < 4611686018427387904 := by omega
       have hb3 : q < 4611686018427387904 := by omega
       have hb4 : j < 4611686018427387904 := by have := HN.o; have := EN.o; omega
       have hm1 : (t : Int) % 256 = (d : Int) := by omega
       have hm2 : (t : Int) / 256 = (q : Int) := by omega
       have hkw : Kept (· = g) wr (wr.setCell ⟨g, j, none⟩ (.int .i64 (d : Int))) := (Kept.refl (· = g) wr).set (p := ⟨g, j, none⟩) (.inl rfl) _
       have hhw : Has (wr.setCell ⟨g, j, none⟩ (.int .i64 (d : Int))) g 3 (icells (ou.set j d)).toArray := has_set HH.o j d
       have hbw : Below w.heap.size w (wr.setCell ⟨g, j, none⟩ (.int .i64 (d : Int))) := HB.o.trans (hkw.below HB.o.size (fun j e => by have e' : j = g := e; have := EG.o; omega))
       have Ad := Hh hhw
       have Ac := Hh hbw
       have Am := Hh (And.intro (show (ou.set j d).length = N by rw [List.length_set]; exact Ae.o) hst)
       have Ab := Hh (And.intro hjl (show N - (j + 1) < N - j from Nat.sub_lt_sub_left hjl (Nat.lt_succ_self j)))
       have hm3 : Int.tmod (t : Int) 256 = (d : Int) := by rw [Int.tmod_eq_emod_of_nonneg (Int.natCast_nonneg _)]; exact hm1
       have hm4 : Int.tdiv (t : Int) 256 = (q : Int) := by rw [Int.tdiv_eq_ediv_of_nonneg (Int.natCast_nonneg _)]; exact hm2
       have hw1 := wrap64_add cc o hb1
       rw [← ht] at hw1
       have hw2 := wrap64_nat d hb2
       have hw3 := wrap64_nat q hb3
       have hw4 := wrap64_succ j hb4
       have HQ := Hh (And.intro hw3 hw4)
       clear ho ht hd hq hst hob hcb hb1 hb2 hb3 hb4 hkw hhw hbw
       go_wp2
       go_roundw
       case rel => exact ⟨j + 1, q, ou.set j d, by first | rfl | exact congrArg (Value.int .i64) HQ.o.1, by first | rfl | exact congrArg (Value.int .i64) HQ.o.2, Ab.o.1, Am.o, Ad.o, Ac.o⟩
       case measure =>
        first | exact Ab.o.2 | (show N - (intOf (Value.int .i64 (wrap64 ((j : Int) + 1)))).toNat < _; rw [HQ.o.2]; exact Ab.o.2)
     · have hjn : ¬ (j : Int) < (N : Int) := by omega
       have hP : x * y < 256 ^ N := by
        have := prod_lt A B Aa.o.1 Aa.o.2
        rw [HV.o.1, HV.o.2, LA.o.1, LA.o.2, ← EN.o] at this
        exact this
       have hca := Ag.o
       have e : j = ou.length := by rw [Ae.o]; omega
       rw [e] at hca
       obtain ⟨v1, v2⟩ := hca.done (by rw [Ae.o]; exact hP)
       have hdg := has_dig HH.o
       rw [Ae.o] at hdg
       have htr := trim_is wr (some ⟨g, 0, none⟩) N N ou hdg (by have := HN.o; have := EN.o; omega) v2
       rw [v1] at htr
       have An := Hh htr
       clear hP hca e v1 v2 hdg htr
       go_wp2_with fail
       refine An.o.mono ?_
       rintro _ w2 ⟨⟨v', rfl, hv'⟩, rfl⟩
       have Ao := Hh hv'
       clear hv'
       go_wp2
       go_ret
       exact ⟨⟨_, rfl, Ao.o⟩, HB.o⟩
end Go.Proofs.YtknfbccbdiidjaaGreatDoor
