/- How slices of structs among the arguments are read. -/
import Derived.Test.YtknfbccbdiidjaaGreatDoorWs
import Derived.Test.YtknfbccbdiidjaaGreatDoorUMem
import Derived.Test.YtknfbccbdiidjaaGreatDoorUMsum3
import Derived.Test.YtknfbccbdiidjaaGreatDoorUPf2
import Derived.Deep.Slices
import Derived.Test.YtknfbccbdiidjaaGreatDoorULf4
import Derived.Test.YtknfbccbdiidjaaGreatDoorULh
import Derived.Test.YtknfbccbdiidjaaGreatDoorUCo11
namespace Go.Proofs.YtknfbccbdiidjaaGreatDoor
set_option linter.unusedVariables false
set_option linter.unusedSimpArgs false
open Go.ChangeShapes Go.WideShapes Go.ChangeAt Go.RowKit

theorem mapM_cells {w : World} {a : Addr} {k : Nat} {cs : List Value} (h : (List.range k).mapM (fun i => w.cell? (a.add i)) = some cs) : cs.length = k ∧ ∀ j, j < k → w.cell? (a.add j) = cs[j]? := by
 refine ⟨by simpa using mapM_some_length h, fun j hj => ?_⟩
 have := mapM_some_get h j j (by simp [hj])
 exact this

theorem open_rows {H : Type} {enc : TypeId × Value → H} {P : Program} {w : World} {base : Nat} {spare : Nat → Bool} {held : Bool} {t e k : Nat} {A : Option Addr} {n c : Nat} {d : DataW H} {p : List MemPlace}
   (ht : P.underlying t = some (.slice e)) (hk : P.cellsOf e = k) (hk0 : 0 < k) (h : DataW.Trod enc P w base spare held t (.slice A n c) d p) :
   n ≤ maxLen ∧ ∃ b off, (0 < n → A = some ⟨b, off, none⟩) ∧ ∀ i, i < n → ∃ cs m x, cs.length = k ∧ (∀ j, j < k → w.cell? ⟨b, off + i * k + j, none⟩ = cs[j]?) ∧ DataW.trod enc P w base spare held m e cs = some x := by
 obtain ⟨fuel, hf⟩ := h
 have hf' : DataW.trod enc P w base spare held fuel t [.slice A n c] = some (d, p) := by simpa [Value.cells] using hf
 rcases Deep.open_slice ht hf' with ⟨h1, _⟩ | ⟨a, len, cap, m, fu, D, Pl, h1, hb, hl, hm, hmm, _, hall⟩
 · simp at h1
   obtain ⟨rfl, rfl, rfl⟩ := h1
   exact ⟨by simp [maxLen], 0, 0, fun h => absurd h (by omega), fun i hi => absurd hi (by omega)⟩
 · simp at h1
   obtain ⟨rfl, rfl, rfl⟩ := h1
   rw [hk] at hall
   have hnm : n ≤ m := by rw [hmm]; split <;> omega
   have key : ∀ i, i < n → ∃ cs, cs.length = k ∧ (∀ j, j < k → w.cell? ((a.add (i * k)).add j) = cs[j]?) ∧ DataW.trod enc P w base spare held fu e cs = some (D i, Pl i) := by
     intro i hi
     obtain ⟨cs, hc, htr⟩ := hall i (by omega)
     unfold World.cells? at hc
     split at hc
     · obtain ⟨x, y⟩ := mapM_cells hc
       exact ⟨cs, x, y, htr⟩
     · cases hc
   refine ⟨by omega, a.block, a.off, fun hn => ?_, fun i hi => ?_⟩
   · obtain ⟨cs, hl1, hc1, _⟩ := key 0 hn
     have h0 := hc1 0 hk0
     have e0 : (a.add (0 * k)).add 0 = a := by simp [Addr.add]
     rw [e0, List.getElem?_eq_getElem (by omega)] at h0
     have : a.spot = none := by
       unfold World.cell? at h0
       split at h0
       · split at h0
         · cases h0
         · rename_i hs
           cases hsp : a.spot
           · rfl
           · rw [hsp] at hs; simp at hs
       · cases h0
     cases a
     simp at this
     simp [this]
   · obtain ⟨cs, hl1, hc1, htr⟩ := key i hi
     refine ⟨cs, fu, _, hl1, fun j hj => ?_, htr⟩
     rw [← hc1 j hj]
     obtain ⟨cs0, hl0, hc0, _⟩ := key 0 (by omega)
     have h0 := hc0 0 hk0
     have e0 : (a.add (0 * k)).add 0 = a := by simp [Addr.add]
     rw [e0, List.getElem?_eq_getElem (by omega)] at h0
     have : a.spot = none := by
       unfold World.cell? at h0
       split at h0
       · split at h0
         · cases h0
         · rename_i hs
           cases hsp : a.spot
           · rfl
           · rw [hsp] at hs; simp at hs
       · cases h0
     congr 1
     cases a
     simp at this
     subst this
     unfold Addr.add
     by_cases h1 : i * k = 0 <;> by_cases h2 : j = 0 <;> simp [h1, h2, Nat.add_assoc]

section
variable {H : Type} {enc : TypeId × Value → H} {P : Program} {w : World} {base : Nat} {spare : Nat → Bool} {held : Bool} {t e m : Nat} {cs : List Value} {y : Option (DataW H × List MemPlace)}

theorem take_one (cs : List Value) (i : Nat) (h : i < cs.length) : (cs.drop i).take 1 = [cs[i]] := by
 rw [List.drop_eq_getElem_cons h, List.take_succ_cons, List.take_zero]

end
end Go.Proofs.YtknfbccbdiidjaaGreatDoor

/- How bytes, digests, a leaf and a node are read off the arguments. -/
namespace Go.Proofs.YtknfbccbdiidjaaGreatDoor
set_option linter.unusedVariables false
set_option linter.unusedSimpArgs false
open Go.ChangeShapes Go.WideShapes Go.ChangeAt Go.RowKit Go.Maps

section
variable {H : Type} {enc : TypeId × Value → H} {P : Program} {w : World} {base : Nat} {spare : Nat → Bool} {held : Bool}
theorem hash_cells {t e m : Nat} {cs : List Value} {y : Option (DataW H × List MemPlace)} (ht : P.underlying t = some (.array 32 e)) (he : P.underlying e = some (.int .u8)) (h1 : P.cellsOf e = 1) (h32 : P.cellsOf t = 32)
  (h : DataW.trod enc P w base spare held m t cs = y) (hy : y.isSome = true) : ∃ ks, cs = bcells ks ∧ IsHash ks := by
 obtain ⟨z, rfl⟩ := Option.isSome_iff_exists.1 hy
 obtain ⟨xs, m, _, hx, hlen, hn, hall⟩ := DataW.trod_array ht h
 rw [h32] at hlen
 obtain ⟨e1, e2⟩ := bytes_of_cells cs hlen (by
  intro i hi
  have := hall i hi
  rw [h1, Nat.mul_one, List.getElem?_eq_getElem (by omega)] at this
  obtain ⟨n, hn1, _, hw⟩ := DataW.trod_int he this
  rw [List.drop_eq_getElem_cons (by omega)] at hn1
  simp only [List.take_succ_cons, List.take_zero, List.cons.injEq, and_true] at hn1
  have hb := bounds_u8 hw
  refine ⟨n.toNat, ?_, by omega⟩
  rw [List.getElem?_eq_getElem (by omega), hn1, Int.toNat_of_nonneg hb.1])
 exact ⟨cs.map u8Of, e1, e2⟩
theorem hash_cut {t e m i : Nat} {cs : List Value} {y : Option (DataW H × List MemPlace)} (ht : P.underlying t = some (.array 32 e)) (he : P.underlying e = some (.int .u8)) (h1 : P.cellsOf e = 1) (h32 : P.cellsOf t = 32)
  (h : DataW.trod enc P w base spare held m t ((cs.drop i).take (P.cellsOf t)) = y) (hy : y.isSome = true) : ∃ ks, (cs.drop i).take 32 = bcells ks ∧ IsHash ks := by
 have := hash_cells ht he h1 h32 h hy
 rwa [h32] at this
theorem int_cut {k : IntKind} {t m i : Nat} {cs : List Value} {y : Option (DataW H × List MemPlace)} (ht : P.underlying t = some (.int k)) (h1 : P.cellsOf t = 1) (h : DataW.trod enc P w base spare held m t ((cs.drop i).take (P.cellsOf t)) = y) (hy : y.isSome = true) :
  ∃ n, (cs.drop i).take 1 = [.int k n] ∧ (Lit.int k n).wf = true := by
 obtain ⟨z, rfl⟩ := Option.isSome_iff_exists.1 hy
 obtain ⟨n, hn, _, hw⟩ := DataW.trod_int ht h
 rw [h1] at hn
 exact ⟨n, hn, hw⟩
end
theorem cut_list (l : List Value) (i n : Nat) : l.drop i = (l.drop i).take n ++ l.drop (i + n) := by
 rw [← List.drop_drop]; exact (List.take_append_drop n (l.drop i)).symm

section
variable {H : Type} {enc : TypeId × Value → H} {w : World} {base : Nat} {spare : Nat → Bool} {held : Bool}
theorem open_node {m : Nat} {cs : List Value} {y : Option (DataW H × List MemPlace)} (h : DataW.trod enc Tryz.prog w base spare held m 30 cs = y) (hy : y.isSome = true) (hl : cs.length = 33) :
  ∃ (k : List Nat) (s : Nat), cs = ncells k s ∧ IsHash k ∧ s < 18446744073709551616 := by
 obtain ⟨z, rfl⟩ := Option.isSome_iff_exists.1 hy
 obtain ⟨xs, m2, _, _, _, hn, hf⟩ := DataW.trod_struct Tryz.underlying30 h
 have hn2 : xs.length = 2 := hn
 have hsome : ∀ j, j < 2 → (xs[j]?).isSome = true := fun j hj => by rw [List.getElem?_eq_getElem (by omega)]; rfl
 obtain ⟨k, e0, w0⟩ := hash_cut (i := 0) Tryz.underlying27 Tryz.underlying5 (by kernel_rfl) (by kernel_rfl) (hf 0 _ rfl) (hsome 0 (by decide))
 obtain ⟨a1, e1, w1⟩ := int_cut (i := 32) Tryz.underlying28 (by kernel_rfl) (hf 1 _ rfl) (hsome 1 (by decide))
 have hb := bounds_u64 w1
 obtain ⟨n1, rfl⟩ : ∃ n : Nat, a1 = n := ⟨a1.toNat, by omega⟩
 refine ⟨k, n1, ?_, w0, by omega⟩
 have f0 := cut_list cs 0 32
 have f1 := cut_list cs 32 1
 have f2 : cs.drop 33 = [] := List.drop_eq_nil_of_le (by omega)
 simp only [Nat.reduceAdd] at f0 f1
 rw [e0] at f0
 rw [e1, f2] at f1
 rw [f1] at f0
 rw [List.drop_zero] at f0
 rw [f0]; rfl
end
end Go.Proofs.YtknfbccbdiidjaaGreatDoor

/- How slices of structs are read off the arguments; nodes, a proof. -/
namespace Go.Proofs.YtknfbccbdiidjaaGreatDoor
set_option linter.unusedVariables false
set_option linter.unusedSimpArgs false
open Go.ChangeShapes Go.WideShapes Go.ChangeAt Go.RowKit Go.Maps

theorem open_list {H : Type} {enc : TypeId × Value → H} {P : Program} {w : World} {base : Nat} {spare : Nat → Bool} {held : Bool} {α : Type} (cl : α → List Value) (ok : α → Prop) (k : Nat) {t e : TypeId} (ht : P.underlying t = some (.slice e)) (hk : P.cellsOf e = k) (hk0 : 0 < k)
  (hE : ∀ (m : Nat) cs x, DataW.trod enc P w base spare held m e cs = some x → cs.length = k → ∃ s, cs = cl s ∧ ok s) (hl : ∀ s, ok s → (cl s).length = k)
  {A : Option Addr} {n c : Nat} {d : DataW H} {p : List MemPlace} (h : DataW.Trod enc P w base spare held t (.slice A n c) d p) :
  ∃ xs : List α, xs.length = n ∧ n ≤ 9223372036854775807 ∧ (∀ x ∈ xs, ok x) ∧ (0 < n → ∃ b o, A = some ⟨b, o, none⟩ ∧ b < w.heap.size ∧ ∀ (i : Nat) x, xs[i]? = some x → w.rangeAt b (o + i * k) (cl x)) := by
 obtain ⟨hm, b, off, hA, hall⟩ := open_rows ht hk hk0 h
 have ho : ∀ i, i < n → ∃ s : α, ok s ∧ w.rangeAt b (off + i * k) (cl s) := fun i hi => by
  obtain ⟨cs, m, x, hlc, hc, htr⟩ := hall i hi
  obtain ⟨s, hs, hok⟩ := hE m cs x htr hlc
  refine ⟨s, hok, fun j v hv => ?_⟩
  have hj := (List.getElem?_eq_some_iff.1 hv).1
  rw [hl s hok] at hj
  rw [hc j hj, hs]; exact hv
 have mk : ∀ m, m ≤ n → ∃ ss : List α, ss.length = m ∧ (∀ s ∈ ss, ok s) ∧ ∀ (i : Nat) s, ss[i]? = some s → w.rangeAt b (off + i * k) (cl s) := fun m => by
  induction m with
  | zero => exact fun _ => ⟨[], rfl, fun s hs => (by cases hs), fun i s hi => (by simp at hi)⟩
  | succ m ih =>
   intro hm
   obtain ⟨ss, h1, h2, h3⟩ := ih (by omega)
   obtain ⟨s, hs, hr⟩ := ho m (by omega)
   refine ⟨ss ++ [s], by simp [h1], fun t ht => ?_, fun i t hi => ?_⟩
   · rcases List.mem_append.1 ht with ht | ht
     · exact h2 t ht
     · rw [List.mem_singleton.1 ht]; exact hs
   · rcases Nat.lt_or_ge i m with hlt | hge
     · rw [List.getElem?_append_left (by omega)] at hi
       exact h3 i t hi
     · have hil := (List.getElem?_eq_some_iff.1 hi).1
       rw [List.length_append, h1] at hil
       have : i = m := by simp at hil; omega
       subst this
       rw [List.getElem?_append_right (by omega), h1, Nat.sub_self] at hi
       obtain rfl : s = t := by simpa using hi
       exact hr
 obtain ⟨ss, h1, h2, h3⟩ := mk n (Nat.le_refl _)
 refine ⟨ss, h1, by unfold maxLen at hm; omega, h2, fun hn => ⟨b, off, hA hn, ?_, h3⟩⟩
 obtain ⟨s, hs, hr⟩ := ho 0 hn
 have h0 : 0 < (cl s).length := by rw [hl s hs]; exact hk0
 exact World.block_lt_of_cell? w _ (hr 0 _ (List.getElem?_eq_getElem h0))
section
variable {H : Type} {enc : TypeId × Value → H} {w : World} {base : Nat} {spare : Nat → Bool} {held : Bool}
end
end Go.Proofs.YtknfbccbdiidjaaGreatDoor
/- Leaves of layer 7, as they come in: by value, and in a row. -/
namespace Go.Proofs.YtknfbccbdiidjaaGreatDoor
set_option linter.unusedVariables false
set_option linter.unusedSimpArgs false
open Go.ChangeShapes Go.WideShapes Go.ChangeAt Go.RowKit Go.Maps

section
variable {H : Type} {enc : TypeId × Value → H} {w : World} {base : Nat} {spare : Nat → Bool} {held : Bool}
set_option maxRecDepth 100000 in
theorem open_lf {m : Nat} {cs : List Value} {y : Option (DataW H × List MemPlace)} (h : DataW.trod enc Tryz.prog w base spare held m 32 cs = y) (hy : y.isSome = true) (hl : cs.length = 99) : ∃ l : LeafT, cs = l.cells ∧ l.ok := by
 obtain ⟨z, rfl⟩ := Option.isSome_iff_exists.1 hy
 obtain ⟨xs, m2, _, _, _, hn, hf⟩ := DataW.trod_struct Tryz.underlying32 h
 have hn2 : xs.length = 5 := hn
 have hsome : ∀ j, j < 5 → (xs[j]?).isSome = true := fun j hj => by rw [List.getElem?_eq_getElem (by omega)]; rfl
 obtain ⟨k0, e0, w0⟩ := hash_cut (i := 0) Tryz.underlying27 Tryz.underlying5 (by kernel_rfl) (by kernel_rfl) (hf 0 _ rfl) (hsome 0 (by decide))
 obtain ⟨a1, e1, w1⟩ := int_cut (i := 32) Tryz.underlying28 (by kernel_rfl) (hf 1 _ rfl) (hsome 1 (by decide))
 obtain ⟨k2, e2, w2⟩ := hash_cut (i := 33) Tryz.underlying27 Tryz.underlying5 (by kernel_rfl) (by kernel_rfl) (hf 2 _ rfl) (hsome 2 (by decide))
 obtain ⟨a3, e3, w3⟩ := int_cut (i := 65) Tryz.underlying3 (by kernel_rfl) (hf 3 _ rfl) (hsome 3 (by decide))
 have h4 := hf 4 _ rfl
 have hc4 : Tryz.prog.cellsOf 30 = 33 := by kernel_rfl
 obtain ⟨k4, s4, e4, w4, v4⟩ := open_node (cs := (cs.drop 66).take 33) (by rw [← hc4]; exact h4) (hsome 4 (by decide)) (by rw [List.length_take, List.length_drop]; omega)
 have q1 := bounds_u64 w1
 have q3 := bounds_i64 w3
 refine ⟨⟨k0, a1.toNat, k2, a3, ⟨k4, s4⟩⟩, ?_, ⟨w0, by show a1.toNat < _; omega, w2, by show _ ≤ a3; omega, by show a3 ≤ _; omega, w4, v4⟩⟩
 have f0 := cut_list cs 0 32
 have f1 := cut_list cs 32 1
 have f2 := cut_list cs 33 32
 have f3 := cut_list cs 65 1
 have f4 := cut_list cs 66 33
 have f5 : cs.drop 99 = [] := List.drop_eq_nil_of_le (by omega)
 simp only [Nat.reduceAdd] at f0 f1 f2 f3 f4
 rw [e4, f5, List.append_nil] at f4
 rw [e3, f4] at f3
 rw [e2, f3] at f2
 rw [e1, f2] at f1
 rw [e0, f1, List.drop_zero] at f0
 rw [f0]
 unfold LeafT.cells ndV
 rw [show ((a1.toNat : Nat) : Int) = a1 from Int.toNat_of_nonneg (by omega)]
 rfl
set_option maxRecDepth 100000 in
/-- a leaf by value. -/
theorem open_lfV {base' : Nat} {r : Reach} {v : Value} {d : DataW H} {p : List MemPlace} (hv : Value.okWide Tryz.prog w r base' 32 v) (h : DataW.Trod enc Tryz.prog w base spare held 32 v d p) : ∃ l : LeafT, v = .agg l.cells.toArray ∧ l.ok := by
 obtain ⟨cs, rfl, hs⟩ := okWide_struct Tryz.underlying32 hv
 obtain ⟨fuel, hf⟩ := h
 have hf' : DataW.trod enc Tryz.prog w base spare held fuel 32 cs.toList = some (d, p) := by simpa [Value.cells] using hf
 have hc : Tryz.prog.cellsOf 32 = 99 := by kernel_rfl
 have hl : cs.toList.length = 99 := by rw [Array.length_toList, hs, hc]
 obtain ⟨o, ho, hok⟩ := open_lf hf' rfl hl
 exact ⟨o, by rw [← ho], hok⟩
set_option maxRecDepth 100000 in
/-- leaves in a row. -/
theorem open_lfs {A : Option Addr} {n c : Nat} {d : DataW H} {p : List MemPlace} (h : DataW.Trod enc Tryz.prog w base spare held 22 (.slice A n c) d p) : ∃ ls : List LeafT, RowsAt LeafT.cells 99 w A n ls ∧ (∀ l ∈ ls, l.ok) ∧ n ≤ 9223372036854775807 := by
 obtain ⟨xs, h1, h2, h3, h4⟩ := open_list LeafT.cells LeafT.ok 99 Tryz.underlying22 (by kernel_rfl) (by decide) (fun m cs x hx hl => open_lf hx rfl hl) (fun s hs => LeafT.len hs) h
 exact ⟨xs, ⟨h1, fun x hx => LeafT.len (h3 x hx), h4⟩, h3, h2⟩
end
end Go.Proofs.YtknfbccbdiidjaaGreatDoor
/- The walk of CommitOrders. -/
namespace Go.Proofs.YtknfbccbdiidjaaGreatDoor
set_option linter.unusedVariables false
set_option linter.unusedSimpArgs false
open Go.ChangeShapes Go.WideShapes Go.ChangeAt Go.RowKit Go.Maps

theorem coAdd_tight {K s0 : List Wd} {S : Nat → Prop} {w : World} {g : Nat} {ls : List LeafT} (h : Cm K s0 S w g ls) (hT : Tabs K s0 w) (l : LeafT) (hl : l.ok) :
   Calls Tryz.prog 11 #[.pointer (some ⟨g, 0, none⟩), .agg l.cells.toArray] w fun e w' => e = .returned (.int .i64 (addE K s0 ls l)) ∧ Cm K s0 (fun k => (S k ∨ w.heap.size ≤ k) ∧ k < w'.heap.size) w' g (addC K s0 ls l) ∧ Kept S w w' := by
 have h' : Cm K s0 (fun k => S k ∨ w.heap.size ≤ k) w g ls := h.zoneS (fun k _ e => .inl e)
 refine (coAdd_is h' (fun k e => .inr e) hT l hl).mono fun e w' ⟨h1, h2, h3⟩ => ⟨h1, h2.zoneS (fun k hk e => ⟨e, hk⟩), h3.mono (fun k hk e => ?_)⟩
 rcases e with e | e
 · exact e
 · omega
def Cz (N : Nat) (w : World) (g : Nat) (ls : List LeafT) (S : Nat → Prop) : Prop := Cm KS SS S w g ls ∧ ∀ k, S k → N ≤ k ∧ k < w.heap.size
theorem Cz.kept {N : Nat} {w w' : World} {g : Nat} {ls : List LeafT} {S T : Nat → Prop} (h : Cz N w g ls S) (hk : Kept T w w') (hs : ∀ k, S k → ¬ T k) : Cz N w' g ls S :=
 ⟨h.1.kept hk (fun k _ e => hs k e), fun k e => ⟨(h.2 k e).1, Nat.lt_of_lt_of_le (h.2 k e).2 hk.size⟩⟩
theorem Cz.below {N : Nat} {w w' : World} {g : Nat} {ls : List LeafT} {S : Nat → Prop} (h : Cz N w g ls S) (hb : Below w.heap.size w w') : Cz N w' g ls S := h.kept (Kept.of_below (S := fun _ => False) hb) (fun _ _ e => e)
end Go.Proofs.YtknfbccbdiidjaaGreatDoor
