/- How slices of structs among the arguments are read. -/
import Derived.Test.YtknfbccbdiidjaaGreatDoorWu
import Derived.Test.YtknfbccbdiidjaaGreatDoorPMem
import Derived.Test.YtknfbccbdiidjaaGreatDoorPBits
import Derived.Test.YtknfbccbdiidjaaGreatDoorPPf3
import Derived.Deep.Slices
import Derived.Test.YtknfbccbdiidjaaGreatDoorPCo2
import Derived.Test.YtknfbccbdiidjaaGreatDoorPCp1
import Derived.Test.YtknfbccbdiidjaaGreatDoorPCo7
import Derived.Test.YtknfbccbdiidjaaGreatDoorPLb2
namespace Go.Proofs.YtknfbccbdiidjaaGreatDoor
set_option linter.unusedVariables false
set_option linter.unusedSimpArgs false
open Go.ChangeShapes Go.WideShapes Go.ChangeAt Go.RowKit

theorem mapM_cells {w : World} {a : Addr} {k : Nat} {cs : List Value} (h : (List.range k).mapM (fun i => w.cell? (a.add i)) = some cs) : cs.length = k ∧ ∀ j, j < k → w.cell? (a.add j) = cs[j]? := by
 refine ⟨by simpa using mapM_some_length h, fun j hj => ?_⟩
 have := mapM_some_get h j j (by simp [hj])
 exact this

theorem open_rows {H : Type} {enc : TypeId × Value → H} {P : Program} {w : World} {base : Nat} {spare : Nat → Bool} {held : Bool} {t e k : Nat} {A : Option Addr} {n c : Nat} {d : DataW H} {p : List MemPlace}
   (ht : P.underlying t = some (.slice e)) (hk : P.cellsOf e = k) (hk0 : 0 < k) (h : DataW.Trod enc P w base spare held t (.slice A n c) d p) :
   n ≤ maxLen ∧ ∃ b off, (0 < n → A = some ⟨b, off, none⟩) ∧ ∀ i, i < n → ∃ cs m x, cs.length = k ∧ (∀ j, j < k → w.cell? ⟨b, off + i * k + j, none⟩ = cs[j]?) ∧ DataW.trod enc P w base spare held m e cs = some x := by
 obtain ⟨fuel, hf⟩ := h
 have hf' : DataW.trod enc P w base spare held fuel t [.slice A n c] = some (d, p) := by simpa [Value.cells] using hf
 rcases Deep.open_slice ht hf' with ⟨h1, _⟩ | ⟨a, len, cap, m, fu, D, Pl, h1, hb, hl, hm, hmm, _, hall⟩
 · simp at h1
   obtain ⟨rfl, rfl, rfl⟩ := h1
   exact ⟨by simp [maxLen], 0, 0, fun h => absurd h (by omega), fun i hi => absurd hi (by omega)⟩
 · simp at h1
   obtain ⟨rfl, rfl, rfl⟩ := h1
   rw [hk] at hall
   have hnm : n ≤ m := by rw [hmm]; split <;> omega
   have key : ∀ i, i < n → ∃ cs, cs.length = k ∧ (∀ j, j < k → w.cell? ((a.add (i * k)).add j) = cs[j]?) ∧ DataW.trod enc P w base spare held fu e cs = some (D i, Pl i) := by
     intro i hi
     obtain ⟨cs, hc, htr⟩ := hall i (by omega)
     unfold World.cells? at hc
     split at hc
     · obtain ⟨x, y⟩ := mapM_cells hc
       exact ⟨cs, x, y, htr⟩
     · cases hc
   refine ⟨by omega, a.block, a.off, fun hn => ?_, fun i hi => ?_⟩
   · obtain ⟨cs, hl1, hc1, _⟩ := key 0 hn
     have h0 := hc1 0 hk0
     have e0 : (a.add (0 * k)).add 0 = a := by simp [Addr.add]
     rw [e0, List.getElem?_eq_getElem (by omega)] at h0
     have : a.spot = none := by
       unfold World.cell? at h0
       split at h0
       · split at h0
         · cases h0
         · rename_i hs
           cases hsp : a.spot
           · rfl
           · rw [hsp] at hs; simp at hs
       · cases h0
     cases a
     simp at this
     simp [this]
   · obtain ⟨cs, hl1, hc1, htr⟩ := key i hi
     refine ⟨cs, fu, _, hl1, fun j hj => ?_, htr⟩
     rw [← hc1 j hj]
     obtain ⟨cs0, hl0, hc0, _⟩ := key 0 (by omega)
     have h0 := hc0 0 hk0
     have e0 : (a.add (0 * k)).add 0 = a := by simp [Addr.add]
     rw [e0, List.getElem?_eq_getElem (by omega)] at h0
     have : a.spot = none := by
       unfold World.cell? at h0
       split at h0
       · split at h0
         · cases h0
         · rename_i hs
           cases hsp : a.spot
           · rfl
           · rw [hsp] at hs; simp at hs
       · cases h0
     congr 1
     cases a
     simp at this
     subst this
     unfold Addr.add
     by_cases h1 : i * k = 0 <;> by_cases h2 : j = 0 <;> simp [h1, h2, Nat.add_assoc]

section
section
variable {H : Type} {enc : TypeId × Value → H} {P : Program} {w : World} {base : Nat} {spare : Nat → Bool} {held : Bool} {t e m : Nat} {cs : List Value} {y : Option (DataW H × List MemPlace)}

theorem take_one (cs : List Value) (i : Nat) (h : i < cs.length) : (cs.drop i).take 1 = [cs[i]] := by
 rw [List.drop_eq_getElem_cons h, List.take_succ_cons, List.take_zero]

end
end
section

/- How bytes, digests, a leaf and a node are read off the arguments. -/
open Go.ChangeShapes Go.WideShapes Go.ChangeAt Go.RowKit Go.Maps

section
variable {H : Type} {enc : TypeId × Value → H} {P : Program} {w : World} {base : Nat} {spare : Nat → Bool} {held : Bool}
theorem hash_cells {t e m : Nat} {cs : List Value} {y : Option (DataW H × List MemPlace)} (ht : P.underlying t = some (.array 32 e)) (he : P.underlying e = some (.int .u8)) (h1 : P.cellsOf e = 1) (h32 : P.cellsOf t = 32)
  (h : DataW.trod enc P w base spare held m t cs = y) (hy : y.isSome = true) : ∃ ks, cs = bcells ks ∧ IsHash ks := by
 obtain ⟨z, rfl⟩ := Option.isSome_iff_exists.1 hy
 obtain ⟨xs, m, _, hx, Aa, hn, Ab⟩ := DataW.trod_array ht h
 rw [h32] at Aa
 obtain ⟨e1, e2⟩ := bytes_of_cells cs Aa (by
  intro i hi
  have := Ab i hi
  rw [h1, Nat.mul_one, List.getElem?_eq_getElem (by omega)] at this
  obtain ⟨n, hn1, _, hw⟩ := DataW.trod_int he this
  rw [List.drop_eq_getElem_cons (by omega)] at hn1
  simp only [List.take_succ_cons, List.take_zero, List.cons.injEq, and_true] at hn1
  have hb := bounds_u8 hw
  refine ⟨n.toNat, ?_, by omega⟩
  rw [List.getElem?_eq_getElem (by omega), hn1, Int.toNat_of_nonneg hb.1])
 exact ⟨cs.map u8Of, e1, e2⟩
theorem hash_cut {t e m i : Nat} {cs : List Value} {y : Option (DataW H × List MemPlace)} (ht : P.underlying t = some (.array 32 e)) (he : P.underlying e = some (.int .u8)) (h1 : P.cellsOf e = 1) (h32 : P.cellsOf t = 32)
  (h : DataW.trod enc P w base spare held m t ((cs.drop i).take (P.cellsOf t)) = y) (hy : y.isSome = true) : ∃ ks, (cs.drop i).take 32 = bcells ks ∧ IsHash ks := by
 have := hash_cells ht he h1 h32 h hy
 rwa [h32] at this
theorem int_cut {k : IntKind} {t m i : Nat} {cs : List Value} {y : Option (DataW H × List MemPlace)} (ht : P.underlying t = some (.int k)) (h1 : P.cellsOf t = 1) (h : DataW.trod enc P w base spare held m t ((cs.drop i).take (P.cellsOf t)) = y) (hy : y.isSome = true) :
  ∃ n, (cs.drop i).take 1 = [.int k n] ∧ (Lit.int k n).wf = true := by
 obtain ⟨z, rfl⟩ := Option.isSome_iff_exists.1 hy
 obtain ⟨n, hn, _, hw⟩ := DataW.trod_int ht h
 rw [h1] at hn
 exact ⟨n, hn, hw⟩
end
theorem cut_list (l : List Value) (i n : Nat) : l.drop i = (l.drop i).take n ++ l.drop (i + n) := by
 rw [← List.drop_drop]; exact (List.take_append_drop n (l.drop i)).symm

section
variable {H : Type} {enc : TypeId × Value → H} {w : World} {base : Nat} {spare : Nat → Bool} {held : Bool}
theorem open_node {m : Nat} {cs : List Value} {y : Option (DataW H × List MemPlace)} (h : DataW.trod enc Tryz.prog w base spare held m 30 cs = y) (hy : y.isSome = true) (hl : cs.length = 33) :
  ∃ (k : List Nat) (s : Nat), cs = ncells k s ∧ IsHash k ∧ s < 18446744073709551616 := by
 obtain ⟨z, rfl⟩ := Option.isSome_iff_exists.1 hy
 obtain ⟨xs, m2, _, _, _, hn, hf⟩ := DataW.trod_struct Tryz.underlying30 h
 have hn2 : xs.length = 2 := hn
 have Aa : ∀ j, j < 2 → (xs[j]?).isSome = true := fun j hj => by rw [List.getElem?_eq_getElem (by omega)]; rfl
 obtain ⟨k, e0, w0⟩ := hash_cut (i := 0) Tryz.underlying27 Tryz.underlying5 (by kernel_rfl) (by kernel_rfl) (hf 0 _ rfl) (Aa 0 (by decide))
 obtain ⟨a1, e1, w1⟩ := int_cut (i := 32) Tryz.underlying28 (by kernel_rfl) (hf 1 _ rfl) (Aa 1 (by decide))
 have hb := bounds_u64 w1
 obtain ⟨n1, rfl⟩ : ∃ n : Nat, a1 = n := ⟨a1.toNat, by omega⟩
 refine ⟨k, n1, ?_, w0, by omega⟩
 have f0 := cut_list cs 0 32
 have f1 := cut_list cs 32 1
 have f2 : cs.drop 33 = [] := List.drop_eq_nil_of_le (by omega)
 simp only [Nat.reduceAdd] at f0 f1
 rw [e0] at f0
 rw [e1, f2] at f1
 rw [f1] at f0
 rw [List.drop_zero] at f0
 rw [f0]; rfl
end
end
section

/- How slices of structs are read off the arguments; nodes, a proof. -/

theorem open_list {H : Type} {enc : TypeId × Value → H} {P : Program} {w : World} {base : Nat} {spare : Nat → Bool} {held : Bool} {α : Type} (cl : α → List Value) (ok : α → Prop) (k : Nat) {t e : TypeId} (ht : P.underlying t = some (.slice e)) (hk : P.cellsOf e = k) (hk0 : 0 < k)
  (hE : ∀ (m : Nat) cs x, DataW.trod enc P w base spare held m e cs = some x → cs.length = k → ∃ s, cs = cl s ∧ ok s) (hl : ∀ s, ok s → (cl s).length = k)
  {A : Option Addr} {n c : Nat} {d : DataW H} {p : List MemPlace} (h : DataW.Trod enc P w base spare held t (.slice A n c) d p) :
  ∃ xs : List α, xs.length = n ∧ n ≤ 9223372036854775807 ∧ (∀ x ∈ xs, ok x) ∧ (0 < n → ∃ b o, A = some ⟨b, o, none⟩ ∧ b < w.heap.size ∧ ∀ (i : Nat) x, xs[i]? = some x → w.rangeAt b (o + i * k) (cl x)) := by
 obtain ⟨hm, b, off, hA, Aa⟩ := open_rows ht hk hk0 h
 have ho : ∀ i, i < n → ∃ s : α, ok s ∧ w.rangeAt b (off + i * k) (cl s) := fun i hi => by
  obtain ⟨cs, m, x, hlc, hc, htr⟩ := Aa i hi
  obtain ⟨s, hs, hok⟩ := hE m cs x htr hlc
  refine ⟨s, hok, fun j v hv => ?_⟩
  have hj := (List.getElem?_eq_some_iff.1 hv).1
  rw [hl s hok] at hj
  rw [hc j hj, hs]; exact hv
 have mk : ∀ m, m ≤ n → ∃ ss : List α, ss.length = m ∧ (∀ s ∈ ss, ok s) ∧ ∀ (i : Nat) s, ss[i]? = some s → w.rangeAt b (off + i * k) (cl s) := fun m => by
  induction m with
  | zero => exact fun _ => ⟨[], rfl, fun s hs => (by cases hs), fun i s hi => (by simp at hi)⟩
  | succ m ih =>
   intro hm
   obtain ⟨ss, h1, h2, h3⟩ := ih (by omega)
   obtain ⟨s, hs, hr⟩ := ho m (by omega)
   refine ⟨ss ++ [s], by simp [h1], fun t ht => ?_, fun i t hi => ?_⟩
   · rcases List.mem_append.1 ht with ht | ht
     · exact h2 t ht
     · rw [List.mem_singleton.1 ht]; exact hs
   · rcases Nat.lt_or_ge i m with hlt | hge
     · rw [List.getElem?_append_left (by omega)] at hi
       exact h3 i t hi
     · have hil := (List.getElem?_eq_some_iff.1 hi).1
       rw [List.length_append, h1] at hil
       have : i = m := by simp at hil; omega
       subst this
       rw [List.getElem?_append_right (by omega), h1, Nat.sub_self] at hi
       obtain rfl : s = t := by simpa using hi
       exact hr
 obtain ⟨ss, h1, h2, h3⟩ := mk n (Nat.le_refl _)
 refine ⟨ss, h1, by unfold maxLen at hm; omega, h2, fun hn => ⟨b, off, hA hn, ?_, h3⟩⟩
 obtain ⟨s, hs, hr⟩ := ho 0 hn
 have h0 : 0 < (cl s).length := by rw [hl s hs]; exact hk0
 exact World.block_lt_of_cell? w _ (hr 0 _ (List.getElem?_eq_getElem h0))
section
variable {H : Type} {enc : TypeId × Value → H} {w : World} {base : Nat} {spare : Nat → Bool} {held : Bool}
end
end
section
/- Leaves of layer 7, as they come in: by value, and in a row. -/

section
variable {H : Type} {enc : TypeId × Value → H} {w : World} {base : Nat} {spare : Nat → Bool} {held : Bool}
set_option maxRecDepth 100000 in
theorem open_lf {m : Nat} {cs : List Value} {y : Option (DataW H × List MemPlace)} (h : DataW.trod enc Tryz.prog w base spare held m 32 cs = y) (hy : y.isSome = true) (hl : cs.length = 99) : ∃ l : LeafT, cs = l.cells ∧ l.ok := by
 obtain ⟨z, rfl⟩ := Option.isSome_iff_exists.1 hy
 obtain ⟨xs, m2, _, _, _, hn, hf⟩ := DataW.trod_struct Tryz.underlying32 h
 have hn2 : xs.length = 5 := hn
 have Aa : ∀ j, j < 5 → (xs[j]?).isSome = true := fun j hj => by rw [List.getElem?_eq_getElem (by omega)]; rfl
 obtain ⟨k0, e0, w0⟩ := hash_cut (i := 0) Tryz.underlying27 Tryz.underlying5 (by kernel_rfl) (by kernel_rfl) (hf 0 _ rfl) (Aa 0 (by decide))
 obtain ⟨a1, e1, w1⟩ := int_cut (i := 32) Tryz.underlying28 (by kernel_rfl) (hf 1 _ rfl) (Aa 1 (by decide))
 obtain ⟨k2, e2, w2⟩ := hash_cut (i := 33) Tryz.underlying27 Tryz.underlying5 (by kernel_rfl) (by kernel_rfl) (hf 2 _ rfl) (Aa 2 (by decide))
 obtain ⟨a3, e3, w3⟩ := int_cut (i := 65) Tryz.underlying3 (by kernel_rfl) (hf 3 _ rfl) (Aa 3 (by decide))
 have h4 := hf 4 _ rfl
 have hc4 : Tryz.prog.cellsOf 30 = 33 := by kernel_rfl
 obtain ⟨k4, s4, e4, w4, v4⟩ := open_node (cs := (cs.drop 66).take 33) (by rw [← hc4]; exact h4) (Aa 4 (by decide)) (by rw [List.length_take, List.length_drop]; omega)
 have q1 := bounds_u64 w1
 have q3 := bounds_i64 w3
 refine ⟨⟨k0, a1.toNat, k2, a3, ⟨k4, s4⟩⟩, ?_, ⟨w0, by show a1.toNat < _; omega, w2, by show _ ≤ a3; omega, by show a3 ≤ _; omega, w4, v4⟩⟩
 have f0 := cut_list cs 0 32
 have f1 := cut_list cs 32 1
 have f2 := cut_list cs 33 32
 have f3 := cut_list cs 65 1
 have f4 := cut_list cs 66 33
 have f5 : cs.drop 99 = [] := List.drop_eq_nil_of_le (by omega)
 simp only [Nat.reduceAdd] at f0 f1 f2 f3 f4
 rw [e4, f5, List.append_nil] at f4
 rw [e3, f4] at f3
 rw [e2, f3] at f2
 rw [e1, f2] at f1
 rw [e0, f1, List.drop_zero] at f0
 rw [f0]
 unfold LeafT.cells ndV
 rw [show ((a1.toNat : Nat) : Int) = a1 from Int.toNat_of_nonneg (by omega)]
 rfl
set_option maxRecDepth 100000 in
/-- leaves in a row. -/
theorem open_lfs {A : Option Addr} {n c : Nat} {d : DataW H} {p : List MemPlace} (h : DataW.Trod enc Tryz.prog w base spare held 22 (.slice A n c) d p) : ∃ ls : List LeafT, RowsAt LeafT.cells 99 w A n ls ∧ (∀ l ∈ ls, l.ok) ∧ n ≤ 9223372036854775807 := by
 obtain ⟨xs, h1, h2, h3, h4⟩ := open_list LeafT.cells LeafT.ok 99 Tryz.underlying22 (by kernel_rfl) (by decide) (fun m cs x hx hl => open_lf hx rfl hl) (fun s hs => LeafT.len hs) h
 exact ⟨xs, ⟨h1, fun x hx => LeafT.len (h3 x hx), h4⟩, h3, h2⟩
end
end
/- The walk of CommitOrders. -/

theorem coAdd_tight {K s0 : List Wd} {S : Nat → Prop} {w : World} {g : Nat} {ls : List LeafT} (h : Cm K s0 S w g ls) (hT : Tabs K s0 w) (l : LeafT) (hl : l.ok) :
   Calls Tryz.prog 11 #[.pointer (some ⟨g, 0, none⟩), .agg l.cells.toArray] w fun e w' => e = .returned (.int .i64 (addE K s0 ls l)) ∧ Cm K s0 (fun k => (S k ∨ w.heap.size ≤ k) ∧ k < w'.heap.size) w' g (addC K s0 ls l) ∧ Kept S w w' := by
 have h' : Cm K s0 (fun k => S k ∨ w.heap.size ≤ k) w g ls := h.zoneS (fun k _ e => .inl e)
 refine (coAdd_is h' (fun k e => .inr e) hT l hl).mono fun e w' ⟨h1, h2, h3⟩ => ⟨h1, h2.zoneS (fun k hk e => ⟨e, hk⟩), h3.mono (fun k hk e => ?_)⟩
 rcases e with e | e
 · exact e
 · omega
def Cz (N : Nat) (w : World) (g : Nat) (ls : List LeafT) (S : Nat → Prop) : Prop := Cm KS SS S w g ls ∧ ∀ k, S k → N ≤ k ∧ k < w.heap.size
theorem Cz.kept {N : Nat} {w w' : World} {g : Nat} {ls : List LeafT} {S T : Nat → Prop} (h : Cz N w g ls S) (hk : Kept T w w') (hs : ∀ k, S k → ¬ T k) : Cz N w' g ls S :=
 ⟨h.1.kept hk (fun k _ e => hs k e), fun k e => ⟨(h.2 k e).1, Nat.lt_of_lt_of_le (h.2 k e).2 hk.size⟩⟩
theorem Cz.below {N : Nat} {w w' : World} {g : Nat} {ls : List LeafT} {S : Nat → Prop} (h : Cz N w g ls S) (hb : Below w.heap.size w w') : Cz N w' g ls S := h.kept (Kept.of_below (S := fun _ => False) hb) (fun _ _ e => e)
section
/- The walk of commit's Leaves. -/

set_option maxHeartbeats 1000000 in
/-- cmp, in whatever world: two blocks are laid. -/
theorem cmpC_is (x y : HK) (W : World) : Calls Tryz.prog 61 #[.agg x.enc.toArray, .agg y.enc.toArray] W fun e w' => e = .returned (.int .i64 (HK.cmp x y)) ∧ ∃ q os', w' = Sort.grow (W.drewN q) os' := by
 have hb1 := Has.new W 27 x.enc.toArray
 have hb2 := Has.new (W.alloc (.cells x.enc.toArray 27)) 27 y.enc.toArray
 have hsz : (W.alloc (.cells x.enc.toArray 27)).heap.size = W.heap.size + 1 := by simp
 rw [hsz] at hb2
 have hb1' := hb1.alloc (.cells y.enc.toArray 27)
 have cx : ∀ z : HK, ∀ i, i < 32 → z.enc.toArray[i]? = some (.int .u8 ((z.k.getD i 0 : Nat) : Int)) := fun z i hi => by
  rw [List.getElem?_toArray, HK.enc]
  exact bcells_get _ _ (by rw [z.h.1]; exact hi)
 have Ab : ∀ n, ∃ q os', ((W.alloc (.cells x.enc.toArray 27)).alloc (.cells y.enc.toArray 27)).drewN n = Sort.grow (W.drewN q) os' := fun n => ⟨n, #[.cells x.enc.toArray 27] ++ #[.cells y.enc.toArray 27], by
  rw [Sort.alloc_eq_grow, Sort.alloc_eq_grow, Sort.grow_grow]; rfl⟩
 have Ad : ∀ W', (∀ i, i < 32 → W'.cell? ⟨W.heap.size, 0 + i, none⟩ = some (.int .u8 ((x.k.getD i 0 : Nat) : Int))) → (∀ i, i < 32 → W'.cell? ⟨W.heap.size + 1, 0 + i, none⟩ = some (.int .u8 ((y.k.getD i 0 : Nat) : Int))) →
   Calls Tryz.prog 31 #[.slice (some ⟨W.heap.size, 0, none⟩) 32 32, .slice (some ⟨W.heap.size + 1, 0, none⟩) 32 32] W' fun e w' => e = .returned (.int .i64 (HK.cmp x y)) ∧ w' = W' := fun W' h1 h2 =>
  (bytesCompare_is W' W.heap.size 0 32 (W.heap.size + 1) 0 32 32 32 x.k y.k x.h.1 y.h.1 h1 h2 x.h.2 y.h.2).mono fun e w' he => ⟨he.1, he.2.symm⟩
 have hc1 : ∀ n, ∀ i, i < 32 → (((W.alloc (.cells x.enc.toArray 27)).alloc (.cells y.enc.toArray 27)).drewN n).cell? ⟨W.heap.size, 0 + i, none⟩ = some (.int .u8 ((x.k.getD i 0 : Nat) : Int)) := fun n i hi => by rw [Nat.zero_add]; exact (hb1'.drewN n).cell_is (cx x i hi)
 have hc2 : ∀ n, ∀ i, i < 32 → (((W.alloc (.cells x.enc.toArray 27)).alloc (.cells y.enc.toArray 27)).drewN n).cell? ⟨W.heap.size + 1, 0 + i, none⟩ = some (.int .u8 ((y.k.getD i 0 : Nat) : Int)) := fun n i hi => by rw [Nat.zero_add]; exact (hb2.drewN n).cell_is (cx y i hi)
 have Ac := Hh (fun n => Ad _ (hc1 n) (hc2 n))
 have Aa := Hh Ab
 obtain ⟨A, hA⟩ : ∃ A, A = x.enc.toArray := ⟨_, rfl⟩
 obtain ⟨B, hB⟩ : ∃ B, B = y.enc.toArray := ⟨_, rfl⟩
 rw [← hA, ← hB] at Ac Aa ⊢
 obtain ⟨r, hr⟩ : ∃ r, r = HK.cmp x y := ⟨_, rfl⟩
 rw [← hr] at Ac ⊢
 clear hb1 hb2 hsz hb1' cx Ab Ad hc1 hc2 hA hB hr
 go_enter Tryz.func61, Tryz.ntmps61
 go_upto_region 1 with (fail)
 go_quiet ((go_at_call 31; exact Calls.quiet_of_same (Ac.o _)))
 go_wp2
 go_ret
 exact ⟨rfl, Aa.o _⟩
theorem enters_cmpC : ∀ args w, (callFunc 61 args).run Tryz.prog w = .ok (.enter 61 args) w := enters_of Tryz.func61 (by kernel_rfl) rfl
theorem sort_keysC (w : World) (base g n cap : Nat) (cur : Array Value) (xs : List HK) (hn : xs.length = n) (hbase : base ≤ g) (hb : Has w g 27 cur) (h1 : n ≤ cap) (h2 : cap ≤ maxLen) (h3 : cur.size = cap * 32)
   (ht : cur.toList.take (n * 32) = xs.flatMap HK.enc) (hd : (xs.map (·.k)).Nodup) (hs : n ≤ 1000000) :
   Calls Tryz.prog 60 #[.slice (some ⟨g, 0, none⟩) n cap, .func (.func 61) #[] #[]] w fun e w' =>
    e = .returned (.tuple #[]) ∧ ∃ ys : List HK, ys.Perm xs ∧ RisingK ys ∧ w'.ownsRow base 27 32 (.slice (some ⟨g, 0, none⟩) n cap) n (ys.flatMap HK.enc) ∧ Kept (· = g) w w' := by
 have hH := holdsK_of HK.enc 32 HK.len (by decide) (xs := xs) hb (by rw [hn]; exact ht)
 have Ab := AnyQ.slices_SortFunc (P := Tryz.prog) sortHash 32 Tryz.isAgg27 Tryz.sizeOf27 HK.enc HK.len HK.one HK.cmp HK.swo 61 #[] g 0 cap xs.toArray w enters_cmpC (fun m os dk _ x y => cmpC_is x y _) hH hb.lt (by simp; omega)
 change Calls Tryz.prog 60 _ _ _ at Ab
 have hsz : xs.toArray.size = n := by simp [hn]
 rw [hsz] at Ab
 refine Ab.mono fun e w' ⟨he, d', m, os, hp, hsd, hw⟩ => ?_
 have e1 : d'.size = n := hp.1.trans hsz
 have Aa : d'.toList.Perm xs := by
   have h := hp.2.2
   have a1 : d'.extract 0 n = d' := Array.extract_eq_self_of_le (by omega)
   have a2 : xs.toArray.extract 0 n = xs.toArray := Array.extract_eq_self_of_le (by omega)
   rw [a1, a2] at h
   simpa using h
 refine ⟨he, d'.toList, Aa, ?_, ?_, ?_⟩
 · have hd' : (d'.toList.map (·.k)).Nodup := ((Aa.map (·.k)).nodup_iff).2 hd
   unfold RisingK
   rw [List.pairwise_iff_getElem]
   intro i j hi hj hij
   have hi' : i < d'.size := by simpa using hi
   have hj' : j < d'.size := by simpa using hj
   have h := hsd i j (Nat.zero_le _) hij (by omega)
   rw [getElem!_pos d' j hj', getElem!_pos d' i hi'] at h
   unfold ltOf HK.cmp at h
   simp only [decide_eq_false_iff_not] at h
   have hne : (d'.toList[i]).k ≠ (d'.toList[j]).k := fun e => by
    have hp2 : d'.toList.Pairwise (fun a b => a.k ≠ b.k) := by
     have := hd'
     unfold List.Nodup at this
     rw [List.pairwise_map] at this
     exact this
    exact (List.pairwise_iff_getElem.1 hp2) i j hi hj hij e
   have hz : lexC (d'.toList[i]).k (d'.toList[j]).k ≠ 0 := fun e => hne (lexC_zero _ _ e)
   have hsw := lexC_swap (d'.toList[i]).k (d'.toList[j]).k
   have h' : ¬ lexC (d'.toList[j]).k (d'.toList[i]).k < 0 := by simpa using h
   omega
 · rw [hw]
   have := own_sortK HK.enc 32 HK.len (by decide) (m := m) (os := os) (ys := d'.toList) base hbase hb h1 h2 h3 (by simpa using hp.1.trans hsz)
   simpa using this
 · rw [hw]
   exact kept_sortK HK.enc 32 d'
theorem by_keys {K s0 : List Wd} {ls : List LeafT} (h : (ls.map (keyK K s0)).Nodup) {ks : List (List Nat)} (hn : ks.Nodup) (hm : ∀ k, k ∈ ks ↔ k ∈ ls.map (keyK K s0)) : ∃ srt : List LeafT, srt.Perm ls ∧ srt.map (keyK K s0) = ks := by
 have hz : ∀ k ∈ ks, ∃ l, l ∈ ls ∧ keyK K s0 l = k := fun k hk => by
  obtain ⟨l, hl, e⟩ := List.mem_map.1 ((hm k).1 hk)
  exact ⟨l, hl, e⟩
 have hx : ∀ ks : List (List Nat), (∀ k ∈ ks, ∃ l, l ∈ ls ∧ keyK K s0 l = k) → ∃ srt : List LeafT, srt.map (keyK K s0) = ks ∧ ∀ l ∈ srt, l ∈ ls := by
  intro ks
  induction ks with
  | nil => intro _; exact ⟨[], rfl, fun l hl => (by cases hl)⟩
  | cons k ks ih =>
   intro hk
   obtain ⟨l, hl, e⟩ := hk k List.mem_cons_self
   obtain ⟨srt, e1, e2⟩ := ih (fun x hx => hk x (List.mem_cons_of_mem _ hx))
   exact ⟨l :: srt, by rw [List.map_cons, e, e1], fun x hx => by
    rcases List.mem_cons.1 hx with hx | hx
    · rw [hx]; exact hl
    · exact e2 x hx⟩
 obtain ⟨srt, e1, e2⟩ := hx ks hz
 refine ⟨srt, (List.perm_ext_iff_of_nodup (nodup_of_map (keyK K s0) (by rw [e1]; exact hn)) (nodup_of_map (keyK K s0) h)).2 fun x => ⟨e2 x, fun hx => ?_⟩, e1⟩
 have h1 := (hm (keyK K s0 x)).2 (List.mem_map.2 ⟨x, hx, rfl⟩)
 rw [← e1] at h1
 obtain ⟨y, hy, e3⟩ := List.mem_map.1 h1
 rw [← key_inj h (e2 y hy) hx e3]
 exact hy
theorem at_hC (b o n c k : Nat) (hk : k < n) (w : World) : (Instr.indexAt 124 (.slice (some ⟨b, o, none⟩) n c) (.int .i64 (k : Int))).run Tryz.prog w = .ok (.pointer (some ⟨b, o + k * 32, none⟩)) w := by
 have hu : Tryz.prog.underlying 124 = some (.slice (Tryz.prog.elem 124)) := by kernel_rfl
 have he : Tryz.prog.elem 124 = 27 := by kernel_rfl
 have hz : ∀ w, (sizeOf 27).run Tryz.prog w = .ok 32 w := fun w => by kernel_rfl
 rw [run_indexAt_slice w 124 ⟨b, o, none⟩ n c .i64 (k : Int) hu, if_pos ⟨by omega, by omega⟩, he, hz]
 simp only [Result.andThen, Int.toNat_natCast, Addr.add_mid]
variable {K s0 : List Wd} {S : Nat → Prop} {w w' : World} {g m0 m1 : Nat} {ls : List LeafT} {E : List (List Nat × Nat)} {Z : Nat → Nat → Prop}
def LeavesP (K s0 : List Wd) (w : World) (ls : List LeafT) (e : Ending) (w' : World) : Prop :=
 ∃ (v' : Value) (srt : List LeafT), e = .returned v' ∧ srt.Perm ls ∧ (srt.map (keyK K s0)).Pairwise (fun a b => lexC a b < 0) ∧ w'.ownsRow w.heap.size 32 99 v' srt.length (srt.flatMap LeafT.cells) ∧ Below w.heap.size w w'
set_option maxRecDepth 100000 in
set_option maxHeartbeats 16000000 in
theorem coLeaves_at (h : CmAt K s0 S w g ls m0 m1 E Z) :
  Calls Tryz.prog 29 #[.pointer (some ⟨g, 0, none⟩)] w (LeavesP K s0 w ls) := by
 have H := Hh h
 have hm := h.map1
 obtain ⟨l, hl⟩ : ∃ l, l = ls.map (entL K s0) := ⟨_, rfl⟩
 have Bg : l.length ≤ 1000 := by rw [hl, List.length_map]; have := h.fine.len; omega
 rw [← hl] at hm
 have Bi := hm.lt
 have hc := h.cells.2.1
 obtain ⟨w0, Ai, hit, hk0, Bl⟩ := range_is (T := 99) Tryz.underlying99 hm
 have Bx := Hh Bg
 have Bv := Hh hit
 have Cf := Hh hk0
 have B2 := Hh Bl
 have Bq := Hh Bi
 have EL := Hh hl
 have hu30 := Tryz.underlying27
 clear hm hit hk0 Bl Bg Bi h hl
 go_enter Tryz.func29, Tryz.ntmps29
 go_wp2_with fail
 generalize hr : w.heap.size = r at Ai Bv B2 Bq ⊢
 have HR := Hh hr
 clear hr
 go_loopw [3] (fun ov wr => ∃ done xs, GathK w m1 r l done xs ov wr) (fun _ wr => wr.rangeLeft m1 r)
 case atStart => exact ⟨[], [], Bv.o, rfl, ⟨_, _, _, rfl⟩, World.ownsRow_nil _ _ _ _, Cf.o.mono (fun _ _ h => h.elim), by rw [B2.o]; omega⟩
 case round =>
  obtain ⟨done, xs, hit, hxs, ⟨oa, on, oc, rfl⟩, Aa, hkw, hr⟩ := hrel
  have hdl : xs.length ≤ 1000000 := by
    have h1 := hit.size
    have h2 : xs.length = done.length := by rw [← hxs]; simp
    have h3 := Bx.o
    omega
  rcases next_is hit 0 with ⟨hd, hnx⟩ | ⟨key, vv, w2, Al, hnd, hkh, hnx, hit1, hk1, hsz1, hlt1, hen⟩
  · have hxd : (xs.map (·.k)).Nodup := by rw [hxs]; exact hit.nodup.1
    have Ak : Below w.heap.size w wr := hkw.below (Nat.le_refl _) (fun k e => e)
    have Am : ∀ ys : List HK, ys.Perm xs → ∀ k, k ∈ ys.map (·.k) ↔ k ∈ l.map (·.1) := fun ys hp k => ⟨fun hk => by
     have h1 : k ∈ xs.map (·.k) := (hp.map (·.k)).mem_iff.1 hk
     rw [hxs] at h1
     exact hit.mem k h1, fun hk => by
     obtain ⟨p, hp1, rfl⟩ := List.mem_map.1 hk
     have h1 := hd p hp1
     rw [← hxs] at h1
     exact (hp.map (·.k)).mem_iff.2 h1⟩
    have Aq := Hh Am
    have Aj := Hh Ak
    have hrw : w.heap.size ≤ r := by rw [HR.o]; exact Nat.le_refl _
    go_upto_region 8 with (fail)
    go_cut [3] from 23 to 24 (fun kv wx => ∃ (ys : List HK) (a : Option Addr) (c : Nat), kv = .slice a ys.length c ∧ RowsAt HK.enc 32 wx a ys.length ys ∧ RisingK ys ∧ ys.length ≤ 1000000 ∧ (∀ k, k ∈ ys.map (·.k) ↔ k ∈ l.map (·.1)) ∧ Below w.heap.size w wx)
    case first =>
     rcases Aa.2 with ⟨e, h0⟩ | ⟨gs, cap, cur, e, hbase, hh, h1, h2, h3, h4⟩
     · injection e with e1 e2 e3
       subst e1 e2 e3
       have Cd : xs = [] := List.eq_nil_of_length_eq_zero h0
       subst Cd
       have Ab := AnyF.slices_SortFunc_none (P := Tryz.prog) sortHash none 0 (.func (.func 61) #[] #[]) wr
       change Calls Tryz.prog 60 _ _ _ at Ab
       have Ad := Hh Ab
       clear Ab Aa hit hxs hkw hr hdl hd hxd Ak Am hrw h0 Ai
       go_wp2_with fail
       refine Ad.o.mono ?_
       rintro _ W7 ⟨rfl, e8⟩
       have e9 := e8.symm
       subst e9
       clear e8
       go_wp2
       go_meet
       case rel => exact ⟨[], none, 0, rfl, ⟨rfl, fun x hx => (by cases hx), fun h => absurd h (Nat.lt_irrefl 0)⟩, List.Pairwise.nil, by decide, Aq.o [] (List.Perm.refl _), Aj.o⟩
     · injection e with e1 e2 e3
       subst e1 e2 e3
       have Ab := sort_keysC wr w.heap.size gs xs.length oc cur xs rfl (by omega) hh h1 h2 h3 h4 hxd hdl
       have Ad := Hh Ab
       have Cq := Hh (show w.heap.size ≤ gs by omega)
       have Bo := Hh hdl
       clear Ab Aa hit hxs hkw hr hd hxd Ak Am hrw Ai hbase hh h1 h2 h3 h4 hdl
       go_wp2_with fail
       refine Ad.o.mono ?_
       rintro _ W7 ⟨rfl, ys, hp, hri, Ag, hk7⟩
       have hl7 := hp.length_eq
       rw [← hl7] at Ag
       have HE := Hh (And.intro (own_rows Ag rfl (fun x _ => HK.len x)).1 (And.intro hri (And.intro (Aq.o ys hp) (Aj.o.trans (hk7.below Aj.o.size (fun k e => by rw [e]; exact Cq.o))))))
       have Cg := Hh hl7
       clear hp hri Ag hk7 hl7
       go_wp2
       go_meet
       case rel => exact ⟨ys, _, oc, by rw [Cg.o], HE.o.1, HE.o.2.1, by rw [Cg.o]; exact Bo.o, HE.o.2.2.1, HE.o.2.2.2⟩
    case rest =>
     obtain ⟨Wc, hWc⟩ : ∃ x, x = wc := ⟨_, rfl⟩
     subst hWc
     obtain ⟨ys, a, c, rfl, Ah, Bk, hyl, Al, hbw⟩ := hcut
     clear Aa hit hxs hkw hr hdl hd hxd Ak Am hrw Ai hnx Aq Aj Bv Cf B2 Bq
     have hkd : (ys.map (·.k)).Pairwise (fun a b => lexC a b < 0) := by rw [List.pairwise_map]; exact Bk
     have hnd : (ys.map (·.k)).Nodup := hkd.imp (fun {x y} h e => by rw [e, lexC_refl] at h; exact absurd h (by decide))
     obtain ⟨srt, hsp, hsk⟩ := by_keys (K := K) (s0 := s0) H.o.fine.keys hnd (fun k => by
       rw [Al k, EL.o, List.map_map]
       exact Iff.rfl)
     obtain ⟨N, hN⟩ : ∃ N, N = ys.length := ⟨_, rfl⟩
     rw [← hN] at Ah hyl ⊢
     have A4 := Hh Ah
     have Ck := Hh hsp
     have Cj := Hh hsk
     have Cr := Hh hkd
     have Aw := Hh hbw
     have HN := Hh hN
     have B3 := Hh (show srt.length = N by have := congrArg List.length hsk; rw [List.length_map, List.length_map, ← hN] at this; exact this)
     have B4 := Hh (show N ≤ 256 by rw [hN]; have h1 := congrArg List.length hsk; rw [List.length_map, List.length_map] at h1; rw [← h1, hsp.length_eq]; exact H.o.fine.len)
     clear Ah Bk hyl Al hbw hkd hnd hsp hsk hN
     obtain ⟨zk, hzk, Bm, hzkn⟩ := zero_hashT
     obtain ⟨zl, hzl, -, Bn, hzln, hzle'⟩ := zero_leafT
     clear hzle'
     obtain ⟨ZL, Ae, hzs⟩ := info_leafT
     obtain ⟨ii, hi1, hi2, hi3, hi4⟩ := info_parts Ae
     have Bu := Hh (And.intro hi1 (And.intro hi2 hi3))
     have Ay := Hh Ae
     have A6 := Hh (show (Value.agg ZL).cells.size = 99 from hzs)
     have C1 := Hh Bm
     have Cl := Hh Bn
     clear Ae hzs hi1 hi2 hi3 hi4 Bm Bn
     go_wp2_with fail
     go_loopw [5, 27] (fun ov iv wr => ∃ j : Nat, iv = .int .i64 (j : Int) ∧ j ≤ N ∧ wr.ownsRow Wc.heap.size 32 99 ov j ((srt.take j).flatMap LeafT.cells) ∧ Below Wc.heap.size Wc wr) (fun _ iv _ => N - (intOf iv).toNat)
     case atStart => exact ⟨0, rfl, Nat.zero_le _, World.ownsRow_nil _ _ _ _, Below.refl _ _⟩
     case round =>
       obtain ⟨j, rfl, hj, Aa, hbr⟩ := hrel
       by_cases hlt : j < N
       · have hlt' : (j : Int) < (N : Int) := by omega
         obtain ⟨oa2, oc2, rfl⟩ := own_form Aa
         obtain ⟨sb, so, hA, hsb, hrr⟩ := A4.o.at_ (by omega)
         subst hA
         obtain ⟨y, hy⟩ : ∃ y, ys[j]? = some y := ⟨_, List.getElem?_eq_getElem (by rw [← HN.o]; exact hlt)⟩
         obtain ⟨x, hx⟩ : ∃ x, srt[j]? = some x := ⟨_, List.getElem?_eq_getElem (by rw [B3.o]; exact hlt)⟩
         have Bd : keyK K s0 x = y.k := by
          have := congrArg (fun t => t[j]?) Cj.o
          simp only [List.getElem?_map, hx, hy, Option.map_some, Option.some.injEq] at this
          exact this
         have hxl : x ∈ ls := Ck.o.mem_iff.1 (List.mem_of_getElem? hx)
         have Av := H.o.fine.ok x hxl
         obtain ⟨KL, hKL⟩ : ∃ L, L = bcells y.k := ⟨_, rfl⟩
         obtain ⟨LC, hLC⟩ : ∃ L, L = x.cells := ⟨_, rfl⟩
         have hrw := rangeAt_kept (hrr j y hy) (Kept.of_below (S := fun _ => False) hbr) (fun e => e)
         rw [show y.enc = KL by rw [hKL]; rfl] at hrw
         have hat := at_hC sb so N c j hlt
         have Cs := Hh (show ∀ v, Below w.heap.size w v → v.cell? ⟨g, 1, none⟩ = some (.map (some m1)) ∧ (Instr.lookup 99 (.map (some m1)) (.agg KL.toArray) false).run Tryz.prog v = .ok (.agg LC.toArray) v from fun v hv => by
          refine ⟨(H.o.quiet hv).cells.2.1, ?_⟩
          have := lookup_is (T := 99) Tryz.underlying99 hzl (H.o.quiet hv).map1 y.h
          rw [look_mem2 (by rw [List.map_map]; exact H.o.fine.keys) (List.mem_map.2 ⟨x, hxl, by unfold entL; rw [Bd]⟩)] at this
          unfold arr at this
          rw [← hKL] at this
          rw [hLC]
          exact this)
         have hyl : y.k.length = 32 := y.h.1
         have Bp := Hh (show LC.length = 99 by rw [hLC]; exact LeafT.len Av)
         have B9 := Hh (show (Tryz.prog.info? 27).map (·.size) = some KL.toArray.size by rw [List.size_toArray, hKL, bcells_length, hyl]; kernel_rfl)
         have A7 := Hh (show (Tryz.prog.info? 27).map (·.size) = some KL.length by rw [hKL, bcells_length, hyl]; kernel_rfl)
         have C2 := Hh (show zk.size = KL.toArray.size by rw [C1.o, List.size_toArray, hKL, bcells_length, hyl])
         have B8 := Hh (show KL.toArray.all (·.oneCell') = true by rw [hKL]; exact all_oneCell_toArray (bcells_one _))
         have Br := Hh (show ∀ C, Has ((wr.alloc (.cells zk 27)).setRow wr.heap.size C) wr.heap.size 27 C ∧ Below wr.heap.size wr ((wr.alloc (.cells zk 27)).setRow wr.heap.size C) from fun C => by
          rw [World.setRow_alloc_new]
          exact ⟨Has.new wr _ _, (Below.refl _ _).alloc (Nat.le_refl _) _⟩)
         have Ci := Hh hrw
         have A1 := Hh Aa
         have Bs := Hh hbr
         have B6 := Hh Av
         have Cn := Hh hLC
         have Cx := Hh (show (srt.take (j + 1)).flatMap LeafT.cells = (srt.take j).flatMap LeafT.cells ++ [x].flatMap LeafT.cells by rw [List.take_add_one, hx, List.flatMap_append]; rfl)
         have A0 := Hh hlt
         clear Aa hbr hsb hrr hy hx Bd hxl Av hKL hLC hrw hyl hj hlt
         go_upto_region 13 with (first
          | (refine wpList_load_mid rfl 27 (.tmp 29) rfl sb (so + j * 32) rfl KL _ Ci.o Tryz.underlying27 rfl A7.o ?_)
          | (refine wpList_store_row rfl 27 (.tmp 7) (.tmp 30) rfl wr.heap.size KL.toArray rfl rfl 27 zk (heap_alloc_new wr _) B9.o C2.o B8.o ?_))
         obtain ⟨h7, hb7⟩ := Br.o KL.toArray
         have Aa := own_kept A1.o (Kept.of_below (S := fun _ => False) hb7) (fun _ _ e => e)
         have Ar := Bs.o.trans (hb7.mono Bs.o.size)
         clear hb7 Br Ci hat A1 Bs
         generalize (wr.alloc (.cells zk 27)).setRow wr.heap.size KL.toArray = W7 at h7 Aa Ar ⊢
         generalize wr.heap.size = G7 at h7 ⊢
         have Ac := Hh (show ∀ v, Below Wc.heap.size Wc v → v.cell? ⟨g, 1, none⟩ = some (.map (some m1)) ∧ (Instr.lookup 99 (.map (some m1)) (.agg KL.toArray) false).run Tryz.prog v = .ok (.agg LC.toArray) v from fun v hv => Cs.o v (Aw.o.trans (hv.mono Aw.o.size)))
         replace Aa := own_kept Aa ((Kept.refl (fun _ => False) W7).drew) (fun _ _ e => e)
         have hS0 : Below Wc.heap.size Wc W7.drew ∧ Has W7.drew G7 27 KL.toArray := ⟨Ar.drew, h7⟩
         have Cv := Hh (show ∀ y ∈ [x], ∀ u ∈ LeafT.cells y, u.oneCell' = true from fun y _ u hu => by
          have := LeafT.one y
          rw [Array.all_eq_true'] at this
          exact this u (by simpa using hu))
         have Ch := Hh (show j + 1 ≤ maxLen ∧ (j + 1) * 120 ≤ 140737488355328 from ⟨by unfold maxLen; have := B4.o; have := A0.o; omega, by have := B4.o; have := A0.o; omega⟩)
         clear Ar h7
         refine wp_region_noPanic ?_
         refine wp_region_held_drew (S := (fun v => Below Wc.heap.size Wc v ∧ Has v G7 27 KL.toArray)) (by kernel_rfl) hS0 (fun hH0 => ?_)
         apply tl 0 rfl ?hv hH0 ?_
         case hv => intro w' hS; go_simp; try rfl
         simp only [qc]
         apply tl 1 rfl ?hv hH0 ?_
         case hv => intro w' hS; go_simp; try rfl
         simp only [qc]
         apply tl 2 rfl ?hv hH0 ?_
         case hv => intro w' hS; have z0 := (Ac.o w' hS.1).1; have z1 := (Ac.o w' hS.1).2; go_simp; try rfl
         simp only [qc]
         apply tl 3 rfl ?hv hH0 ?_
         case hv => intro w' hS; go_simp; try rfl
         simp only [qc]
         apply tl 4 rfl ?hv hH0 ?_
         case hv => intro w' hS; have z0 := (Ac.o w' hS.1).1; have z1 := (Ac.o w' hS.1).2; go_simp; try rfl
         simp only [qc]
         refine tk 5 (v := (.agg KL.toArray)) rfl (yieldsIf_load_mid (by kernel_rfl) 27 (.tmp 7) rfl G7 0 rfl KL _ (fun w' h => h.2.row0) Tryz.underlying27 rfl A7.o) hH0 ?_
         simp only [qc]
         apply tl 6 rfl ?hv hH0 ?_
         case hv => intro w' hS; have z0 := (Ac.o w' hS.1).1; have z1 := (Ac.o w' hS.1).2; go_simp; try rfl
         simp only [qc]
         refine rdy [7] (ar1 rfl fun KK hKK => ?_)
         refine step_build1 rfl 22 32 (.tmp 37) rfl ii (.agg ZL) Tryz.underlying22 Bu.o.1 Bu.o.2.1 LC (by rw [Bu.o.2.2, Bp.o]) (by rw [Bp.o]; exact A6.o) (by rw [Bp.o]; decide) (by rw [Bp.o]; decide) rfl ?_
         obtain ⟨x7, hx7⟩ : ∃ y, y = W7.drew.alloc (.cells LC.toArray 32) := ⟨_, rfl⟩
         have hb7 : Below W7.drew.heap.size W7.drew x7 := by rw [hx7]; exact (Below.refl _ _).alloc (Nat.le_refl _) _
         have hr7 : RowsAt LeafT.cells 99 x7 (some ⟨W7.drew.heap.size, 0, none⟩) 1 [x] := by rw [hx7]; exact rows_has (xs := [x]) (t := 32) (by have := Has.new W7.drew 32 LC.toArray; rw [Cn.o] at this ⊢; simpa using this) (len_cells (fun y hy => by rw [List.mem_singleton.1 hy]; exact B6.o))
         first | rw [← hx7] | (change KK _ (W7.drew.alloc (.cells LC.toArray 32)); rw [← hx7])
         obtain ⟨G8, hG8⟩ : ∃ y, y = W7.drew.heap.size := ⟨_, rfl⟩
         rw [← hG8] at hr7
         first | rw [← hG8] | (have hq : W7.heap.size = G8 := hG8.symm; rw [hq]; clear hq)
         have hs7 : Below Wc.heap.size Wc x7 ∧ Has x7 G7 27 KL.toArray := ⟨hH0.1.trans (hb7.mono hH0.1.size), hH0.2.below hb7 hH0.2.lt⟩
         replace Aa := own_kept Aa (Kept.of_below (S := fun _ => False) hb7) (fun _ _ e => e)
         clear hx7 hb7 hG8
         refine hKK _ _ hs7 fun hH1 => ?_
         clear hKK KK
         try simp only [qc]
         refine rdy [8] (ar1 rfl fun KK hKK => ?_)
         refine step_append_rows (cl := LeafT.cells) rfl (.tmp 31) (.tmp 38) 22 rfl Wc.heap.size 32 (.agg ZL) 120 Tryz.underlying22 Ay.o A6.o (by decide) _ j _ rfl Aa _ 1 1 [x] rfl hr7 Cv.o Ch.o.1 Ch.o.2 hH1.1.size ?_
         intro oa8 oc8 x8 Ap As
         have hs8 : Below Wc.heap.size Wc x8 ∧ Has x8 G7 27 KL.toArray := ⟨hH1.1.grown As hH1.1.size (own_blk Aa), hH1.2.grown As (fun e => own_has_ne Aa hH1.2 (by decide) _ e.symm rfl)⟩
         clear As
         refine hKK _ _ hs8 fun hH2 => ?_
         clear hKK KK
         try simp only [qc]
         apply tl 9 rfl ?hv hH2 ?_
         case hv => intro w' hS; go_simp; try rfl
         simp only [qc]
         refine wpAnyH_done (by kernel_rfl) ?_ _
         refine NoPanic.normal ?_
         have Cu := Hh Ap
         have Cw := Hh hs8
         clear Ap hs8 hs7 hr7 Aa hS0
         have hjb : (j : Int) + 1 ≤ 256 := by have a1 := A0.o; have a2 := B4.o; omega
         go_wp2_with fail
         go_roundw
         case rel => exact ⟨j + 1, by go_num, A0.o, by rw [Cx.o]; exact Cu.o, Cw.o.1⟩
         case measure => have := A0.o; simp [intOf]; omega
       · obtain rfl : j = N := by omega
         obtain ⟨oa2, oc2, rfl⟩ := own_form Aa
         have B1 := Hh (show LeavesP K s0 w ls (.returned (.slice oa2 j oc2)) wr from ⟨_, srt, rfl, Ck.o, by rw [Cj.o]; exact Cr.o, by
          rw [List.take_of_length_le (by rw [B3.o]; exact Nat.le_refl _)] at Aa
          rw [B3.o]
          exact own_base Aa Aw.o.size, Aw.o.trans (hbr.mono Aw.o.size)⟩)
         clear Aa hbr
         go_wp2
         go_ret
         exact B1.o
  · obtain ⟨ZH, hzh, Ce, hzhn⟩ := zero_key
    obtain ⟨isum, his, Bb, Bc, Cb⟩ := info_parts info_key
    have hnw : ∀ C, Has ((w2.alloc (.cells ZH 27)).setRow w2.heap.size C) w2.heap.size 27 C ∧ Kept (fun _ => False) w2 ((w2.alloc (.cells ZH 27)).setRow w2.heap.size C) := fun C => by
     rw [World.setRow_alloc_new]
     exact ⟨Has.new w2 _ _, (Kept.refl _ _).alloc _⟩
    have hmr : m1 < r := Bq.o
    have An : w2.ownsRow (r + 1) 27 32 (.slice oa on oc) xs.length (xs.flatMap HK.enc) := own_kept Aa hk1 (fun k hk e => by
     rcases Aa.2 with ⟨e2, _⟩ | ⟨gs, cap, cur, e2, hbase, _⟩
     · rw [e2] at hk; simp [Value.ownBlock] at hk
     · rw [e2] at hk
       simp [Value.ownBlock] at hk
       omega)
    have Be : Kept (fun k => w.heap.size ≤ k) w w2 := hkw.step hk1 (fun k e => .inr (by rw [e, HR.o]; exact Nat.le_refl _))
    obtain ⟨X, hX⟩ : ∃ X : HK, X = ⟨key, hkh⟩ := ⟨_, rfl⟩
    obtain ⟨L, hL⟩ : ∃ L, L = bcells key := ⟨_, rfl⟩
    have hLX : L = X.enc := by rw [hL, hX]; rfl
    have hLl : L.length = 32 := by rw [hL, bcells_length, hkh.1]
    have szk : (Tryz.prog.info? 27).map (·.size) = some L.toArray.size := by rw [List.size_toArray, hLl]; kernel_rfl
    have Bj : L.toArray.all (·.oneCell') = true := by rw [hL]; exact all_oneCell_toArray (bcells_oneC key)
    have hzL : ZH.size = L.toArray.size := by rw [Ce, List.size_toArray, hLl]
    unfold arr at hnx hen
    rw [← hL] at hnx hen
    have Br := Hh hnw
    have A2 := Hh An
    have Bw := Hh Be
    have Az := Hh hit1
    have By := Hh hlt1
    have A7 := Hh szk
    have B0 := Hh Bj
    have Cl := Hh hzL
    have A5 := Hh X.len
    have Cy := Hh X.one
    have Ct := Hh hLX
    have C0 := Hh (show xs.map (·.k) ++ [X.k] = done ++ [key] by rw [hxs, hX])
    have Bo := Hh hdl
    have B5 := Hh (show r < w2.heap.size by rw [hsz1]; exact hr)
    clear hnw An Be hit1 hlt1 szk Bj hzL Al hxs hdl hL hLX hX hLl hk1 hsz1 hit Aa hkw hr Ai hnd hkh
    go_upto_region 7 with (refine wpList_store_row rfl 27 (.tmp 4) (.tmp 18) rfl w2.heap.size L.toArray rfl rfl 27 ZH (heap_alloc_new w2 _) A7.o Cl.o B0.o ?_)
    obtain ⟨h9, hk9⟩ := Br.o L.toArray
    generalize (w2.alloc (.cells ZH 27)).setRow w2.heap.size L.toArray = W5 at h9 hk9 ⊢
    have Au := Az.o.kept hk9 (fun h => h) (fun h => h)
    have Bh := Az.o.left_kept hk9 (fun h => h) (fun h => h)
    have Af := own_kept A2.o hk9 (fun _ _ h => h)
    have Bf := Bw.o.trans (hk9.mono (fun _ _ h => h.elim))
    have hr5 : r < W5.heap.size := Nat.lt_of_lt_of_le B5.o hk9.size
    generalize w2.heap.size = G5 at h9 ⊢
    have H9 := Hh h9
    have A3 := Hh Af
    have Co := Hh (show r + 1 ≤ (W5.alloc (.cells X.enc.toArray 27)).heap.size by show r + 1 ≤ (W5.heap.push _).size; rw [Array.size_push]; omega)
    have B7 := Hh (show (Value.agg (bcells (List.replicate 32 0)).toArray).cells.size = 32 by kernel_rfl)
    have Bz := Hh (show xs.length + 1 ≤ maxLen by unfold maxLen; have := Bo.o; omega)
    have Cp := Hh (show (xs.length + 1) * 32 ≤ 140737488355328 by have := Bo.o; omega)
    have A8 : ∀ g6 cap6 w6, w6.ownsRow (r + 1) 27 32 (.slice (some ⟨g6, 0, none⟩) (xs.length + 1) cap6) (xs.length + 1) (xs.flatMap HK.enc ++ X.enc) → (W5.alloc (.cells X.enc.toArray 27)).grownBy w6 (Value.slice oa on oc).ownBlock →
       (∃ done zs, GathK w m1 r l done zs (.slice (some ⟨g6, 0, none⟩) (xs.length + 1) cap6) w6) ∧ w6.rangeLeft m1 r < wr.rangeLeft m1 r := fun g6 cap6 w6 ho6 hg6 => by
     have hob : ∀ k, (Value.slice oa on oc).ownBlock = some k → r + 1 ≤ k := fun k hk => by
       rcases Af.2 with ⟨e2, _⟩ | ⟨gs, cap, cur, e2, hbase, _⟩
       · rw [e2] at hk; simp [Value.ownBlock] at hk
       · rw [e2] at hk
         simp [Value.ownBlock] at hk
         omega
     have hk6 : Kept (fun k => (Value.slice oa on oc).ownBlock = some k) W5 w6 := ((Kept.refl _ W5).alloc _).grown hg6 (fun k e => .inl e)
     have hmr : m1 < r := Bq.o
     refine ⟨⟨_, xs ++ [X], Au.kept hk6 (fun e => by have := hob m1 e; omega) (fun e => by have := hob r e; omega), by rw [List.map_append, List.map_singleton]; exact C0.o, ⟨_, _, _, rfl⟩, ?_, Bf.step hk6 (fun k e => .inl (by have h1 := hob k e; have h2 := HR.o; show w.heap.size ≤ k; omega)), Nat.lt_of_lt_of_le hr5 hk6.size⟩, ?_⟩
     · rw [List.length_append, List.flatMap_append]
       simpa using ho6
     · rw [Au.left_kept hk6 (fun e => by have := hob m1 e; omega) (fun e => by have := hob r e; omega), Bh]
       exact By.o
    have Bt := Hh A8
    clear h9 hk9 Au Bh Af Bf hr5 A8 hen hnx
    go_wp2_with (first
     | (refine wpList_load_row rfl 27 (.tmp 4) rfl G5 rfl 27 L.toArray (0, 0) _ H9.o Tryz.underlying27 rfl A7.o ?_)
     | (refine wpList_build1 rfl 124 27 (.tmp 20) rfl isum _ Tryz.underlying124 his Bb X.enc (by rw [Bc, A5.o]) (by rw [A5.o]; kernel_rfl) (by rw [A5.o]; decide) (by rw [A5.o]; decide) (by rw [← Ct.o]; rfl) ?_)
     | (at_builtin; refine wpList_append_lies _ rfl (.tmp 19) (.tmp 21) 124 rfl (r + 1) 27 isum _ 32 32 Tryz.underlying124 his Bb Bc Cb B7.o (by decide) _ xs.length _ rfl (A3.o.alloc _) ⟨W5.heap.size, 0, none⟩ 1 1 X.enc rfl A5.o (World.news_of_block (cs := X.enc.toArray) (heap_alloc_new W5 _)) Cy.o (by decide) Bz.o Cp.o Co.o _ rfl ?_; intro g6 cap6 w6 Ao Ba Ca Cc))
    have A9 := Bt.o g6 cap6 w6 Ao Ba
    have Ax := Hh A9
    clear A9 Ao Ba Ca Cc
    go_wp2
    go_roundw
    case rel =>
     obtain ⟨dn, ys, e⟩ := Ax.o.1
     exact ⟨dn, ys, e⟩
    case measure => exact Ax.o.2
end
/- The walk of CommitTotals. -/

theorem cz_leaves {N : Nat} {w : World} {g : Nat} {ls : List LeafT} {S : Nat → Prop} (h : Cz N w g ls S) :
  Calls Tryz.prog 29 #[.pointer (some ⟨g, 0, none⟩)] w fun e w' => ∃ (a : Option Addr) (c : Nat) (srt : List LeafT), e = .returned (.slice a ls.length c) ∧ srt.Perm ls ∧ (srt.map (keyK KS SS)).Pairwise (fun a b => lexC a b < 0) ∧ w'.ownsRow w.heap.size 32 99 (.slice a ls.length c) ls.length (srt.flatMap LeafT.cells) ∧ Below w.heap.size w w' := by
 obtain ⟨⟨m0, m1, E, Z, h⟩, _⟩ := h
 refine (coLeaves_at h).mono fun e w' ⟨v, srt, h1, h2, h3, h4, h5⟩ => ?_
 rw [h2.length_eq] at h4
 obtain ⟨a, c, rfl⟩ := own_form h4
 exact ⟨a, c, srt, h1, h2, h3, h4, h5⟩
theorem cz_anchor {N : Nat} {w : World} {g : Nat} {ls : List LeafT} {S : Nat → Prop} (h : Cz N w g ls S) (hT : Tabs KS SS w) (hN : 2 + 1 ≤ N) :
  Calls Tryz.prog 12 #[.pointer (some ⟨g, 0, none⟩)] w fun e w' => e = .returned (arr (anchorOf KS SS ls)) ∧ Cz N w' g ls S ∧ Kept S w w' :=
 (coAnch_is h.1 hT (fun k e => Nat.le_trans hN (h.2 k e).1)).mono fun e w' ⟨h1, h2, h3⟩ => ⟨h1, ⟨h2, fun k e => ⟨(h.2 k e).1, Nat.lt_of_lt_of_le (h.2 k e).2 h3.size⟩⟩, h3⟩
theorem cz_add {N : Nat} {w : World} {g : Nat} {ls : List LeafT} {S : Nat → Prop} (h : Cz N w g ls S) (hT : Tabs KS SS w) (hN : N ≤ w.heap.size) (l : LeafT) (hl : l.ok) :
  Calls Tryz.prog 11 #[.pointer (some ⟨g, 0, none⟩), .agg l.cells.toArray] w fun e w' => e = .returned (.int .i64 (addE KS SS ls l)) ∧ Cz N w' g (addC KS SS ls l) (fun k => (S k ∨ w.heap.size ≤ k) ∧ k < w'.heap.size) ∧ Kept S w w' :=
 (coAdd_tight h.1 hT l hl).mono fun e w' ⟨h1, h2, h3⟩ => ⟨h1, ⟨h2, fun k e => ⟨by
  rcases e.1 with e1 | e1
  · exact (h.2 k e1).1
  · exact Nat.le_trans hN e1, e.2⟩⟩, h3⟩
theorem anchor_hash (ls : List LeafT) : IsHash (anchorOf KS SS ls) := by
 unfold anchorOf
 by_cases e : ls = []
 · rw [if_pos e]; exact hZ_hash
 · rw [if_neg e]; exact anchorK_hash KS SS ss_len _
section
/- By the same proof another leaf comes to a root, too, or its sum does not fit. -/

section
variable {K s0 : List Wd} {bare : Nat → Bool} {key : List Nat} {nodes : List Nd} {n0 n1 : Nd}
theorem pfBr_two (h : Nat) (n x : Nd) (u : Nat) : pfBr K s0 key h n x u = .error 10 ∨ ∃ m, pfBr K s0 key h n x u = .ok (m, u) := by
 unfold pfBr
 by_cases c : n.s + x.s < 18446744073709551616
 · rw [if_pos c]; exact .inr ⟨_, rfl⟩
 · rw [if_neg c]; exact .inl rfl
theorem pf_back1 {h : Nat} {p : Nd × Nat} (e : pfAt K s0 bare key nodes n0 (h + 1) = .ok p) : ∃ m u, pfAt K s0 bare key nodes n0 h = .ok (m, u) := by
 cases c : pfAt K s0 bare key nodes n0 h with
 | ok q => exact ⟨q.1, q.2, rfl⟩
 | error x =>
  have := pfAt_err c 1
  rw [this] at e; cases e
theorem pf_node {h u : Nat} {n m : Nd} {v : Nat} (e : pfAt K s0 bare key nodes n0 h = .ok (n, u)) (hb : bare h = false) (e' : pfAt K s0 bare key nodes n0 (h + 1) = .ok (m, v)) :
  ∃ x, nodes[u]? = some x ∧ ndSame x (emptyNd K s0 h) = false ∧ v = u + 1 ∧ pfBr K s0 key h n x (u + 1) = .ok (m, v) := by
 cases hx : nodes[u]? with
 | none => rw [pfAt_none h e hb hx] at e'; cases e'
 | some x =>
  cases hs : ndSame x (emptyNd K s0 h) with
  | true => rw [pfAt_form h e hb hx hs] at e'; cases e'
  | false =>
   rw [pfAt_node h e hb hx hs] at e'
   exact ⟨x, rfl, hs, (pfBr_ok e').1, e'⟩
theorem pf_bareS {h u : Nat} {n m : Nd} {v : Nat} (e : pfAt K s0 bare key nodes n0 h = .ok (n, u)) (hb : bare h = true) (e' : pfAt K s0 bare key nodes n0 (h + 1) = .ok (m, v)) :
  v = u ∧ pfBr K s0 key h n (emptyNd K s0 h) u = .ok (m, v) := by
 rw [pfAt_bare h e hb] at e'
 exact ⟨(pfBr_ok e').1, e'⟩
theorem pf_otherAt : ∀ (h : Nat) {m : Nd} {u : Nat}, pfAt K s0 bare key nodes n0 h = .ok (m, u) → pfAt K s0 bare key nodes n1 h = .error 10 ∨ ∃ m', pfAt K s0 bare key nodes n1 h = .ok (m', u)
 | 0, m, u, e => by
  injection e with e
  injection e with e1 e2
  subst e2
  exact .inr ⟨n1, rfl⟩
 | h + 1, m, v, e => by
  obtain ⟨n, u, e0⟩ := pf_back1 e
  rcases pf_otherAt h e0 with q | ⟨n', q⟩
  · exact .inl (pfAt_err q 1)
  · cases hb : bare h with
    | true =>
     obtain ⟨rfl, -⟩ := pf_bareS e0 hb e
     rcases pfBr_two (K := K) (s0 := s0) (key := key) h n' (emptyNd K s0 h) v with c | ⟨m', c⟩
     · exact .inl (by rw [pfAt_bare h q hb, c])
     · exact .inr ⟨m', by rw [pfAt_bare h q hb, c]⟩
    | false =>
     obtain ⟨x, hx, hs, rfl, -⟩ := pf_node e0 hb e
     rcases pfBr_two (K := K) (s0 := s0) (key := key) h n' x (u + 1) with c | ⟨m', c⟩
     · exact .inl (by rw [pfAt_node h q hb hx hs, c])
     · exact .inr ⟨m', by rw [pfAt_node h q hb hx hs, c]⟩
theorem pf_other {r : Nd} (hr : pfRoot K s0 bare key nodes n0 = .ok r) : pfRoot K s0 bare key nodes n1 = .error 10 ∨ ∃ m, pfRoot K s0 bare key nodes n1 = .ok m ∧ m.s = n1.s + (nodes.map (·.s)).sum := by
 obtain ⟨⟨u, hu, hl⟩, -⟩ := pf_back hr
 rcases pf_otherAt (n1 := n1) 256 hu with q | ⟨m', q⟩
 · exact .inl (pf_err (Nat.le_refl _) q)
 · have h : pfRoot K s0 bare key nodes n1 = .ok m' := by rw [pf_done q, if_neg (Nat.not_lt.2 hl)]
   exact .inr ⟨m', h, pf_sum h⟩
end
end
section
/- The plain law of CommitProves. -/

def moreL (l : LeafT) (x : Nat) : LeafT := ⟨l.id, x, l.ow, l.pl, ⟨l.sp.h, 18446744073709551615⟩⟩
theorem more_ok {l : LeafT} (h : l.ok) {x : Nat} (hx : x < 18446744073709551616) : (moreL l x).ok := ⟨h.id, hx, h.ow, h.lo, h.hi, h.sp, show (18446744073709551615 : Nat) < 18446744073709551616 by decide⟩
theorem more_in {K s0 : List Wd} {ls : List LeafT} {l : LeafT} {x : Nat} (h : Fine K s0 ls) (hl : l ∈ ls) (hm : moreL l x ≠ l) : moreL l x ∉ ls := fun e => hm (key_inj h.keys e hl rfl)
theorem amG_set {l : LeafT} (h : l.ok) (n : Nat) : l.cells.toArray.setIfInBounds 32 (.int .u64 (n : Int)) = ({ l with am := n } : LeafT).cells.toArray := by
 rw [List.setIfInBounds_toArray]
 refine congrArg List.toArray ?_
 unfold LeafT.cells
 rw [List.set_append_right _ _ (by rw [bcells_length, h.id.1]; exact Nat.le_refl _), bcells_length, h.id.1, Nat.sub_self, List.set_cons_zero]
theorem ssG_set {l : LeafT} (h : l.ok) (n : Nat) : l.cells.toArray.setIfInBounds 98 (.int .u64 (n : Int)) = ({ l with sp := ⟨l.sp.h, n⟩ } : LeafT).cells.toArray := by
 rw [List.setIfInBounds_toArray]
 refine congrArg List.toArray ?_
 unfold LeafT.cells ndV ncells
 rw [List.set_append_right _ _ (by rw [bcells_length, h.id.1]; decide), bcells_length, h.id.1, show 98 - 32 = 65 + 1 from rfl, List.set_cons_succ, List.set_append_right _ _ (by rw [bcells_length, h.ow.1]; decide), bcells_length, h.ow.1, show 65 - 32 = 32 + 1 from rfl, List.set_cons_succ,
  List.set_append_right _ _ (by rw [bcells_length, h.sp.1]; exact Nat.le_refl _), bcells_length, h.sp.1, Nat.sub_self, List.set_cons_zero]
theorem more_set {l : LeafT} (h : l.ok) {x : Nat} (hx : x < 18446744073709551616) : (l.cells.toArray.setIfInBounds 32 (.int .u64 (x : Int))).setIfInBounds 98 (.int .u64 18446744073709551615) = (moreL l x).cells.toArray := by
 rw [amG_set h x]
 have h2 : ({ l with am := x } : LeafT).ok := ⟨h.id, hx, h.ow, h.lo, h.hi, h.sp, h.ss⟩
 exact ssG_set h2 18446744073709551615
theorem and_1023C (n : Int) (h1 : -9223372036854775808 ≤ n) (h2 : n ≤ 9223372036854775807) : bits BinOp.and .i64 n 1023 = n % 1024 := by
 unfold bits
 have e : (BitVec.ofInt IntKind.i64.bits n &&& BitVec.ofInt IntKind.i64.bits 1023).toNat = (n % 1024).toNat := by
  show (BitVec.ofInt 64 n &&& BitVec.ofInt 64 1023).toNat = _
  rw [BitVec.toNat_and, BitVec.toNat_ofInt, BitVec.toNat_ofInt]
  have h31 : ((1023 : Int) % ((2 ^ 64 : Nat) : Int)).toNat = 2 ^ 10 - 1 := by decide
  rw [h31, Nat.and_two_pow_sub_one_eq_mod]
  have : ((2 ^ 64 : Nat) : Int) = 18446744073709551616 := by decide
  rw [this]
  show _ % 1024 = _
  omega
 simp only [e]
 rw [IntKind.wrap_i64]
 omega
theorem nodesF_cnt {K s0 : List Wd} {f : Nat → Nd} : ∀ h, (nodesF K s0 f h).length = cntF (bareF K s0 f) h
 | 0 => rfl
 | h + 1 => by
  rw [nodesF_succ, List.length_append, nodesF_cnt h]
  by_cases e : bareF K s0 f h = true
  · rw [if_pos e, cnt_bare e]; rfl
  · rw [if_neg e, cnt_node (by simpa using e)]; rfl
variable {K s0 : List Wd} {T U : List Lf} {key key' : List Nat} {N : Nat} {w : World} {p q p' q' : Pf} {l : LeafT}
theorem of_len (ho : p.Of K s0 T key N w) : p.xs.length ≤ 256 ∧ p.n ≤ 256 := by
 have h1 : p.xs.length ≤ 256 := by rw [ho.nodes]; exact nodesF_len 256
 exact ⟨h1, by rw [← ho.at_.nodes.len]; exact h1⟩
theorem of_dec (ho : p.Of K s0 T key N w) : decE (pbytes p.b p.xs) = 0 ∧ decB (pbytes p.b p.xs) = p.b ∧ decX (pbytes p.b p.xs) = p.xs := by
 have hc : p.xs.length = cntF (bareB p.b) 256 := by
  rw [ho.nodes, nodesF_cnt]
  exact (cnt_congr (fun j hj => ho.bits j hj)).symm
 have h := dec_written ho.at_.hash.1 ho.at_.nodes.hash ho.at_.nodes.fits
 rw [if_neg (by omega), if_neg (by omega)] at h
 obtain ⟨h1, h2, h3⟩ := dec_okE h
 exact ⟨h1, by rw [h2, pbytes_head ho.at_.hash.1], h3⟩
theorem of_bytes (ho : p.Of K s0 T key N w) : (pbytes p.b p.xs).length ≤ 65536 := by
 rw [pbytes_len ho.at_.hash.1 _ ho.at_.nodes.hash]
 have := (of_len ho).1
 omega
theorem wdec_ways (hp : p.Of K s0 T key N w) (hq : q.Of K s0 U key' N w) : wdec (waysB (pbytes p.b p.xs) (pbytes q.b q.xs)) = .ok (pbytes p.b p.xs, pbytes q.b q.xs) := by
 have h := dec_enc (fun r hr => by
  simp only [waysR, List.mem_cons, List.not_mem_nil, or_false] at hr
  rcases hr with rfl | rfl
  · exact show (0 : Nat) < 18446744073709551616 by decide
  · exact show (2 : Nat) < 18446744073709551616 by decide) (enc_ways p q (of_bytes hp) (of_bytes hq))
 unfold wdec
 rw [h]
 show wdR (waysR p q) = _
 unfold wdR
 have e0 : rec_ (waysR p q) 0 = ⟨0, pbytes p.b p.xs⟩ := rfl
 have e1 : rec_ (waysR p q) 1 = ⟨2, pbytes q.b q.xs⟩ := rfl
 have e2 : (waysR p q).length = 2 := rfl
 rw [e0, e1, e2, if_neg (by simp), if_neg (by rw [(of_dec hp).1]; decide), if_neg (by rw [(of_dec hq).1]; decide)]
theorem lead_same (h1 : p'.b = p.b) (h2 : p'.xs = p.xs) (h3 : q'.b = q.b) (h4 : q'.xs = q.xs) : leadR K s0 p' q' l = leadR K s0 p q l := by
 unfold leadR lowR highR
 rw [h1, h2, h3, h4]
theorem lead_bad (h : leafBad l = true) : leadR K s0 p q l = .error 1 := by unfold leadR; rw [if_pos h]
theorem low_more {x : Nat} {r : Nd} (hr : lowR K s0 p l = .ok r) : lowR K s0 p (moreL l x) = .error 10 ∨ ∃ m, lowR K s0 p (moreL l x) = .ok m ∧ (m.s = r.s ↔ x = l.am) := by
 rcases pf_other (n1 := leafNd K s0 (leafB (moreL l x)) x) hr with h | ⟨m, h1, h2⟩
 · exact .inl h
 · refine .inr ⟨m, h1, ?_⟩
   have h3 := pf_sum hr
   have e1 : (leafNd K s0 (leafB (moreL l x)) x).s = x := rfl
   have e2 : (leafNd K s0 (leafB l) l.am).s = l.am := rfl
   omega
theorem Pf.At.keptN {p : Pf} {S : Nat → Prop} {w w' : World} (h : p.At w) (hk : Kept S w w') (hs : 0 < p.n → ∀ A, p.a = some A → ¬ S A.block) : p.At w' := ⟨h.hash, h.nodes.keptN hk (fun h0 A e => hs h0 A e), h.cap⟩
theorem Pf.At.lt {p : Pf} {w : World} (h : p.At w) : 0 < p.n → ∀ A, p.a = some A → A.block < w.heap.size := fun h0 A e => by
 obtain ⟨b, o, e2, hb, _⟩ := h.nodes.at_ h0
 rw [e] at e2
 injection e2 with e2
 rw [e2]
 exact hb
theorem waysB_lt (hp : ∀ y ∈ pbytes p.b p.xs, y < 256) (hq : ∀ y ∈ pbytes q.b q.xs, y < 256) : ∀ y ∈ waysB (pbytes p.b p.xs) (pbytes q.b q.xs), y < 256 := by
 intro y hy
 rcases List.mem_append.1 hy with h | h
 · exact recB_lt _ hp y h
 · exact recB_lt _ hq y h
theorem recB_few (r : Rec) (h : r.v.length ≤ 65536) : (recB r).length ≤ 65554 := by
 unfold recB
 rw [List.length_append, List.length_append]
 have h1 := (szB_len r.t).1
 have h2 := (szB_len r.v.length).1
 omega
theorem waysB_few (hp : (pbytes p.b p.xs).length ≤ 65536) (hq : (pbytes q.b q.xs).length ≤ 65536) : (waysB (pbytes p.b p.xs) (pbytes q.b q.xs)).length ≤ 200000 := by
 unfold waysB
 rw [List.length_append]
 have h1 := recB_few ⟨0, pbytes p.b p.xs⟩ hp
 have h2 := recB_few ⟨2, pbytes q.b q.xs⟩ hq
 omega
theorem cz_prove {w : World} {g : Nat} {ls : List LeafT} {S : Nat → Prop} (h : Cz N w g ls S) (hT : Tabs KS SS w) (hN : 2 + 1 ≤ N) (l : LeafT) (hl : l.ok) :
   Calls Tryz.prog 33 #[.pointer (some ⟨g, 0, none⟩), .agg l.cells.toArray] w fun e w' => ∃ p q : Pf, e = .returned (.tuple #[.agg (waysC p q).toArray, .int .i64 (if l ∈ ls then 0 else 5)]) ∧ p.At w' ∧ q.At w' ∧ Cz N w' g ls S ∧ Kept S w w' ∧
    (l ∈ ls → ∃ T, p.Of KS SS (lowT KS SS ls l.id) (keyK KS SS l) w.heap.size w' ∧ T.Perm (topT KS SS ls) ∧ q.Of KS SS T l.id w.heap.size w') := by
 obtain ⟨⟨m0, m1, E, Z, hc⟩, hz⟩ := h
 refine (coProve_at hc hT (fun k e => Nat.le_trans hN (hz k e).1) l hl).mono fun e w' hm => ?_
 obtain ⟨h1, h2, h3⟩ := hm
 have hk : Kept S w w' := h2.mono (fun k _ ⟨e, he, hk⟩ => (hc.zone e he k hk).2.1)
 have hcz : Cz N w' g ls S := ⟨⟨m0, m1, E, Z, h1⟩, fun k e => ⟨(hz k e).1, Nat.lt_of_lt_of_le (hz k e).2 hk.size⟩⟩
 rcases h3 with ⟨hin, p, q, T, h4, h5, h6, h7⟩ | ⟨hno, p, q, h4, _, _, h5, h6⟩
 · exact ⟨p, q, by rw [if_pos hin]; exact h4, h5.at_, h7.at_, hcz, hk, fun _ => ⟨T, h5, h6, h7⟩⟩
 · exact ⟨p, q, by rw [if_neg hno]; exact h4, h5, h6, hcz, hk, fun e => absurd e hno⟩
end
end Go.Proofs.YtknfbccbdiidjaaGreatDoor
