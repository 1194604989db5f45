/- How a script of steps, a step and a leaf are read off the arguments. -/
import Derived.Test.YtcpomddkehhkkaaDoorSome3
import Derived.Test.YtcpomddkehhkkaaDoorRead
namespace Go.Proofs.YtcpomddkehhkkaaDoor
set_option linter.unusedVariables false
set_option linter.unusedSimpArgs false
open Go.ChangeShapes Go.WideShapes Go.ChangeAt Go.RowKit Go.Maps

section
variable {H : Type} {enc : TypeId × Value → H} {P : Program} {w : World} {base : Nat} {spare : Nat → Bool} {held : Bool}
/-- 32 cells that read as a [32]byte. -/
theorem hash_cells {t e m : Nat} {cs : List Value} {y : Option (DataW H × List MemPlace)} (ht : P.underlying t = some (.array 32 e)) (he : P.underlying e = some (.int .u8)) (h1 : P.cellsOf e = 1) (h32 : P.cellsOf t = 32)
    (h : DataW.trod enc P w base spare held m t cs = y) (hy : y.isSome = true) : ∃ ks, cs = bcells ks ∧ IsHash ks := by
  obtain ⟨z, rfl⟩ := Option.isSome_iff_exists.1 hy
  obtain ⟨xs, m, _, hx, hlen, hn, hall⟩ := DataW.trod_array ht h
  rw [h32] at hlen
  obtain ⟨e1, e2⟩ := bytes_of_cells cs hlen (by
    intro i hi
    have := hall i hi
    rw [h1, Nat.mul_one, List.getElem?_eq_getElem (by omega)] at this
    obtain ⟨n, hn1, _, hw⟩ := DataW.trod_int he this
    rw [List.drop_eq_getElem_cons (by omega)] at hn1
    simp only [List.take_succ_cons, List.take_zero, List.cons.injEq, and_true] at hn1
    have hb := bounds_u8 hw
    refine ⟨n.toNat, ?_, by omega⟩
    rw [List.getElem?_eq_getElem (by omega), hn1, Int.toNat_of_nonneg hb.1])
  exact ⟨cs.map u8Of, e1, e2⟩
theorem hash_cut {t e m i : Nat} {cs : List Value} {y : Option (DataW H × List MemPlace)} (ht : P.underlying t = some (.array 32 e)) (he : P.underlying e = some (.int .u8)) (h1 : P.cellsOf e = 1) (h32 : P.cellsOf t = 32)
    (h : DataW.trod enc P w base spare held m t ((cs.drop i).take (P.cellsOf t)) = y) (hy : y.isSome = true) : ∃ ks, (cs.drop i).take 32 = bcells ks ∧ IsHash ks := by
  have := hash_cells ht he h1 h32 h hy
  rwa [h32] at this
theorem int_cut {k : IntKind} {t m i : Nat} {cs : List Value} {y : Option (DataW H × List MemPlace)} (ht : P.underlying t = some (.int k)) (h1 : P.cellsOf t = 1) (h : DataW.trod enc P w base spare held m t ((cs.drop i).take (P.cellsOf t)) = y) (hy : y.isSome = true) :
    ∃ n, (cs.drop i).take 1 = [.int k n] ∧ (Lit.int k n).wf = true := by
  obtain ⟨z, rfl⟩ := Option.isSome_iff_exists.1 hy
  obtain ⟨n, hn, _, hw⟩ := DataW.trod_int ht h
  rw [h1] at hn
  exact ⟨n, hn, hw⟩
theorem slice_cut {t e m i : Nat} {cs : List Value} {y : Option (DataW H × List MemPlace)} (ht : P.underlying t = some (.slice e)) (h1 : P.cellsOf t = 1) (h : DataW.trod enc P w base spare held m t ((cs.drop i).take (P.cellsOf t)) = y) (hy : y.isSome = true) :
    ∃ A n c z, (cs.drop i).take 1 = [.slice A n c] ∧ DataW.trod enc P w base spare held m t [.slice A n c] = some z := by
  obtain ⟨z, rfl⟩ := Option.isSome_iff_exists.1 hy
  obtain ⟨A, n, c, hc⟩ := read_bytes_head ht h
  refine ⟨A, n, c, z, by rw [h1] at hc; exact hc, by rw [← hc]; exact h⟩
/-- a slice of bytes among the arguments. -/
theorem open_bytes {t e m : Nat} {A : Option Addr} {n c : Nat} {z : DataW H × List MemPlace} (ht : P.underlying t = some (.slice e)) (he : P.underlying e = some (.int .u8)) (h1 : P.cellsOf e = 1) (h : DataW.trod enc P w base spare held m t [.slice A n c] = some z) :
    ∃ bs : List Nat, bs.length = n ∧ n ≤ 9223372036854775807 ∧ Bytes w w.heap.size (.slice A n c) bs := by
  rcases Deep.open_slice1 ht h1 h with ⟨e0, _⟩ | ⟨a, len, cap, m2, n2, V, D, Pl, e0, hb, hl, hm, hmm, _, hall⟩
  · injection e0 with e0 _
    injection e0 with e1 e2 e3
    subst e1; subst e2; subst e3
    exact ⟨[], rfl, by decide, none, 0, rfl, Nat.le_refl _, (fun x hx => by cases hx), fun h => absurd h (by decide)⟩
  · injection e0 with e0 _
    injection e0 with e1 e2 e3
    subst e1; subst e2; subst e3
    have hnm : n ≤ m2 := by rw [hmm]; split <;> omega
    have hV : ∀ i, i < n → ∃ x : Nat, V i = .int .u8 (x : Int) ∧ x < 256 := fun i hi => by
      obtain ⟨x, hx, _, hw⟩ := DataW.trod_int he (hall i (by omega)).2
      injection hx with hx _
      have hb := bounds_u8 hw
      exact ⟨x.toNat, by rw [hx, Int.toNat_of_nonneg hb.1], by omega⟩
    refine ⟨(List.range n).map fun i => u8Of (V i), by simp, by unfold maxLen at hm; omega, some a, c, by simp, by simpa using hl, fun x hx => ?_, fun h0 => ?_⟩
    · obtain ⟨i, hi, rfl⟩ := List.mem_map.1 hx
      obtain ⟨y, hy, hlt⟩ := hV i (List.mem_range.1 hi)
      rw [hy]
      simpa [u8Of] using hlt
    · have hn0 : 0 < n := by simpa using h0
      have hc0 := (hall 0 (by omega)).1
      have ea : a.add 0 = a := by simp [Addr.add]
      rw [ea] at hc0
      have hlt := World.block_lt_of_cell? w _ hc0
      have hsp : a.spot = none := by
        unfold World.cell? at hc0
        split at hc0
        · split at hc0
          · cases hc0
          · rename_i hs
            cases hsp : a.spot
            · rfl
            · rw [hsp] at hs; simp at hs
        · cases hc0
      refine ⟨a.block, a.off, by cases a; simp at hsp; simp [hsp], by omega, fun i hi => ?_⟩
      have hi' : i < n := by simpa using hi
      obtain ⟨y, hy, hyl⟩ := hV i hi'
      have hc := (hall i (by omega)).1
      rw [hy] at hc
      have e3 : a.add i = ⟨a.block, a.off + i, none⟩ := by
        cases a
        simp at hsp
        subst hsp
        unfold Addr.add
        by_cases h1 : i = 0 <;> simp [h1]
      rw [e3] at hc
      rw [hc]
      simp [List.getD, hi', hy, u8Of]
end
theorem cut_list (l : List Value) (i n : Nat) : l.drop i = (l.drop i).take n ++ l.drop (i + n) := by
  rw [← List.drop_drop]; exact (List.take_append_drop n (l.drop i)).symm

section
variable {H : Type} {enc : TypeId × Value → H} {w : World} {base : Nat} {spare : Nat → Bool} {held : Bool}
/-- a leaf's two cells. -/
theorem open_leaf {m : Nat} {cs : List Value} {y : Option (DataW H × List MemPlace)} (h : DataW.trod enc Tryd.prog w base spare held m 25 cs = y) (hy : y.isSome = true) (hl : cs.length = 2) :
    ∃ (A : Option Addr) (bs : List Nat) (c s : Nat), cs = [.slice A bs.length c, .int .u64 (s : Int)] ∧ s < 18446744073709551616 ∧ bs.length ≤ 9223372036854775807 ∧ Bytes w w.heap.size (.slice A bs.length c) bs := by
  obtain ⟨z, rfl⟩ := Option.isSome_iff_exists.1 hy
  obtain ⟨xs, m2, _, _, _, hn, hf⟩ := DataW.trod_struct Tryd.underlying25 h
  have hn2 : xs.length = 2 := hn
  have hsome : ∀ j, j < 2 → (xs[j]?).isSome = true := fun j hj => by rw [List.getElem?_eq_getElem (by omega)]; rfl
  obtain ⟨A, n, c, z0, e0, h0⟩ := slice_cut (i := 0) Tryd.underlying22 (by kernel_rfl) (hf 0 _ rfl) (hsome 0 (by decide))
  obtain ⟨a1, e1, w1⟩ := int_cut (i := 1) Tryd.underlying23 (by kernel_rfl) (hf 1 _ rfl) (hsome 1 (by decide))
  obtain ⟨bs, rfl, hb2, hb3⟩ := open_bytes Tryd.underlying22 Tryd.underlying5 (by kernel_rfl) h0
  have hb := bounds_u64 w1
  obtain ⟨n1, rfl⟩ : ∃ n : Nat, a1 = n := ⟨a1.toNat, by omega⟩
  refine ⟨A, bs, c, n1, ?_, by omega, hb2, hb3⟩
  have f0 := cut_list cs 0 1
  have f1 := cut_list cs 1 1
  have f2 : cs.drop 2 = [] := List.drop_eq_nil_of_le (by omega)
  simp only [Nat.reduceAdd] at f0 f1
  rw [e0] at f0
  rw [e1, f2] at f1
  rw [f1] at f0
  rw [List.drop_zero] at f0
  exact f0
theorem leaf_cut {m i : Nat} {cs : List Value} {y : Option (DataW H × List MemPlace)} (h : DataW.trod enc Tryd.prog w base spare held m 25 ((cs.drop i).take (Tryd.prog.cellsOf 25)) = y) (hy : y.isSome = true) (hl : i + 2 ≤ cs.length) :
    ∃ (A : Option Addr) (bs : List Nat) (c s : Nat), (cs.drop i).take 2 = [.slice A bs.length c, .int .u64 (s : Int)] ∧ s < 18446744073709551616 ∧ bs.length ≤ 9223372036854775807 ∧ Bytes w w.heap.size (.slice A bs.length c) bs := by
  have c4 : Tryd.prog.cellsOf 25 = 2 := by kernel_rfl
  rw [c4] at h
  exact open_leaf h hy (by rw [List.length_take, List.length_drop]; omega)
/-- a step's 35 cells. -/
theorem open_op {m : Nat} {cs : List Value} {y : Option (DataW H × List MemPlace)} (h : DataW.trod enc Tryd.prog w base spare held m 71 cs = y) (hy : y.isSome = true) (hl : cs.length = 35) :
    ∃ o : OpT, cs = o.cells ∧ o.ok w := by
  obtain ⟨z, rfl⟩ := Option.isSome_iff_exists.1 hy
  obtain ⟨xs, m2, _, _, _, hn, hf⟩ := DataW.trod_struct Tryd.underlying71 h
  have hn3 : xs.length = 3 := hn
  have hsome : ∀ j, j < 3 → (xs[j]?).isSome = true := fun j hj => by rw [List.getElem?_eq_getElem (by omega)]; rfl
  obtain ⟨a0, e0, w0⟩ := int_cut (i := 0) Tryd.underlying3 (by kernel_rfl) (hf 0 _ rfl) (hsome 0 (by decide))
  obtain ⟨k, e1, w1⟩ := hash_cut (i := 1) Tryd.underlying27 Tryd.underlying5 (by kernel_rfl) (by kernel_rfl) (hf 1 _ rfl) (hsome 1 (by decide))
  obtain ⟨A, bs, c, s, e2, hs, hb, hby⟩ := leaf_cut (i := 33) (hf 2 _ rfl) (hsome 2 (by decide)) (by omega)
  refine ⟨⟨a0, ⟨k, A, c, bs, s, w1⟩⟩, ?_, w1, hs, hb, hby⟩
  have f0 := cut_list cs 0 1
  have f1 := cut_list cs 1 32
  have f2 := cut_list cs 33 2
  have f3 : cs.drop 35 = [] := List.drop_eq_nil_of_le (by omega)
  simp only [Nat.reduceAdd] at f0 f1 f2
  rw [e0] at f0
  rw [e1] at f1
  rw [e2, f3] at f2
  rw [f2] at f1
  rw [f1] at f0
  rw [List.drop_zero] at f0
  rw [f0]
  simp [OpT.cells, Sel.cells]
/-- a script among the arguments. -/
theorem open_ops {A : Option Addr} {n c : Nat} {d : DataW H} {p : List MemPlace} (h : DataW.Trod enc Tryd.prog w base spare held 59 (.slice A n c) d p) : ∃ os, OpsAt w A n os := by
  obtain ⟨hm, b, off, hA, hall⟩ := open_rows Tryd.underlying59 (k := 35) (by kernel_rfl) (by decide) h
  have ho : ∀ i, i < n → ∃ s : OpT, s.ok w ∧ w.rangeAt b (off + i * 35) s.cells := fun i hi => by
    obtain ⟨cs, m, x, hl, hc, htr⟩ := hall i hi
    obtain ⟨s, hs, hok⟩ := open_op htr rfl hl
    refine ⟨s, hok, fun j v hv => ?_⟩
    have hj := (List.getElem?_eq_some_iff.1 hv).1
    rw [OpT.len hok.key.1] at hj
    rw [hc j hj, hs]; exact hv
  have mk : ∀ m, m ≤ n → ∃ ss : List OpT, ss.length = m ∧ (∀ s ∈ ss, s.ok w) ∧ ∀ (i : Nat) s, ss[i]? = some s → w.rangeAt b (off + i * 35) s.cells := fun m => by
    induction m with
    | zero => exact fun _ => ⟨[], rfl, fun s hs => (by cases hs), fun i s hi => (by simp at hi)⟩
    | succ m ih =>
      intro hm
      obtain ⟨ss, h1, h2, h3⟩ := ih (by omega)
      obtain ⟨s, hs, hr⟩ := ho m (by omega)
      refine ⟨ss ++ [s], by simp [h1], fun t ht => ?_, fun i t hi => ?_⟩
      · rcases List.mem_append.1 ht with ht | ht
        · exact h2 t ht
        · rw [List.mem_singleton.1 ht]; exact hs
      · rcases Nat.lt_or_ge i m with hlt | hge
        · rw [List.getElem?_append_left (by omega)] at hi
          exact h3 i t hi
        · have hil := (List.getElem?_eq_some_iff.1 hi).1
          rw [List.length_append, h1] at hil
          have : i = m := by simp at hil; omega
          subst this
          rw [List.getElem?_append_right (by omega), h1, Nat.sub_self] at hi
          obtain rfl : s = t := by simpa using hi
          exact hr
  obtain ⟨ss, h1, h2, h3⟩ := mk n (Nat.le_refl _)
  refine ⟨ss, h1, by unfold maxLen at hm; omega, h2, fun hn => ⟨b, off, hA hn, ?_, h3⟩⟩
  obtain ⟨s, hs, hr⟩ := ho 0 hn
  exact World.block_lt_of_cell? w _ (hr 0 (.int .i64 s.K) rfl)
set_option maxRecDepth 100000 in
/-- a leaf by value. -/
theorem open_leafV {base' : Nat} {r : Reach} {v : Value} {d : DataW H} {p : List MemPlace} (hv : Value.okWide Tryd.prog w r base' 25 v) (h : DataW.Trod enc Tryd.prog w base spare held 25 v d p) :
    ∃ (A : Option Addr) (bs : List Nat) (c s : Nat), v = leafV (.slice A bs.length c) s ∧ s < 18446744073709551616 ∧ bs.length ≤ 9223372036854775807 ∧ Bytes w w.heap.size (.slice A bs.length c) bs := by
  obtain ⟨cs, rfl, hs⟩ := okWide_struct Tryd.underlying25 hv
  obtain ⟨fuel, hf⟩ := h
  have hf' : DataW.trod enc Tryd.prog w base spare held fuel 25 cs.toList = some (d, p) := by simpa [Value.cells] using hf
  have hc : Tryd.prog.cellsOf 25 = 2 := by kernel_rfl
  obtain ⟨A, bs, c, s, h1, h2, h3, h4⟩ := open_leaf hf' rfl (by rw [Array.length_toList, hs, hc])
  exact ⟨A, bs, c, s, by unfold leafV; rw [← h1], h2, h3, h4⟩
set_option maxRecDepth 100000 in
/-- a step by value. -/
theorem open_opV {base' : Nat} {r : Reach} {v : Value} {d : DataW H} {p : List MemPlace} (hv : Value.okWide Tryd.prog w r base' 71 v) (h : DataW.Trod enc Tryd.prog w base spare held 71 v d p) :
    ∃ o : OpT, v = .agg o.cells.toArray ∧ o.ok w := by
  obtain ⟨cs, rfl, hs⟩ := okWide_struct Tryd.underlying71 hv
  obtain ⟨fuel, hf⟩ := h
  have hf' : DataW.trod enc Tryd.prog w base spare held fuel 71 cs.toList = some (d, p) := by simpa [Value.cells] using hf
  have hc : Tryd.prog.cellsOf 71 = 35 := by kernel_rfl
  obtain ⟨o, h1, h2⟩ := open_op hf' rfl (by rw [Array.length_toList, hs, hc])
  exact ⟨o, by rw [← h1], h2⟩
end
/-- what stands in a tree that was built is something. -/
theorem build_some (xs : List Sel) : ∀ t ∈ buildT xs, ¬ (t.v.length = 0 ∧ t.s = 0) := by
  have go : ∀ (xs : List Sel) (T : List Lf), (∀ t ∈ T, ¬ (t.v.length = 0 ∧ t.s = 0)) → ∀ t ∈ xs.foldl (fun T x => putN T x.leaf) T, ¬ (t.v.length = 0 ∧ t.s = 0) := by
    intro xs
    induction xs with
    | nil => exact fun T h => h
    | cons x xs ih =>
      intro T h
      refine ih _ ?_
      intro t ht
      have ht : t ∈ putN T x.leaf := ht
      unfold putN at ht
      split at ht
      · next he =>
        rcases put_mem ht with rfl | ht
        · intro hz
          unfold putE at he
          rw [if_pos hz] at he
          cases he
        · exact h t ht
      · exact h t ht
  exact go xs [] (fun t ht => by cases ht)
theorem some_take_ok {w : World} {A : Option Addr} {n : Nat} {os : List OpT} (h : OpsAt w A n os) (m : Nat) : ∀ x ∈ someL m os, x.ok w := fun x hx => by
  obtain ⟨o, ho, rfl, hl⟩ := some_each m os x hx
  have hk := h.ok o ho
  exact ⟨hk.key, by have := pick_small o; omega, by show o.sel.v.length ≤ _; omega, hk.bytes⟩

theorem OpT.ok.below {w w' : World} {o : OpT} (h : o.ok w) (hb : Below w.heap.size w w') : o.ok w' := ⟨h.key, h.s, h.few, h.bytes.alive hb hb.size⟩
theorem OpsAt.below {w w' : World} {A : Option Addr} {n : Nat} {os : List OpT} (h : OpsAt w A n os) (hb : Below w.heap.size w w') : OpsAt w' A n os :=
  ⟨h.len, h.few, fun o ho => (h.ok o ho).below hb, fun hn => by
    obtain ⟨b, o, e, hlt, hr⟩ := h.at_ hn
    exact ⟨b, o, e, by have := hb.size; omega, fun i x hx => rangeAt_kept (hr i x hx) (Kept.of_below (S := fun _ => False) hb) (fun h => h)⟩⟩
theorem and_32 (n : Int) (hn : 0 ≤ n) : bits BinOp.and .u64 n 4294967295 = n % 4294967296 := by
  unfold bits
  have e : (BitVec.ofInt IntKind.u64.bits n &&& BitVec.ofInt IntKind.u64.bits 4294967295).toNat = (n % 4294967296).toNat := by
    show (BitVec.ofInt 64 n &&& BitVec.ofInt 64 4294967295).toNat = _
    rw [BitVec.toNat_and, BitVec.toNat_ofInt, BitVec.toNat_ofInt]
    have h31 : ((4294967295 : Int) % ((2 ^ 64 : Nat) : Int)).toNat = 2 ^ 32 - 1 := by decide
    rw [h31, Nat.and_two_pow_sub_one_eq_mod]
    have : ((2 ^ 64 : Nat) : Int) = 18446744073709551616 := by decide
    rw [this]
    show _ % 4294967296 = _
    omega
  simp only [e]
  rw [IntKind.wrap_u64]
  omega
theorem and_16 (n : Int) (hn : 0 ≤ n) : bits BinOp.and .u64 n 65535 = n % 65536 := by
  unfold bits
  have e : (BitVec.ofInt IntKind.u64.bits n &&& BitVec.ofInt IntKind.u64.bits 65535).toNat = (n % 65536).toNat := by
    show (BitVec.ofInt 64 n &&& BitVec.ofInt 64 65535).toNat = _
    rw [BitVec.toNat_and, BitVec.toNat_ofInt, BitVec.toNat_ofInt]
    have h31 : ((65535 : Int) % ((2 ^ 64 : Nat) : Int)).toNat = 2 ^ 16 - 1 := by decide
    rw [h31, Nat.and_two_pow_sub_one_eq_mod]
    have : ((2 ^ 64 : Nat) : Int) = 18446744073709551616 := by decide
    rw [this]
    show _ % 65536 = _
    omega
  simp only [e]
  rw [IntKind.wrap_u64]
  omega

section
variable {K s0 : List Wd} {S : Nat → Prop} {w : World} {g : Nat} {T : List Lf}
theorem tr_get (h : Tr K s0 S w g T) (k : List Nat) (hk : IsHash k) :
    Calls Tryd.prog 35 #[.pointer (some ⟨g, 0, none⟩), arr k] w fun e w' => ∃ v', e = .returned (.tuple #[leafV v' (wasS T k), .bool (findT T k).isSome]) ∧ RowB (fun j => w.heap.size ≤ j) w' v' (valT T k) ∧ Below w.heap.size w w' := by
  obtain ⟨m, es, h⟩ := h
  exact get_is w h k hk
theorem tr_drop (h : Tr K s0 S w g T) (hl8 : s0.length = 8) (k : List Nat) (hk : IsHash k) :
    Calls Tryd.prog 34 #[.pointer (some ⟨g, 0, none⟩), arr k] w fun e w' => e = .returned (.bool (findT T k).isSome) ∧ Tr K s0 S w' g (dropT T k) ∧ Kept S w w' := by
  obtain ⟨m, es, h⟩ := h
  exact (drop_is w h hl8 k hk).mono fun e w' ⟨h1, ⟨es', h2⟩, h3⟩ => ⟨h1, ⟨m, es', h2⟩, h3.mono fun k _ e => e.elim (fun e => e ▸ h.zg) (fun e => e ▸ h.zm)⟩
end
end Go.Proofs.YtcpomddkehhkkaaDoor
