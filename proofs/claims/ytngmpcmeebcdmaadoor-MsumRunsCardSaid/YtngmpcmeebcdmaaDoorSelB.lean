/- The laws' helper tree: leaves at keys are put into a new tree. -/
import Derived.Test.YtngmpcmeebcdmaaDoorTrG
import Derived.Deep.WholeRow
import Derived.Test.YtngmpcmeebcdmaaDoorRnEq
import Derived.Deep.CutBlock
import Derived.DeepKeys
import Derived.ChangeKeysEq
import Derived.Laws.StructEq
import Derived.Test.YtngmpcmeebcdmaaDoorOpenB
namespace Go.Proofs.YtngmpcmeebcdmaaDoor
set_option linter.unusedVariables false
set_option linter.unusedSimpArgs false
open Go.ChangeShapes Go.WideShapes Go.ChangeAt Go.RowKit Go.Maps

/-- a leaf at a key, as the reference has it: its bytes lie where they lie. -/
structure Sel where
  key : List Nat
  a : Option Addr
  c : Nat
  v : List Nat
  s : Nat
  h : IsHash key
theorem z32k : IsHash (List.replicate 32 0) := ⟨List.length_replicate, fun k hk => by rw [List.eq_of_mem_replicate hk]; decide⟩
def Sel.cells (x : Sel) : List Value := bcells x.key ++ [.slice x.a x.v.length x.c, .int .u64 (x.s : Int)]
def Sel.leaf (x : Sel) : Lf := ⟨x.key, x.v, x.s⟩
structure Sel.ok (w : World) (x : Sel) : Prop where
  key : IsHash x.key
  s : x.s < 18446744073709551616
  short : x.v.length ≤ 1000
  bytes : Bytes w w.heap.size (.slice x.a x.v.length x.c) x.v
theorem Sel.ok.below {w w' : World} {x : Sel} (h : x.ok w) (hb : Below w.heap.size w w') : x.ok w' := ⟨h.key, h.s, h.short, h.bytes.alive hb hb.size⟩
theorem Sel.len {x : Sel} (h : x.key.length = 32) : x.cells.length = 34 := by simp [Sel.cells, bcells_length, h]
theorem Sel.one (x : Sel) : ∀ v ∈ x.cells, v.oneCell' = true := by
  intro v hv
  rcases List.mem_append.1 hv with h | h
  · exact bcells_oneC _ v h
  · simp only [List.mem_cons, List.not_mem_nil, or_false] at h
    rcases h with rfl | rfl <;> rfl
theorem Sel.len' (x : Sel) : x.cells.length = 34 := Sel.len x.h.1
/-- leaves in a row. -/
structure SelsAt (w : World) (A : Option Addr) (n : Nat) (xs : List Sel) : Prop where
  len : xs.length = n
  few : n ≤ 1000000
  ok : ∀ x ∈ xs, x.ok w
  at_ : 0 < n → ∃ b o, A = some ⟨b, o, none⟩ ∧ b < w.heap.size ∧ ∀ (i : Nat) x, xs[i]? = some x → w.rangeAt b (o + i * 34) x.cells
def buildT (xs : List Sel) : List Lf := xs.foldl (fun T x => putN T x.leaf) []
theorem buildT_take (xs : List Sel) (k : Nat) (x : Sel) (h : xs[k]? = some x) : buildT (xs.take (k + 1)) = putN (buildT (xs.take k)) x.leaf := by
  unfold buildT
  rw [List.take_add_one, h]
  simp [List.foldl_append]
theorem zero_sel : ∃ Z : Array Value, (∀ w, (zeroValue 38).run Tryd.prog w = .ok (.agg Z) w) ∧ Z.size = 34 ∧ ¬ Z = #[] := by
  have hs : (Sel.cells ⟨List.replicate 32 0, none, 0, [], 0, z32k⟩).toArray.size = 34 := by kernel_rfl
  exact ⟨_, fun w => by kernel_rfl, hs, fun e => by rw [e] at hs; cases hs⟩
theorem sel_get {x : Sel} (h : x.key.length = 32) : x.cells[32]? = some (.slice x.a x.v.length x.c) ∧ x.cells[33]? = some (.int .u64 (x.s : Int)) := by
  have l := bcells_length x.key
  rw [h] at l
  constructor
  · rw [Sel.cells, List.getElem?_append_right (by omega), l]; rfl
  · rw [Sel.cells, List.getElem?_append_right (by omega), l]; rfl
theorem sel_key {w : World} {G : Nat} {t : TypeId} {x : Sel} (h : Has w G t x.cells.toArray) : w.rangeAt G 0 (bcells x.key) := fun j u hu => by
  rw [Nat.zero_add]
  refine h.cell_is ?_
  rw [List.getElem?_toArray, Sel.cells, List.getElem?_append_left (List.getElem?_eq_some_iff.1 hu).1]
  exact hu

end Go.Proofs.YtngmpcmeebcdmaaDoor

/- The laws' helper some: leaves at keys, no key twice. -/
namespace Go.Proofs.YtngmpcmeebcdmaaDoor
set_option linter.unusedVariables false
set_option linter.unusedSimpArgs false
open Go.ChangeShapes Go.WideShapes Go.ChangeAt Go.RowKit Go.Maps

/-- a step of a script. -/
structure OpT where
  K : Int
  sel : Sel
def OpT.cells (o : OpT) : List Value := .int .i64 o.K :: o.sel.cells
structure OpT.ok (w : World) (o : OpT) : Prop where
  key : IsHash o.sel.key
  s : o.sel.s < 18446744073709551616
  few : o.sel.v.length ≤ 9223372036854775807
  bytes : Bytes w w.heap.size (.slice o.sel.a o.sel.v.length o.sel.c) o.sel.v
theorem OpT.len {o : OpT} (h : o.sel.key.length = 32) : o.cells.length = 35 := by simp [OpT.cells, Sel.len h]
theorem OpT.one (o : OpT) : ∀ v ∈ o.cells, v.oneCell' = true := by
  intro v hv
  rcases List.mem_cons.1 hv with rfl | h
  · rfl
  · exact Sel.one _ v h
/-- a script in memory. -/
structure OpsAt (w : World) (A : Option Addr) (n : Nat) (os : List OpT) : Prop where
  len : os.length = n
  few : n ≤ 9223372036854775807
  ok : ∀ o ∈ os, o.ok w
  at_ : 0 < n → ∃ b o, A = some ⟨b, o, none⟩ ∧ b < w.heap.size ∧ ∀ (i : Nat) x, os[i]? = some x → w.rangeAt b (o + i * 35) x.cells
def OpT.pick (o : OpT) : Sel := { o.sel with s := o.sel.s % 281474976710656 }
def skipS (m : Nat) (out : List Sel) (o : OpT) : Prop := m ≤ out.length ∨ 200 < o.sel.v.length ∨ (o.sel.v.length = 0 ∧ o.sel.s = 0)
instance (m : Nat) (out : List Sel) (o : OpT) : Decidable (skipS m out o) := inferInstanceAs (Decidable (_ ∨ _ ∨ _))
def knownS (out : List Sel) (o : OpT) : Bool := out.any fun x => decide (x.key = o.sel.key)
def stepS (m : Nat) (out : List Sel) (o : OpT) : List Sel := if skipS m out o then out else if knownS out o = true then out else out ++ [o.pick]
def someL (m : Nat) (os : List OpT) : List Sel := os.foldl (stepS m) []
theorem someL_take (m : Nat) (os : List OpT) (k : Nat) (o : OpT) (h : os[k]? = some o) : someL m (os.take (k + 1)) = stepS m (someL m (os.take k)) o := by
  unfold someL
  rw [List.take_add_one, h]
  simp [List.foldl_append]
theorem someL_len (m : Nat) (os : List OpT) : (someL m os).length ≤ m := by
  unfold someL
  have : ∀ (os : List OpT) (out : List Sel), out.length ≤ m → (os.foldl (stepS m) out).length ≤ m := by
    intro os
    induction os with
    | nil => exact fun out h => h
    | cons o os ih =>
      intro out h
      refine ih _ ?_
      unfold stepS
      split
      · exact h
      · next hs =>
        split
        · exact h
        · have : ¬ m ≤ out.length := fun e => hs (.inl e)
          rw [List.length_append]
          show out.length + 1 ≤ m
          omega
  exact this os [] (Nat.zero_le _)
theorem zero_op : ∃ Z : Array Value, (∀ w, (zeroValue 34).run Tryd.prog w = .ok (.agg Z) w) ∧ Z.size = 35 ∧ ¬ Z = #[] := by
  have hs : (OpT.cells ⟨0, ⟨List.replicate 32 0, none, 0, [], 0, z32k⟩⟩).toArray.size = 35 := by kernel_rfl
  exact ⟨_, fun w => by kernel_rfl, hs, fun e => by rw [e] at hs; cases hs⟩
theorem op_get {o : OpT} (h : o.sel.key.length = 32) : o.cells[33]? = some (.slice o.sel.a o.sel.v.length o.sel.c) ∧ o.cells[34]? = some (.int .u64 (o.sel.s : Int)) := sel_get h
theorem op_key {w : World} {G : Nat} {t : TypeId} {o : OpT} (h : Has w G t o.cells.toArray) : w.rangeAt G 1 (bcells o.sel.key) := fun j u hu => by
  refine h.cell_is ?_
  rw [List.getElem?_toArray, OpT.cells, Nat.add_comm 1 j, List.getElem?_cons_succ, Sel.cells, List.getElem?_append_left (List.getElem?_eq_some_iff.1 hu).1]
  exact hu
end Go.Proofs.YtngmpcmeebcdmaaDoor

/- The walk of the laws' helper some. -/
namespace Go.Proofs.YtngmpcmeebcdmaaDoor
set_option linter.unusedVariables false
set_option linter.unusedSimpArgs false
open Go.ChangeShapes Go.WideShapes Go.ChangeAt Go.RowKit Go.Maps

theorem and_48 (n : Int) (hn : 0 ≤ n) : bits BinOp.and .u64 n 281474976710655 = n % 281474976710656 := by
  unfold bits
  have e : (BitVec.ofInt IntKind.u64.bits n &&& BitVec.ofInt IntKind.u64.bits 281474976710655).toNat = (n % 281474976710656).toNat := by
    show (BitVec.ofInt 64 n &&& BitVec.ofInt 64 281474976710655).toNat = _
    rw [BitVec.toNat_and, BitVec.toNat_ofInt, BitVec.toNat_ofInt]
    have h31 : ((281474976710655 : Int) % ((2 ^ 64 : Nat) : Int)).toNat = 2 ^ 48 - 1 := by decide
    rw [h31, Nat.and_two_pow_sub_one_eq_mod]
    have : ((2 ^ 64 : Nat) : Int) = 18446744073709551616 := by decide
    rw [this]
    show _ % 281474976710656 = _
    omega
  simp only [e]
  rw [IntKind.wrap_u64]
  omega
theorem info_sel : (Tryd.prog.info? 38).map (fun i => (i.zero, i.size, i.bytes)) = some (some (.agg (Sel.cells ⟨List.replicate 32 0, none, 0, [], 0, z32k⟩).toArray), 34, 64) := by kernel_rfl
theorem build_sel (D : List Nat) (hD : D.length = 32) (a : Option Addr) (n c : Nat) (s : Int) (w : World) : (Instr.build 38 #[(0, .agg (bcells D).toArray), (1, .slice a n c), (2, .int .u64 s)]).run Tryd.prog w = .ok (.agg (bcells D ++ [Value.slice a n c, Value.int .u64 s]).toArray) w := by
  match D, hD with
  | [d0, d1, d2, d3, d4, d5, d6, d7, d8, d9, d10, d11, d12, d13, d14, d15, d16, d17, d18, d19, d20, d21, d22, d23, d24, d25, d26, d27, d28, d29, d30, d31], _ => show _ = _; kernel_rfl
instance : Inhabited Sel := ⟨⟨List.replicate 32 0, none, 0, [], 0, z32k⟩⟩
/-- leaves that were gathered. -/
def Got (w : World) (B : Nat) (xs : List Sel) (ov : Value) (wr : World) : Prop :=
  (∃ a n c, ov = .slice a n c) ∧ wr.ownsRow B 38 34 ov xs.length (xs.flatMap Sel.cells) ∧ Below B w wr
theorem Got.below {w : World} {B : Nat} {xs : List Sel} {ov : Value} {wr w' : World} (h : Got w B xs ov wr) (hB : B ≤ wr.heap.size) (hb : Below wr.heap.size wr w') : Got w B xs ov w' :=
  ⟨h.1, own_kept h.2.1 (Kept.of_below (S := fun _ => False) hb) (fun _ _ h => h), h.2.2.trans (hb.mono hB)⟩

end Go.Proofs.YtngmpcmeebcdmaaDoor

/- The leaves that some gathers fit into a tree. -/
namespace Go.Proofs.YtngmpcmeebcdmaaDoor
set_option linter.unusedVariables false
set_option linter.unusedSimpArgs false
open Go.ChangeShapes Go.WideShapes Go.ChangeAt Go.RowKit Go.Maps

theorem put_sum_le (T : List Lf) (l : Lf) : sumT (putT T l) ≤ sumT T + l.s := by
  unfold sumT
  induction T with
  | nil => simp [putT]
  | cons t T ih =>
    unfold putT
    split
    · simp only [List.map_cons, List.sum_cons]; omega
    · simp only [List.map_cons, List.sum_cons]; omega
theorem put_len_le (T : List Lf) (l : Lf) : (putT T l).length ≤ T.length + 1 := by
  rw [put_len]
  split <;> omega
theorem put_fits {T : List Lf} {l : Lf} (hv : l.v.length ≤ 65536) (hn : T.length < 256) (hs : sumT T + l.s < 18446744073709551616) : putE T l = 0 ∨ (putE T l = 1 ∧ l.v.length = 0 ∧ l.s = 0) := by
  unfold putE
  by_cases h1 : l.v.length = 0 ∧ l.s = 0
  · exact .inr ⟨if_pos h1, h1.1, h1.2⟩
  · refine .inl ?_
    rw [if_neg h1, if_neg (by omega), if_neg (by omega), if_pos (by omega)]
theorem build_fits (xs : List Sel) (h : ∀ x ∈ xs, x.s < 281474976710656) : (buildT xs).length ≤ xs.length ∧ sumT (buildT xs) ≤ xs.length * 281474976710656 := by
  have go : ∀ (xs : List Sel) (T : List Lf), (∀ x ∈ xs, x.s < 281474976710656) → (xs.foldl (fun T x => putN T x.leaf) T).length ≤ T.length + xs.length ∧ sumT (xs.foldl (fun T x => putN T x.leaf) T) ≤ sumT T + xs.length * 281474976710656 := by
    intro xs
    induction xs with
    | nil => intro T _; simp
    | cons x xs ih =>
      intro T hx
      have hxs : x.s < 281474976710656 := hx x List.mem_cons_self
      have hstep : (putN T x.leaf).length ≤ T.length + 1 ∧ sumT (putN T x.leaf) ≤ sumT T + 281474976710656 := by
        unfold putN
        split
        · exact ⟨put_len_le _ _, Nat.le_trans (put_sum_le _ _) (by show _ + x.s ≤ _; omega)⟩
        · exact ⟨by omega, by omega⟩
      have := ih (putN T x.leaf) (fun y hy => hx y (List.mem_cons_of_mem _ hy))
      simp only [List.foldl_cons, List.length_cons]
      omega
  have h0 := go xs [] h
  have hz : sumT [] = 0 := rfl
  unfold buildT
  simp only [List.length_nil, hz] at h0
  omega
theorem pick_small (o : OpT) : o.pick.s < 281474976710656 := Nat.mod_lt _ (by decide)
theorem some_each (m : Nat) (os : List OpT) : ∀ x ∈ someL m os, ∃ o ∈ os, x = o.pick ∧ o.sel.v.length ≤ 200 := by
  have go : ∀ (os : List OpT) (out : List Sel) (P : Sel → Prop), (∀ x ∈ out, P x) → (∀ o ∈ os, o.sel.v.length ≤ 200 → P o.pick) → ∀ x ∈ os.foldl (stepS m) out, P x := by
    intro os
    induction os with
    | nil => exact fun out P h _ => h
    | cons o os ih =>
      intro out P h hp
      refine ih _ P ?_ (fun y hy => hp y (List.mem_cons_of_mem _ hy))
      intro x hx
      unfold stepS at hx
      split at hx
      · exact h x hx
      · next hs =>
        split at hx
        · exact h x hx
        · rcases List.mem_append.1 hx with hx | hx
          · exact h x hx
          · rw [List.mem_singleton.1 hx]
            refine hp o List.mem_cons_self ?_
            have : ¬ 200 < o.sel.v.length := fun e => hs (.inr (.inl e))
            omega
  exact go os [] _ (fun x hx => by cases hx) (fun o ho hl => ⟨o, ho, rfl, hl⟩)
/-- the leaves that some gathers fit into a tree, one after the other. -/
theorem some_fits (m : Nat) (hm : m ≤ 256) (os : List OpT) (k : Nat) (x : Sel) (hk : (someL m os)[k]? = some x) : putE (buildT ((someL m os).take k)) x.leaf = 0 ∨ (putE (buildT ((someL m os).take k)) x.leaf = 1 ∧ x.v.length = 0 ∧ x.s = 0) := by
  have hlen := someL_len m os
  have hkl := (List.getElem?_eq_some_iff.1 hk).1
  obtain ⟨o, -, rfl, ho⟩ := some_each m os x (List.mem_of_getElem? hk)
  have hb := build_fits ((someL m os).take k) (fun y hy => by
    obtain ⟨o', -, rfl, -⟩ := some_each m os y (List.mem_of_mem_take hy)
    exact pick_small o')
  have htl : ((someL m os).take k).length = k := by rw [List.length_take]; omega
  rw [htl] at hb
  have hp := pick_small o
  refine put_fits (l := o.pick.leaf) ?_ ?_ ?_
  · show o.sel.v.length ≤ 65536; omega
  · omega
  · show sumT _ + o.pick.s < _; omega
/-- no key twice. -/
theorem some_nodup (m : Nat) (os : List OpT) : ((someL m os).map (·.key)).Nodup := by
  have go : ∀ (os : List OpT) (out : List Sel), (out.map (·.key)).Nodup → ((os.foldl (stepS m) out).map (·.key)).Nodup := by
    intro os
    induction os with
    | nil => exact fun out h => h
    | cons o os ih =>
      intro out h
      refine ih _ ?_
      unfold stepS
      split
      · exact h
      · split
        · exact h
        · next hk =>
          rw [List.map_append, List.nodup_append]
          refine ⟨h, by simp, ?_⟩
          intro a ha b hb e
          rw [List.map_singleton, List.mem_singleton] at hb
          obtain ⟨x, hx, hxa⟩ := List.mem_map.1 ha
          refine hk (List.any_eq_true.2 ⟨x, hx, decide_eq_true ?_⟩)
          have : o.pick.key = o.sel.key := rfl
          rw [← this, ← hb, ← e]
          exact hxa
  exact go os [] List.nodup_nil
/-- gathered leaves lie as tree takes them. -/
theorem Got.sels {w wr : World} {xs : List Sel} {A : Option Addr} {n c : Nat} (h : Got w w.heap.size xs (.slice A n c) wr) (hok : ∀ x ∈ xs, x.ok w) (hn : xs.length ≤ 1000000) : SelsAt wr A n xs := by
  have hlen : n = xs.length := by
    rcases h.2.1.2 with ⟨e, h0⟩ | ⟨_, _, _, e, _⟩
    · injection e with e1 e2 e3 <;> omega
    · injection e with e1 e2 e3 <;> omega
  refine ⟨hlen.symm, by omega, fun x hx => (hok x hx).below h.2.2, fun hpos => ?_⟩
  obtain ⟨gs, cap, cur, e, hB, hh, h1, h2, h3, h4⟩ := own_open h.2.1 (by omega)
  injection e with e1 e2 e3
  refine ⟨gs, 0, e1, hh.lt, fun i x hi j u hu => ?_⟩
  have hj := (List.getElem?_eq_some_iff.1 hu).1
  rw [Sel.len'] at hj
  have hil := (List.getElem?_eq_some_iff.1 hi).1
  rw [Nat.zero_add]
  refine hh.cell_is ?_
  have hlt : i * 34 + j < xs.length * 34 := by
    have : (i + 1) * 34 ≤ xs.length * 34 := Nat.mul_le_mul_right 34 hil
    omega
  rw [h4 _ hlt, flat_getK Sel.cells 34 Sel.len' xs i j x hi hj]
  exact hu
end Go.Proofs.YtngmpcmeebcdmaaDoor

/- How a script of steps, a step and a leaf are read off the arguments. -/
namespace Go.Proofs.YtngmpcmeebcdmaaDoor
set_option linter.unusedVariables false
set_option linter.unusedSimpArgs false
open Go.ChangeShapes Go.WideShapes Go.ChangeAt Go.RowKit Go.Maps

section
variable {H : Type} {enc : TypeId × Value → H} {w : World} {base : Nat} {spare : Nat → Bool} {held : Bool}
/-- a step's 35 cells. -/
theorem open_op {m : Nat} {cs : List Value} {y : Option (DataW H × List MemPlace)} (h : DataW.trod enc Tryd.prog w base spare held m 34 cs = y) (hy : y.isSome = true) (hl : cs.length = 35) :
    ∃ o : OpT, cs = o.cells ∧ o.ok w := by
  obtain ⟨z, rfl⟩ := Option.isSome_iff_exists.1 hy
  obtain ⟨xs, m2, _, _, _, hn, hf⟩ := DataW.trod_struct Tryd.underlying34 h
  have hn3 : xs.length = 3 := hn
  have hsome : ∀ j, j < 3 → (xs[j]?).isSome = true := fun j hj => by rw [List.getElem?_eq_getElem (by omega)]; rfl
  obtain ⟨a0, e0, w0⟩ := int_cut (i := 0) Tryd.underlying3 (by kernel_rfl) (hf 0 _ rfl) (hsome 0 (by decide))
  obtain ⟨k, e1, w1⟩ := hash_cut (i := 1) Tryd.underlying28 Tryd.underlying5 (by kernel_rfl) (by kernel_rfl) (hf 1 _ rfl) (hsome 1 (by decide))
  obtain ⟨A, bs, c, s, e2, hs, hb, hby⟩ := leaf_cut (i := 33) (hf 2 _ rfl) (hsome 2 (by decide)) (by omega)
  refine ⟨⟨a0, ⟨k, A, c, bs, s, w1⟩⟩, ?_, w1, hs, hb, hby⟩
  have f0 := cut_list cs 0 1
  have f1 := cut_list cs 1 32
  have f2 := cut_list cs 33 2
  have f3 : cs.drop 35 = [] := List.drop_eq_nil_of_le (by omega)
  simp only [Nat.reduceAdd] at f0 f1 f2
  rw [e0] at f0
  rw [e1] at f1
  rw [e2, f3] at f2
  rw [f2] at f1
  rw [f1] at f0
  rw [List.drop_zero] at f0
  rw [f0]
  simp [OpT.cells, Sel.cells]
/-- a script among the arguments. -/
theorem open_ops {A : Option Addr} {n c : Nat} {d : DataW H} {p : List MemPlace} (h : DataW.Trod enc Tryd.prog w base spare held 22 (.slice A n c) d p) : ∃ os, OpsAt w A n os := by
  obtain ⟨hm, b, off, hA, hall⟩ := open_rows Tryd.underlying22 (k := 35) (by kernel_rfl) (by decide) h
  have ho : ∀ i, i < n → ∃ s : OpT, s.ok w ∧ w.rangeAt b (off + i * 35) s.cells := fun i hi => by
    obtain ⟨cs, m, x, hl, hc, htr⟩ := hall i hi
    obtain ⟨s, hs, hok⟩ := open_op htr rfl hl
    refine ⟨s, hok, fun j v hv => ?_⟩
    have hj := (List.getElem?_eq_some_iff.1 hv).1
    rw [OpT.len hok.key.1] at hj
    rw [hc j hj, hs]; exact hv
  have mk : ∀ m, m ≤ n → ∃ ss : List OpT, ss.length = m ∧ (∀ s ∈ ss, s.ok w) ∧ ∀ (i : Nat) s, ss[i]? = some s → w.rangeAt b (off + i * 35) s.cells := fun m => by
    induction m with
    | zero => exact fun _ => ⟨[], rfl, fun s hs => (by cases hs), fun i s hi => (by simp at hi)⟩
    | succ m ih =>
      intro hm
      obtain ⟨ss, h1, h2, h3⟩ := ih (by omega)
      obtain ⟨s, hs, hr⟩ := ho m (by omega)
      refine ⟨ss ++ [s], by simp [h1], fun t ht => ?_, fun i t hi => ?_⟩
      · rcases List.mem_append.1 ht with ht | ht
        · exact h2 t ht
        · rw [List.mem_singleton.1 ht]; exact hs
      · rcases Nat.lt_or_ge i m with hlt | hge
        · rw [List.getElem?_append_left (by omega)] at hi
          exact h3 i t hi
        · have hil := (List.getElem?_eq_some_iff.1 hi).1
          rw [List.length_append, h1] at hil
          have : i = m := by simp at hil; omega
          subst this
          rw [List.getElem?_append_right (by omega), h1, Nat.sub_self] at hi
          obtain rfl : s = t := by simpa using hi
          exact hr
  obtain ⟨ss, h1, h2, h3⟩ := mk n (Nat.le_refl _)
  refine ⟨ss, h1, by unfold maxLen at hm; omega, h2, fun hn => ⟨b, off, hA hn, ?_, h3⟩⟩
  obtain ⟨s, hs, hr⟩ := ho 0 hn
  exact World.block_lt_of_cell? w _ (hr 0 (.int .i64 s.K) rfl)
set_option maxRecDepth 100000 in
/-- a step by value. -/
theorem open_opV {base' : Nat} {r : Reach} {v : Value} {d : DataW H} {p : List MemPlace} (hv : Value.okWide Tryd.prog w r base' 34 v) (h : DataW.Trod enc Tryd.prog w base spare held 34 v d p) :
    ∃ o : OpT, v = .agg o.cells.toArray ∧ o.ok w := by
  obtain ⟨cs, rfl, hs⟩ := okWide_struct Tryd.underlying34 hv
  obtain ⟨fuel, hf⟩ := h
  have hf' : DataW.trod enc Tryd.prog w base spare held fuel 34 cs.toList = some (d, p) := by simpa [Value.cells] using hf
  have hc : Tryd.prog.cellsOf 34 = 35 := by kernel_rfl
  obtain ⟨o, h1, h2⟩ := open_op hf' rfl (by rw [Array.length_toList, hs, hc])
  exact ⟨o, by rw [← h1], h2⟩
end
/-- what stands in a tree that was built is something. -/
theorem build_some (xs : List Sel) : ∀ t ∈ buildT xs, ¬ (t.v.length = 0 ∧ t.s = 0) := by
  have go : ∀ (xs : List Sel) (T : List Lf), (∀ t ∈ T, ¬ (t.v.length = 0 ∧ t.s = 0)) → ∀ t ∈ xs.foldl (fun T x => putN T x.leaf) T, ¬ (t.v.length = 0 ∧ t.s = 0) := by
    intro xs
    induction xs with
    | nil => exact fun T h => h
    | cons x xs ih =>
      intro T h
      refine ih _ ?_
      intro t ht
      have ht : t ∈ putN T x.leaf := ht
      unfold putN at ht
      split at ht
      · next he =>
        rcases put_mem ht with rfl | ht
        · intro hz
          unfold putE at he
          rw [if_pos hz] at he
          cases he
        · exact h t ht
      · exact h t ht
  exact go xs [] (fun t ht => by cases ht)
theorem some_take_ok {w : World} {A : Option Addr} {n : Nat} {os : List OpT} (h : OpsAt w A n os) (m : Nat) : ∀ x ∈ someL m os, x.ok w := fun x hx => by
  obtain ⟨o, ho, rfl, hl⟩ := some_each m os x hx
  have hk := h.ok o ho
  exact ⟨hk.key, by have := pick_small o; omega, by show o.sel.v.length ≤ _; omega, hk.bytes⟩

theorem OpT.ok.below {w w' : World} {o : OpT} (h : o.ok w) (hb : Below w.heap.size w w') : o.ok w' := ⟨h.key, h.s, h.few, h.bytes.alive hb hb.size⟩
theorem OpsAt.below {w w' : World} {A : Option Addr} {n : Nat} {os : List OpT} (h : OpsAt w A n os) (hb : Below w.heap.size w w') : OpsAt w' A n os :=
  ⟨h.len, h.few, fun o ho => (h.ok o ho).below hb, fun hn => by
    obtain ⟨b, o, e, hlt, hr⟩ := h.at_ hn
    exact ⟨b, o, e, by have := hb.size; omega, fun i x hx => rangeAt_kept (hr i x hx) (Kept.of_below (S := fun _ => False) hb) (fun h => h)⟩⟩
theorem and_32 (n : Int) (hn : 0 ≤ n) : bits BinOp.and .u64 n 4294967295 = n % 4294967296 := by
  unfold bits
  have e : (BitVec.ofInt IntKind.u64.bits n &&& BitVec.ofInt IntKind.u64.bits 4294967295).toNat = (n % 4294967296).toNat := by
    show (BitVec.ofInt 64 n &&& BitVec.ofInt 64 4294967295).toNat = _
    rw [BitVec.toNat_and, BitVec.toNat_ofInt, BitVec.toNat_ofInt]
    have h31 : ((4294967295 : Int) % ((2 ^ 64 : Nat) : Int)).toNat = 2 ^ 32 - 1 := by decide
    rw [h31, Nat.and_two_pow_sub_one_eq_mod]
    have : ((2 ^ 64 : Nat) : Int) = 18446744073709551616 := by decide
    rw [this]
    show _ % 4294967296 = _
    omega
  simp only [e]
  rw [IntKind.wrap_u64]
  omega
theorem and_16 (n : Int) (hn : 0 ≤ n) : bits BinOp.and .u64 n 65535 = n % 65536 := by
  unfold bits
  have e : (BitVec.ofInt IntKind.u64.bits n &&& BitVec.ofInt IntKind.u64.bits 65535).toNat = (n % 65536).toNat := by
    show (BitVec.ofInt 64 n &&& BitVec.ofInt 64 65535).toNat = _
    rw [BitVec.toNat_and, BitVec.toNat_ofInt, BitVec.toNat_ofInt]
    have h31 : ((65535 : Int) % ((2 ^ 64 : Nat) : Int)).toNat = 2 ^ 16 - 1 := by decide
    rw [h31, Nat.and_two_pow_sub_one_eq_mod]
    have : ((2 ^ 64 : Nat) : Int) = 18446744073709551616 := by decide
    rw [this]
    show _ % 65536 = _
    omega
  simp only [e]
  rw [IntKind.wrap_u64]
  omega

end Go.Proofs.YtngmpcmeebcdmaaDoor
