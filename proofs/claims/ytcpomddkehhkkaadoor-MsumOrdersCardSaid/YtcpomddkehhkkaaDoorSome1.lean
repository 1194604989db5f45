/- The laws' helper some: leaves at keys, no key twice. -/
import Derived.Test.YtcpomddkehhkkaaDoorSome0
import Derived.Deep.CutBlock
import Derived.DeepKeys
import Derived.ChangeKeysEq
import Derived.Laws.StructEq
namespace Go.Proofs.YtcpomddkehhkkaaDoor
set_option linter.unusedVariables false
set_option linter.unusedSimpArgs false
open Go.ChangeShapes Go.WideShapes Go.ChangeAt Go.RowKit Go.Maps

/-- a step of a script. -/
structure OpT where
  K : Int
  sel : Sel
def OpT.cells (o : OpT) : List Value := .int .i64 o.K :: o.sel.cells
structure OpT.ok (w : World) (o : OpT) : Prop where
  key : IsHash o.sel.key
  s : o.sel.s < 18446744073709551616
  few : o.sel.v.length ≤ 9223372036854775807
  bytes : Bytes w w.heap.size (.slice o.sel.a o.sel.v.length o.sel.c) o.sel.v
theorem OpT.len {o : OpT} (h : o.sel.key.length = 32) : o.cells.length = 35 := by simp [OpT.cells, Sel.len h]
theorem OpT.one (o : OpT) : ∀ v ∈ o.cells, v.oneCell' = true := by
  intro v hv
  rcases List.mem_cons.1 hv with rfl | h
  · rfl
  · exact Sel.one _ v h
/-- a script in memory. -/
structure OpsAt (w : World) (A : Option Addr) (n : Nat) (os : List OpT) : Prop where
  len : os.length = n
  few : n ≤ 9223372036854775807
  ok : ∀ o ∈ os, o.ok w
  at_ : 0 < n → ∃ b o, A = some ⟨b, o, none⟩ ∧ b < w.heap.size ∧ ∀ (i : Nat) x, os[i]? = some x → w.rangeAt b (o + i * 35) x.cells
def OpT.pick (o : OpT) : Sel := { o.sel with s := o.sel.s % 281474976710656 }
def skipS (m : Nat) (out : List Sel) (o : OpT) : Prop := m ≤ out.length ∨ 200 < o.sel.v.length ∨ (o.sel.v.length = 0 ∧ o.sel.s = 0)
instance (m : Nat) (out : List Sel) (o : OpT) : Decidable (skipS m out o) := inferInstanceAs (Decidable (_ ∨ _ ∨ _))
def knownS (out : List Sel) (o : OpT) : Bool := out.any fun x => decide (x.key = o.sel.key)
def stepS (m : Nat) (out : List Sel) (o : OpT) : List Sel := if skipS m out o then out else if knownS out o = true then out else out ++ [o.pick]
def someL (m : Nat) (os : List OpT) : List Sel := os.foldl (stepS m) []
theorem someL_take (m : Nat) (os : List OpT) (k : Nat) (o : OpT) (h : os[k]? = some o) : someL m (os.take (k + 1)) = stepS m (someL m (os.take k)) o := by
  unfold someL
  rw [List.take_add_one, h]
  simp [List.foldl_append]
theorem someL_len (m : Nat) (os : List OpT) : (someL m os).length ≤ m := by
  unfold someL
  have : ∀ (os : List OpT) (out : List Sel), out.length ≤ m → (os.foldl (stepS m) out).length ≤ m := by
    intro os
    induction os with
    | nil => exact fun out h => h
    | cons o os ih =>
      intro out h
      refine ih _ ?_
      unfold stepS
      split
      · exact h
      · next hs =>
        split
        · exact h
        · have : ¬ m ≤ out.length := fun e => hs (.inl e)
          rw [List.length_append]
          show out.length + 1 ≤ m
          omega
  exact this os [] (Nat.zero_le _)
theorem zero_op : ∃ Z : Array Value, (∀ w, (zeroValue 71).run Tryd.prog w = .ok (.agg Z) w) ∧ Z.size = 35 ∧ ¬ Z = #[] := by
  have hs : (OpT.cells ⟨0, ⟨List.replicate 32 0, none, 0, [], 0, z32k⟩⟩).toArray.size = 35 := by kernel_rfl
  exact ⟨_, fun w => by kernel_rfl, hs, fun e => by rw [e] at hs; cases hs⟩
theorem op_get {o : OpT} (h : o.sel.key.length = 32) : o.cells[33]? = some (.slice o.sel.a o.sel.v.length o.sel.c) ∧ o.cells[34]? = some (.int .u64 (o.sel.s : Int)) := sel_get h
theorem op_key {w : World} {G : Nat} {t : TypeId} {o : OpT} (h : Has w G t o.cells.toArray) : w.rangeAt G 1 (bcells o.sel.key) := fun j u hu => by
  refine h.cell_is ?_
  rw [List.getElem?_toArray, OpT.cells, Nat.add_comm 1 j, List.getElem?_cons_succ, Sel.cells, List.getElem?_append_left (List.getElem?_eq_some_iff.1 hu).1]
  exact hu
theorem hashKey26 : WideMaps.KeyLaw Tryd.prog 26 := deep_law_laid laidOutM (m := 2) (by omega) (of_decide_eq_true (by kernel_rfl)) (by kernel_rfl) (by rw [Tryd.underlying26])
theorem key_some26 (ks : List Nat) (h : IsHash ks) : ∃ kl, keyOf Tryd.prog 26 (arr ks) = some kl := by
  unfold keyOf
  rw [Tryd.underlying26]
  have h1 : Tryd.prog.keyType 26 = true := by kernel_rfl
  have h2 : (arr ks).formed Tryd.prog 26 = true := by
    have hc : Tryd.prog.cellsOf 26 = 32 := by kernel_rfl
    unfold arr
    simp [Value.formed, Tryd.underlying26, hc, bcells_length, h.1]
  have h3 : ∃ ls, Tryd.prog.keyLits (Tryd.prog.types.size + 1) 26 (arr ks).cells.toList = some ls := by
    have hc : Tryd.prog.cellsOf 26 = 32 := by kernel_rfl
    have hc1 : Tryd.prog.cellsOf 5 = 1 := by kernel_rfl
    obtain ⟨d, hd⟩ : ∃ d, Tryd.prog.types.size = d + 1 := ⟨Tryd.prog.types.size - 1, by have : 0 < Tryd.prog.types.size := of_decide_eq_true (by kernel_rfl); omega⟩
    rw [hd]
    unfold Program.keyLits
    rw [Tryd.underlying26]
    have hcs : (arr ks).cells.toList = bcells ks := by simp [arr, Value.cells]
    rw [hcs]
    simp only []
    rw [if_pos (by rw [hc, bcells_length, h.1]), hc1, mapM_some _ (fun i => [Lit.int .u8 ((ks.getD i 0 : Nat) : Int)]) (List.range 32) (fun i hi => ?_)]
    · exact ⟨_, rfl⟩
    · have hi2 : i < 32 := List.mem_range.1 hi
      have hlt : ks.getD i 0 < 256 := by
        rw [List.getD_eq_getElem?_getD, List.getElem?_eq_getElem (by rw [h.1]; exact hi2)]
        exact h.2 _ (List.getElem_mem _)
      have hone : ((bcells ks).drop (i * 1)).take 1 = [.int .u8 ((ks.getD i 0 : Nat) : Int)] := by
        rw [Nat.mul_one, List.take_one, List.head?_drop, bcells_get _ _ (by rw [h.1]; exact hi2)]
        rfl
      rw [hone]
      unfold Program.keyLits
      rw [Tryd.underlying5]
      simp only []
      generalize ks.getD i 0 = n at hlt
      have m0 : IntKind.u8.min = 0 := by decide
      have m1 : IntKind.u8.max = 255 := by decide
      have hw : (Lit.int .u8 (n : Int)).wf = true := by simp [Lit.wf, m0, m1]; omega
      rw [if_pos ⟨trivial, hw⟩]
  obtain ⟨ls, h3⟩ := h3
  rw [h1, h2, h3]
  exact ⟨_, rfl⟩
theorem hash_eq26 (a b : List Nat) (ha : IsHash a) (hb : IsHash b) (w : World) : (Op.equal 26 (arr a) (arr b)).run Tryd.prog w = .ok (decide (a = b)) w := by
  obtain ⟨la, hla⟩ := key_some26 a ha
  obtain ⟨lb, hlb⟩ := key_some26 b hb
  have h := run_equal_deep (P := Tryd.prog) w (m := 2) (by omega) (k := 26) (by kernel_rfl) (by rw [Tryd.underlying26]) hla hlb
  obtain ⟨r, hr, hiff⟩ := h
  have hab : la = lb ↔ a = b := ⟨fun e => by subst e; exact arr_inj (hashKey26.inj hla hlb), fun e => by subst e; rw [hla] at hlb; exact Option.some.inj hlb⟩
  have e : r = decide (a = b) := by
    by_cases hc : a = b
    · rw [decide_eq_true hc]; exact hiff.2 (hab.2 hc)
    · rw [decide_eq_false hc]
      cases r with
      | false => rfl
      | true => exact absurd (hab.1 (hiff.1 rfl)) hc
  rw [hr, e]
theorem eq_key (a b : List Nat) (ha : IsHash a) (hb : IsHash b) (w : World) : (Op.equalIn 10000 26 (.agg (bcells a).toArray) (.agg (bcells b).toArray)).run Tryd.prog w = .ok (decide (a = b)) w := hash_eq26 a b ha hb w
end Go.Proofs.YtcpomddkehhkkaaDoor
