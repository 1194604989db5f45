/- The leaves that some gathers fit into a tree. -/
import Derived.Test.YtcpomddkehhkkaaDoorSome2
namespace Go.Proofs.YtcpomddkehhkkaaDoor
set_option linter.unusedVariables false
set_option linter.unusedSimpArgs false
open Go.ChangeShapes Go.WideShapes Go.ChangeAt Go.RowKit Go.Maps

theorem put_sum_le (T : List Lf) (l : Lf) : sumT (putT T l) ≤ sumT T + l.s := by
  unfold sumT
  induction T with
  | nil => simp [putT]
  | cons t T ih =>
    unfold putT
    split
    · simp only [List.map_cons, List.sum_cons]; omega
    · simp only [List.map_cons, List.sum_cons]; omega
theorem put_len_le (T : List Lf) (l : Lf) : (putT T l).length ≤ T.length + 1 := by
  rw [put_len]
  split <;> omega
theorem put_fits {T : List Lf} {l : Lf} (hv : l.v.length ≤ 65536) (hn : T.length < 256) (hs : sumT T + l.s < 18446744073709551616) : putE T l = 0 ∨ (putE T l = 1 ∧ l.v.length = 0 ∧ l.s = 0) := by
  unfold putE
  by_cases h1 : l.v.length = 0 ∧ l.s = 0
  · exact .inr ⟨if_pos h1, h1.1, h1.2⟩
  · refine .inl ?_
    rw [if_neg h1, if_neg (by omega), if_neg (by omega), if_pos (by omega)]
theorem build_fits (xs : List Sel) (h : ∀ x ∈ xs, x.s < 281474976710656) : (buildT xs).length ≤ xs.length ∧ sumT (buildT xs) ≤ xs.length * 281474976710656 := by
  have go : ∀ (xs : List Sel) (T : List Lf), (∀ x ∈ xs, x.s < 281474976710656) → (xs.foldl (fun T x => putN T x.leaf) T).length ≤ T.length + xs.length ∧ sumT (xs.foldl (fun T x => putN T x.leaf) T) ≤ sumT T + xs.length * 281474976710656 := by
    intro xs
    induction xs with
    | nil => intro T _; simp
    | cons x xs ih =>
      intro T hx
      have hxs : x.s < 281474976710656 := hx x List.mem_cons_self
      have hstep : (putN T x.leaf).length ≤ T.length + 1 ∧ sumT (putN T x.leaf) ≤ sumT T + 281474976710656 := by
        unfold putN
        split
        · exact ⟨put_len_le _ _, Nat.le_trans (put_sum_le _ _) (by show _ + x.s ≤ _; omega)⟩
        · exact ⟨by omega, by omega⟩
      have := ih (putN T x.leaf) (fun y hy => hx y (List.mem_cons_of_mem _ hy))
      simp only [List.foldl_cons, List.length_cons]
      omega
  have h0 := go xs [] h
  have hz : sumT [] = 0 := rfl
  unfold buildT
  simp only [List.length_nil, hz] at h0
  omega
theorem pick_small (o : OpT) : o.pick.s < 281474976710656 := Nat.mod_lt _ (by decide)
theorem some_each (m : Nat) (os : List OpT) : ∀ x ∈ someL m os, ∃ o ∈ os, x = o.pick ∧ o.sel.v.length ≤ 200 := by
  have go : ∀ (os : List OpT) (out : List Sel) (P : Sel → Prop), (∀ x ∈ out, P x) → (∀ o ∈ os, o.sel.v.length ≤ 200 → P o.pick) → ∀ x ∈ os.foldl (stepS m) out, P x := by
    intro os
    induction os with
    | nil => exact fun out P h _ => h
    | cons o os ih =>
      intro out P h hp
      refine ih _ P ?_ (fun y hy => hp y (List.mem_cons_of_mem _ hy))
      intro x hx
      unfold stepS at hx
      split at hx
      · exact h x hx
      · next hs =>
        split at hx
        · exact h x hx
        · rcases List.mem_append.1 hx with hx | hx
          · exact h x hx
          · rw [List.mem_singleton.1 hx]
            refine hp o List.mem_cons_self ?_
            have : ¬ 200 < o.sel.v.length := fun e => hs (.inr (.inl e))
            omega
  exact go os [] _ (fun x hx => by cases hx) (fun o ho hl => ⟨o, ho, rfl, hl⟩)
/-- the leaves that some gathers fit into a tree, one after the other. -/
theorem some_fits (m : Nat) (hm : m ≤ 256) (os : List OpT) (k : Nat) (x : Sel) (hk : (someL m os)[k]? = some x) : putE (buildT ((someL m os).take k)) x.leaf = 0 ∨ (putE (buildT ((someL m os).take k)) x.leaf = 1 ∧ x.v.length = 0 ∧ x.s = 0) := by
  have hlen := someL_len m os
  have hkl := (List.getElem?_eq_some_iff.1 hk).1
  obtain ⟨o, -, rfl, ho⟩ := some_each m os x (List.mem_of_getElem? hk)
  have hb := build_fits ((someL m os).take k) (fun y hy => by
    obtain ⟨o', -, rfl, -⟩ := some_each m os y (List.mem_of_mem_take hy)
    exact pick_small o')
  have htl : ((someL m os).take k).length = k := by rw [List.length_take]; omega
  rw [htl] at hb
  have hp := pick_small o
  refine put_fits (l := o.pick.leaf) ?_ ?_ ?_
  · show o.sel.v.length ≤ 65536; omega
  · omega
  · show sumT _ + o.pick.s < _; omega
/-- no key twice. -/
theorem some_nodup (m : Nat) (os : List OpT) : ((someL m os).map (·.key)).Nodup := by
  have go : ∀ (os : List OpT) (out : List Sel), (out.map (·.key)).Nodup → ((os.foldl (stepS m) out).map (·.key)).Nodup := by
    intro os
    induction os with
    | nil => exact fun out h => h
    | cons o os ih =>
      intro out h
      refine ih _ ?_
      unfold stepS
      split
      · exact h
      · split
        · exact h
        · next hk =>
          rw [List.map_append, List.nodup_append]
          refine ⟨h, by simp, ?_⟩
          intro a ha b hb e
          rw [List.map_singleton, List.mem_singleton] at hb
          obtain ⟨x, hx, hxa⟩ := List.mem_map.1 ha
          refine hk (List.any_eq_true.2 ⟨x, hx, decide_eq_true ?_⟩)
          have : o.pick.key = o.sel.key := rfl
          rw [← this, ← hb, ← e]
          exact hxa
  exact go os [] List.nodup_nil
/-- gathered leaves lie as tree takes them. -/
theorem Got.sels {w wr : World} {xs : List Sel} {A : Option Addr} {n c : Nat} (h : Got w w.heap.size xs (.slice A n c) wr) (hok : ∀ x ∈ xs, x.ok w) (hn : xs.length ≤ 1000000) : SelsAt wr A n xs := by
  have hlen : n = xs.length := by
    rcases h.2.1.2 with ⟨e, h0⟩ | ⟨_, _, _, e, _⟩
    · injection e with e1 e2 e3 <;> omega
    · injection e with e1 e2 e3 <;> omega
  refine ⟨hlen.symm, by omega, fun x hx => (hok x hx).below h.2.2, fun hpos => ?_⟩
  obtain ⟨gs, cap, cur, e, hB, hh, h1, h2, h3, h4⟩ := own_open h.2.1 (by omega)
  injection e with e1 e2 e3
  refine ⟨gs, 0, e1, hh.lt, fun i x hi j u hu => ?_⟩
  have hj := (List.getElem?_eq_some_iff.1 hu).1
  rw [Sel.len'] at hj
  have hil := (List.getElem?_eq_some_iff.1 hi).1
  rw [Nat.zero_add]
  refine hh.cell_is ?_
  have hlt : i * 34 + j < xs.length * 34 := by
    have : (i + 1) * 34 ≤ xs.length * 34 := Nat.mul_le_mul_right 34 hil
    omega
  rw [h4 _ hlt, flat_getK Sel.cells 34 Sel.len' xs i j x hi hj]
  exact hu
end Go.Proofs.YtcpomddkehhkkaaDoor
