/- What a proof leads to, in plain lists. -/
import Derived.Test.YtngmpcmeebcdmaaDoorBes1
namespace Go.Proofs.YtngmpcmeebcdmaaDoor
set_option linter.unusedVariables false
set_option linter.unusedSimpArgs false
open Go.ChangeShapes Go.WideShapes Go.ChangeAt Go.RowKit Go.Maps

/-- two nodes are one. -/
def ndSame (x y : Nd) : Bool := decide (x.h = y.h ∧ x.s = y.s)
theorem ndSame_iff {x y : Nd} : ndSame x y = true ↔ x = y := by
  unfold ndSame
  rw [decide_eq_true_eq]
  exact ⟨fun ⟨h1, h2⟩ => by cases x; cases y; simp_all, fun h => by subst h; exact ⟨rfl, rfl⟩⟩
/-- one step up the way; the error, where the sums don't fit. -/
def pfBr (K s0 : List Wd) (key : List Nat) (h : Nat) (n x : Nd) (u : Nat) : Except Nat (Nd × Nat) :=
  if n.s + x.s < 18446744073709551616 then .ok (if bitAt key h = 1 then brNd K s0 x n else brNd K s0 n x, u) else .error 10
def pfStep (K s0 : List Wd) (bare : Nat → Bool) (key : List Nat) (nodes : List Nd) (h : Nat) (n : Nd) (u : Nat) : Except Nat (Nd × Nat) :=
  if bare h = true then pfBr K s0 key h n (emptyNd K s0 h) u
  else match nodes[u]? with
    | none => .error 20
    | some x => if ndSame x (emptyNd K s0 h) = true then .error 21 else pfBr K s0 key h n x (u + 1)
/-- what stands at a height of the way, how many nodes were used. -/
def pfAt (K s0 : List Wd) (bare : Nat → Bool) (key : List Nat) (nodes : List Nd) (n0 : Nd) : Nat → Except Nat (Nd × Nat)
  | 0 => .ok (n0, 0)
  | h + 1 => match pfAt K s0 bare key nodes n0 h with
    | .error e => .error e
    | .ok p => pfStep K s0 bare key nodes h p.1 p.2
/-- the root, or why there is none. -/
def pfRoot (K s0 : List Wd) (bare : Nat → Bool) (key : List Nat) (nodes : List Nd) (n0 : Nd) : Except Nat Nd :=
  match pfAt K s0 bare key nodes n0 256 with
  | .error e => .error e
  | .ok p => if p.2 < nodes.length then .error 24 else .ok p.1
def pfE : Except Nat Nd → Nat
  | .error e => e
  | .ok _ => 0
def pfN : Except Nat Nd → Nd
  | .error _ => ⟨List.replicate 32 0, 0⟩
  | .ok n => n
section
variable {K s0 : List Wd} {bare bare' : Nat → Bool} {key : List Nat} {nodes : List Nd} {n0 : Nd}
theorem pfAt_succ (h : Nat) {n : Nd} {u : Nat} (e : pfAt K s0 bare key nodes n0 h = .ok (n, u)) : pfAt K s0 bare key nodes n0 (h + 1) = pfStep K s0 bare key nodes h n u := by
  show (match pfAt K s0 bare key nodes n0 h with | .error e => _ | .ok p => _) = _
  rw [e]
theorem pfAt_bare (h : Nat) {n : Nd} {u : Nat} (e : pfAt K s0 bare key nodes n0 h = .ok (n, u)) (hb : bare h = true) : pfAt K s0 bare key nodes n0 (h + 1) = pfBr K s0 key h n (emptyNd K s0 h) u := by
  rw [pfAt_succ h e]; unfold pfStep; rw [if_pos hb]
theorem pfAt_none (h : Nat) {n : Nd} {u : Nat} (e : pfAt K s0 bare key nodes n0 h = .ok (n, u)) (hb : bare h = false) (hn : nodes[u]? = none) : pfAt K s0 bare key nodes n0 (h + 1) = .error 20 := by
  rw [pfAt_succ h e]; unfold pfStep; rw [if_neg (by rw [hb]; decide), hn]
theorem pfAt_form (h : Nat) {n x : Nd} {u : Nat} (e : pfAt K s0 bare key nodes n0 h = .ok (n, u)) (hb : bare h = false) (hn : nodes[u]? = some x) (hx : ndSame x (emptyNd K s0 h) = true) : pfAt K s0 bare key nodes n0 (h + 1) = .error 21 := by
  rw [pfAt_succ h e]; unfold pfStep; rw [if_neg (by rw [hb]; decide), hn]
  show (if _ then _ else _) = _
  rw [if_pos hx]
theorem pfAt_node (h : Nat) {n x : Nd} {u : Nat} (e : pfAt K s0 bare key nodes n0 h = .ok (n, u)) (hb : bare h = false) (hn : nodes[u]? = some x) (hx : ndSame x (emptyNd K s0 h) = false) : pfAt K s0 bare key nodes n0 (h + 1) = pfBr K s0 key h n x (u + 1) := by
  rw [pfAt_succ h e]; unfold pfStep; rw [if_neg (by rw [hb]; decide), hn]
  show (if _ then _ else _) = _
  rw [if_neg (by rw [hx]; decide)]
theorem pfAt_err {h e : Nat} (he : pfAt K s0 bare key nodes n0 h = .error e) : ∀ k, pfAt K s0 bare key nodes n0 (h + k) = .error e := by
  intro k
  induction k with
  | zero => exact he
  | succ k ih =>
    show (match pfAt K s0 bare key nodes n0 (h + k) with | .error e => _ | .ok p => _) = _
    rw [ih]
theorem pf_err {h e : Nat} (hh : h ≤ 256) (he : pfAt K s0 bare key nodes n0 h = .error e) : pfRoot K s0 bare key nodes n0 = .error e := by
  have := pfAt_err he (256 - h)
  rw [show h + (256 - h) = 256 by omega] at this
  unfold pfRoot
  rw [this]
theorem pf_done {n : Nd} {u : Nat} (e : pfAt K s0 bare key nodes n0 256 = .ok (n, u)) : pfRoot K s0 bare key nodes n0 = if u < nodes.length then .error 24 else .ok n := by
  unfold pfRoot
  rw [e]
theorem pf_back {r : Nd} (hr : pfRoot K s0 bare key nodes n0 = .ok r) : (∃ u, pfAt K s0 bare key nodes n0 256 = .ok (r, u) ∧ nodes.length ≤ u) ∧ ∀ h, h ≤ 256 → ∃ n u, pfAt K s0 bare key nodes n0 h = .ok (n, u) := by
  constructor
  · cases h : pfAt K s0 bare key nodes n0 256 with
    | error e => rw [pf_err (Nat.le_refl _) h] at hr; cases hr
    | ok p =>
      obtain ⟨n, u⟩ := p
      rw [pf_done h] at hr
      by_cases hu : u < nodes.length
      · rw [if_pos hu] at hr; cases hr
      · rw [if_neg hu] at hr; cases hr
        exact ⟨u, rfl, by omega⟩
  · intro h hh
    cases e : pfAt K s0 bare key nodes n0 h with
    | error e' => rw [pf_err hh e] at hr; cases hr
    | ok p => exact ⟨p.1, p.2, rfl⟩
theorem pfBr_ok {h u u' : Nat} {n x m : Nd} (e : pfBr K s0 key h n x u = .ok (m, u')) : u' = u ∧ m.s = n.s + x.s ∧ n.s + x.s < 18446744073709551616 ∧ m = (if bitAt key h = 1 then brNd K s0 x n else brNd K s0 n x) := by
  unfold pfBr at e
  by_cases hf : n.s + x.s < 18446744073709551616
  · rw [if_pos hf] at e
    cases e
    refine ⟨rfl, ?_, hf, rfl⟩
    by_cases hb : bitAt key h = 1
    · rw [if_pos hb]; show x.s + n.s = _; omega
    · rw [if_neg hb]; rfl
  · rw [if_neg hf] at e; cases e
/-- a step that went well: by which node. -/
theorem pfAt_ok {h u u' : Nat} {n m : Nd} (e : pfAt K s0 bare key nodes n0 h = .ok (n, u)) (e' : pfAt K s0 bare key nodes n0 (h + 1) = .ok (m, u')) :
    (bare h = true ∧ u' = u ∧ pfBr K s0 key h n (emptyNd K s0 h) u = .ok (m, u')) ∨ (bare h = false ∧ ∃ x, nodes[u]? = some x ∧ u' = u + 1 ∧ pfBr K s0 key h n x (u + 1) = .ok (m, u')) := by
  cases hb : bare h with
  | true =>
    rw [pfAt_bare h e hb] at e'
    exact .inl ⟨rfl, (pfBr_ok e').1, e'⟩
  | false =>
    right
    cases hn : nodes[u]? with
    | none => rw [pfAt_none h e hb hn] at e'; cases e'
    | some x =>
      cases hx : ndSame x (emptyNd K s0 h) with
      | true => rw [pfAt_form h e hb hn hx] at e'; cases e'
      | false =>
        rw [pfAt_node h e hb hn hx] at e'
        exact ⟨rfl, x, rfl, (pfBr_ok e').1, e'⟩
theorem take_succ_sum (u : Nat) (x : Nd) (hn : nodes[u]? = some x) : ((nodes.take (u + 1)).map (·.s)).sum = ((nodes.take u).map (·.s)).sum + x.s := by
  rw [List.take_add_one, hn, List.map_append, List.sum_append]
  simp
/-- the sum that stands at a height. -/
theorem pfAt_sum : ∀ (h : Nat) {n : Nd} {u : Nat}, pfAt K s0 bare key nodes n0 h = .ok (n, u) → u ≤ nodes.length ∧ n.s = n0.s + ((nodes.take u).map (·.s)).sum := by
  intro h
  induction h with
  | zero => intro n u e; cases e; exact ⟨Nat.zero_le _, by simp⟩
  | succ h ih =>
    intro n u e
    cases e0 : pfAt K s0 bare key nodes n0 h with
    | error e' => rw [pfAt_err e0 1] at e; cases e
    | ok p =>
      obtain ⟨m, v⟩ := p
      obtain ⟨i1, i2⟩ := ih e0
      rcases pfAt_ok e0 e with ⟨hb, hu, hx⟩ | ⟨hb, x, hn, hu, hx⟩
      · subst hu
        have := (pfBr_ok hx).2.1
        rw [empty_sum] at this
        exact ⟨i1, by omega⟩
      · subst hu
        have h1 := (pfBr_ok hx).2.1
        have h2 := (List.getElem?_eq_some_iff.1 hn).1
        rw [take_succ_sum v x hn]
        exact ⟨by omega, by omega⟩
theorem pfAt_hash (hl : s0.length = 8) (h0 : IsHash n0.h) (h : Nat) {n : Nd} {u : Nat} (e : pfAt K s0 bare key nodes n0 h = .ok (n, u)) : IsHash n.h := by
  cases h with
  | zero => cases e; exact h0
  | succ h =>
    cases e0 : pfAt K s0 bare key nodes n0 h with
    | error e' => rw [pfAt_err e0 1] at e; cases e
    | ok p =>
      obtain ⟨m, v⟩ := p
      rcases pfAt_ok e0 e with ⟨hb, hu, hx⟩ | ⟨hb, x, hn, hu, hx⟩
      all_goals
        rw [(pfBr_ok hx).2.2.2]
        split
        · exact br_hash K s0 hl _ _
        · exact br_hash K s0 hl _ _
theorem pfAt_fits (hs : n0.s < 18446744073709551616) (h : Nat) {n : Nd} {u : Nat} (e : pfAt K s0 bare key nodes n0 h = .ok (n, u)) : n.s < 18446744073709551616 := by
  cases h with
  | zero => cases e; exact hs
  | succ h =>
    cases e0 : pfAt K s0 bare key nodes n0 h with
    | error e' => rw [pfAt_err e0 1] at e; cases e
    | ok p =>
      obtain ⟨m, v⟩ := p
      rcases pfAt_ok e0 e with ⟨hb, hu, hx⟩ | ⟨hb, x, hn, hu, hx⟩
      all_goals
        have h1 := (pfBr_ok hx).2.1
        have h2 := (pfBr_ok hx).2.2.1
        omega
/-- the root's sum is that of the leaf and of all nodes. -/
theorem pf_sum {r : Nd} (hr : pfRoot K s0 bare key nodes n0 = .ok r) : r.s = n0.s + (nodes.map (·.s)).sum := by
  obtain ⟨⟨u, e, hu⟩, -⟩ := pf_back hr
  have h := (pfAt_sum 256 e).2
  rwa [List.take_of_length_le hu] at h
theorem pf_hash (hl : s0.length = 8) (h0 : IsHash n0.h) : IsHash (pfN (pfRoot K s0 bare key nodes n0)).h := by
  cases hr : pfRoot K s0 bare key nodes n0 with
  | error e => exact ⟨by show (List.replicate 32 0).length = 32; exact List.length_replicate, fun x hx => by
      have h1 := List.eq_of_mem_replicate (show x ∈ List.replicate 32 0 from hx)
      omega⟩
  | ok r =>
    obtain ⟨⟨u, e, hu⟩, -⟩ := pf_back hr
    exact pfAt_hash hl h0 256 e
theorem pf_fits (hs : n0.s < 18446744073709551616) : (pfN (pfRoot K s0 bare key nodes n0)).s < 18446744073709551616 := by
  cases hr : pfRoot K s0 bare key nodes n0 with
  | error e => show 0 < _; omega
  | ok r =>
    obtain ⟨⟨u, e, hu⟩, -⟩ := pf_back hr
    exact pfAt_fits hs 256 e
theorem pfAt_congr (hb : ∀ h, h < 256 → bare h = bare' h) : ∀ h, h ≤ 256 → pfAt K s0 bare key nodes n0 h = pfAt K s0 bare' key nodes n0 h := by
  intro h
  induction h with
  | zero => exact fun _ => rfl
  | succ h ih =>
    intro hh
    show (match pfAt K s0 bare key nodes n0 h with | .error e => _ | .ok p => _) = (match pfAt K s0 bare' key nodes n0 h with | .error e => _ | .ok p => _)
    rw [ih (by omega)]
    have e : ∀ n u, pfStep K s0 bare key nodes h n u = pfStep K s0 bare' key nodes h n u := fun n u => by
      unfold pfStep
      rw [hb h (by omega)]
    cases pfAt K s0 bare' key nodes n0 h with
    | error e => rfl
    | ok p => exact e p.1 p.2
theorem pf_congr (hb : ∀ h, h < 256 → bare h = bare' h) : pfRoot K s0 bare key nodes n0 = pfRoot K s0 bare' key nodes n0 := by
  unfold pfRoot
  rw [pfAt_congr hb 256 (Nat.le_refl _)]
end
/-- where nothing stands beside a way; the other nodes, up to a height. -/
def bareF (K s0 : List Wd) (f : Nat → Nd) (h : Nat) : Bool := ndSame (f h) (emptyNd K s0 h)
def nodesF (K s0 : List Wd) (f : Nat → Nd) (h : Nat) : List Nd := ((List.range h).filter fun j => !bareF K s0 f j).map f
section
variable {K s0 : List Wd} {f : Nat → Nd} {bare : Nat → Bool} {key : List Nat} {n0 : Nd}
theorem nodesF_succ (h : Nat) : nodesF K s0 f (h + 1) = nodesF K s0 f h ++ (if bareF K s0 f h = true then [] else [f h]) := by
  unfold nodesF
  rw [List.range_succ, List.filter_append, List.map_append]
  cases hb : bareF K s0 f h with
  | true => simp [hb]
  | false => simp [hb]
theorem nodesF_pre (h : Nat) : ∀ k, ∃ r, nodesF K s0 f (h + k) = nodesF K s0 f h ++ r := by
  intro k
  induction k with
  | zero => exact ⟨[], by simp⟩
  | succ k ih =>
    obtain ⟨r, hr⟩ := ih
    exact ⟨r ++ _, by rw [← Nat.add_assoc, nodesF_succ, hr, List.append_assoc]⟩
theorem nodesF_len (h : Nat) : (nodesF K s0 f h).length ≤ h := by
  induction h with
  | zero => exact Nat.le_refl _
  | succ h ih =>
    rw [nodesF_succ, List.length_append]
    split
    · simp; omega
    · simp; omega
theorem nodesF_at (h : Nat) (hh : h < 256) (hb : bareF K s0 f h = false) : (nodesF K s0 f 256)[(nodesF K s0 f h).length]? = some (f h) := by
  obtain ⟨r, hr⟩ := nodesF_pre (K := K) (s0 := s0) (f := f) (h + 1) (256 - (h + 1))
  rw [show h + 1 + (256 - (h + 1)) = 256 by omega] at hr
  rw [hr, nodesF_succ, if_neg (by rw [hb]; decide), List.append_assoc, List.getElem?_append_right (Nat.le_refl _), Nat.sub_self]
  rfl
theorem nodesF_mem (h : Nat) : ∀ x ∈ nodesF K s0 f h, ∃ j, j < h ∧ x = f j := fun x hx => by
  unfold nodesF at hx
  obtain ⟨j, hj, rfl⟩ := List.mem_map.1 hx
  exact ⟨j, List.mem_range.1 (List.mem_filter.1 hj).1, rfl⟩
/-- what is made leads where the way leads. -/
theorem pf_make (c : Nat → Nd) (h0 : c 0 = n0) (hc : ∀ h, h < 256 → c (h + 1) = if bitAt key h = 1 then brNd K s0 (f h) (c h) else brNd K s0 (c h) (f h)) (hs : ∀ h, h < 256 → (c h).s + (f h).s < 18446744073709551616) (hb : ∀ h, h < 256 → bare h = bareF K s0 f h) :
    ∀ h, h ≤ 256 → pfAt K s0 bare key (nodesF K s0 f 256) n0 h = .ok (c h, (nodesF K s0 f h).length) := by
  intro h
  induction h with
  | zero => intro _; rw [h0]; rfl
  | succ h ih =>
    intro hh
    have e := ih (by omega)
    have hb' := hb h (by omega)
    cases hbf : bareF K s0 f h with
    | true =>
      rw [pfAt_bare h e (by rw [hb', hbf]), nodesF_succ, if_pos hbf, List.append_nil]
      have ef : emptyNd K s0 h = f h := (ndSame_iff.1 hbf).symm
      unfold pfBr
      rw [ef, if_pos (hs h (by omega)), hc h (by omega)]
    | false =>
      rw [pfAt_node h e (by rw [hb', hbf]) (nodesF_at h (by omega) hbf) hbf, nodesF_succ, if_neg (by rw [hbf]; decide)]
      unfold pfBr
      rw [if_pos (hs h (by omega)), hc h (by omega), List.length_append]
      rfl
theorem pf_made (c : Nat → Nd) (h0 : c 0 = n0) (hc : ∀ h, h < 256 → c (h + 1) = if bitAt key h = 1 then brNd K s0 (f h) (c h) else brNd K s0 (c h) (f h)) (hs : ∀ h, h < 256 → (c h).s + (f h).s < 18446744073709551616) (hb : ∀ h, h < 256 → bare h = bareF K s0 f h) :
    pfRoot K s0 bare key (nodesF K s0 f 256) n0 = .ok (c 256) := by
  rw [pf_done (pf_make c h0 hc hs hb 256 (Nat.le_refl _)), if_neg (Nat.lt_irrefl _)]
end
/-- what stands beside a key's way in a tree. -/
def besF (K s0 : List Wd) (T : List Lf) (key : List Nat) (h : Nat) : Nd := partNd K s0 h (besideT T key h)
/-- what is made for a key of a tree leads to its root. -/
theorem pf_tree {K s0 : List Wd} {T : List Lf} (hk : Keyed (T.map (·.k))) (hf : sumT T < 18446744073709551616) {key : List Nat} (hkey : IsHash key) {bare : Nat → Bool} (hb : ∀ h, h < 256 → bare h = bareF K s0 (besF K s0 T key) h) :
    pfRoot K s0 bare key (nodesF K s0 (besF K s0 T key) 256) (leafNd K s0 (valT T key) (wasS T key)) = .ok (partNd K s0 256 T) := by
  rw [← climb_leaf K s0 hk hkey, ← climb_top K s0 T key]
  exact pf_made (climbN K s0 T key) rfl (fun h hh => climb_step K s0 T key h hh) (fun h hh => climb_sum hk hf hh) hb
end Go.Proofs.YtngmpcmeebcdmaaDoor
