/- The plain law of MsumRuns: a list of leaves with different keys, gone through, against the tree's own list. -/
import Derived.Test.YtngmpcmeebcdmaaDoorSelB
import Derived.Test.YtngmpcmeebcdmaaDoorBes1
namespace Go.Proofs.YtngmpcmeebcdmaaDoor
set_option linter.unusedVariables false
set_option linter.unusedSimpArgs false
open Go.ChangeShapes Go.WideShapes Go.ChangeAt Go.RowKit Go.Maps

def sumX (xs : List Sel) : Nat := (xs.map (·.s)).sum
theorem sumX_leaf (xs : List Sel) : sumT (xs.map Sel.leaf) = sumX xs := by
  unfold sumT sumX
  rw [List.map_map]; rfl
theorem sumX_snoc (xs : List Sel) (j : Nat) (x : Sel) (hx : xs[j]? = some x) : sumX (xs.take (j + 1)) = sumX (xs.take j) + x.s := by
  unfold sumX
  rw [List.take_add_one, hx, Option.toList_some, List.map_append, List.sum_append]
  simp
/-- where a key stands among the first so many; -1: nowhere. -/
def atI (xs : List Sel) (key : List Nat) : Nat → Int
  | 0 => -1
  | j + 1 => if (xs[j]?).map (·.key) = some key then (j : Int) else atI xs key j
/-- the sum of the others among the first so many. -/
def othS (xs : List Sel) (key : List Nat) : Nat → Nat
  | 0 => 0
  | j + 1 => if (xs[j]?).map (·.key) = some key then othS xs key j else othS xs key j + ((xs[j]?).map (·.s)).getD 0
theorem at_bound (xs : List Sel) (key : List Nat) : ∀ j, -1 ≤ atI xs key j ∧ atI xs key j < (j : Int)
  | 0 => by show -1 ≤ (-1 : Int) ∧ (-1 : Int) < 0; omega
  | j + 1 => by
    have := at_bound xs key j
    unfold atI
    split <;> omega
theorem at_some (xs : List Sel) (key : List Nat) : ∀ j p : Nat, atI xs key j = (p : Int) → ∃ x, xs[p]? = some x ∧ x.key = key
  | 0, p, h => by have : (-1 : Int) = (p : Int) := h; omega
  | j + 1, p, h => by
    unfold atI at h
    split at h
    · next e =>
      obtain rfl : j = p := by omega
      cases hx : xs[j]? with
      | none => rw [hx] at e; cases e
      | some x => rw [hx] at e; exact ⟨x, rfl, by simpa using e⟩
    · exact at_some xs key j p h
theorem at_none (xs : List Sel) (key : List Nat) : ∀ j, atI xs key j < 0 → ∀ i, i < j → ∀ x, xs[i]? = some x → x.key ≠ key
  | 0, _, i, hi, _, _ => absurd hi (by omega)
  | j + 1, h, i, hi, x, hx => by
    unfold atI at h
    split at h
    · omega
    · next e =>
      rcases Nat.lt_or_ge i j with hlt | hge
      · exact at_none xs key j h i hlt x hx
      · obtain rfl : i = j := by omega
        intro e2
        exact e (by rw [hx]; simp [e2])
theorem oth_le (xs : List Sel) (key : List Nat) : ∀ j, j ≤ xs.length → othS xs key j ≤ sumX (xs.take j)
  | 0, _ => Nat.zero_le _
  | j + 1, h => by
    have ih := oth_le xs key j (by omega)
    have e := sumX_snoc xs j _ (List.getElem?_eq_getElem (show j < xs.length by omega))
    unfold othS
    rw [List.getElem?_eq_getElem (by omega), e]
    split
    · omega
    · simp only [Option.map_some, Option.getD_some]; omega
/-- the keys differ. -/
def DifK (xs : List Sel) : Prop := (xs.map (·.key)).Nodup
theorem DifK.inj {xs : List Sel} (h : DifK xs) {i j : Nat} {x y : Sel} (hi : xs[i]? = some x) (hj : xs[j]? = some y) (e : x.key = y.key) : i = j := by
  have hil := (List.getElem?_eq_some_iff.1 hi).1
  have hjl := (List.getElem?_eq_some_iff.1 hj).1
  have hp := List.pairwise_iff_getElem.1 h
  have gi : (xs.map (·.key))[i]'(by simpa using hil) = x.key := by
    have : (xs.map (·.key))[i]? = some x.key := by rw [List.getElem?_map, hi]; rfl
    rw [List.getElem?_eq_getElem (by simpa using hil)] at this
    exact Option.some.inj this
  have gj : (xs.map (·.key))[j]'(by simpa using hjl) = y.key := by
    have : (xs.map (·.key))[j]? = some y.key := by rw [List.getElem?_map, hj]; rfl
    rw [List.getElem?_eq_getElem (by simpa using hjl)] at this
    exact Option.some.inj this
  rcases Nat.lt_trichotomy i j with hlt | heq | hgt
  · exact absurd (by rw [gi, gj, e]) (hp i j (by simpa using hil) (by simpa using hjl) hlt)
  · exact heq
  · exact absurd (by rw [gi, gj, e]) (hp j i (by simpa using hjl) (by simpa using hil) hgt)
theorem find_at {xs : List Sel} {key : List Nat} (h : DifK xs) {p : Nat} {x : Sel} (hp : xs[p]? = some x) (hk : x.key = key) : findT (xs.map Sel.leaf) key = some x.leaf := by
  have hn : ((xs.map Sel.leaf).map (·.k)).Nodup := by
    rw [List.map_map]
    exact h
  have := find_mem hn (t := x.leaf) (List.mem_map.2 ⟨x, List.mem_of_getElem? hp, rfl⟩)
  rw [← hk]
  exact this
theorem find_absent {xs : List Sel} {key : List Nat} (h : ∀ (i : Nat) x, xs[i]? = some x → x.key ≠ key) : findT (xs.map Sel.leaf) key = none := by
  cases hf : findT (xs.map Sel.leaf) key with
  | none => rfl
  | some l =>
    obtain ⟨h1, h2⟩ := find_key hf
    obtain ⟨x, hx, rfl⟩ := List.mem_map.1 h2
    obtain ⟨i, hi⟩ := List.getElem?_of_mem hx
    exact absurd h1 (h i x hi)
/-- the place tells whether the tree has the key. -/
theorem at_find {xs : List Sel} {key : List Nat} (h : DifK xs) : decide (0 ≤ atI xs key xs.length) = (findT (xs.map Sel.leaf) key).isSome := by
  have hb := at_bound xs key xs.length
  by_cases h0 : 0 ≤ atI xs key xs.length
  · obtain ⟨p, hp⟩ : ∃ p : Nat, atI xs key xs.length = (p : Int) := ⟨(atI xs key xs.length).toNat, by omega⟩
    obtain ⟨x, hx, hk⟩ := at_some xs key _ p hp
    rw [find_at h hx hk, decide_eq_true h0]; rfl
  · rw [decide_eq_false h0, find_absent fun i x hi => at_none xs key _ (by omega) i (List.getElem?_eq_some_iff.1 hi).1 x hi]; rfl
theorem oth_full {xs : List Sel} {key : List Nat} (h : DifK xs) : ∀ j, j ≤ xs.length → othS xs key j + (if 0 ≤ atI xs key j then wasS (xs.map Sel.leaf) key else 0) = sumX (xs.take j)
  | 0, _ => by show 0 + (if (0 : Int) ≤ -1 then _ else 0) = 0; rw [if_neg (by omega)]; simp [sumX]
  | j + 1, hj => by
    have ih := oth_full (key := key) h j (by omega)
    have hx : xs[j]? = some (xs[j]'(by omega)) := List.getElem?_eq_getElem (by omega)
    have e := sumX_snoc xs j _ hx
    unfold othS atI
    rw [hx, e]
    by_cases hk : (xs[j]'(by omega)).key = key
    · have hw : wasS (xs.map Sel.leaf) key = (xs[j]'(by omega)).s := by unfold wasS; rw [find_at h hx hk]; rfl
      have hno : ¬ 0 ≤ atI xs key j := fun h0 => by
        have hb := at_bound xs key j
        obtain ⟨p, hp⟩ : ∃ p : Nat, atI xs key j = (p : Int) := ⟨(atI xs key j).toNat, by omega⟩
        obtain ⟨y, hy, hyk⟩ := at_some xs key j p hp
        have := h.inj hy hx (by rw [hyk, hk])
        omega
      rw [if_neg hno] at ih
      have hkk : Option.map (fun y : Sel => y.key) (some (xs[j]'(by omega))) = some key := by simp [hk]
      rw [if_pos hkk, if_pos hkk, if_pos (by omega), hw]
      omega
    · have hkk : ¬ Option.map (fun y : Sel => y.key) (some (xs[j]'(by omega))) = some key := by simpa using hk
      rw [if_neg hkk, if_neg hkk]
      simp only [Option.map_some, Option.getD_some]
      omega
theorem oth_sum {xs : List Sel} {key : List Nat} (h : DifK xs) : othS xs key xs.length = sumT (xs.map Sel.leaf) - wasS (xs.map Sel.leaf) key := by
  have h1 := oth_full (key := key) h xs.length (Nat.le_refl _)
  rw [List.take_length] at h1
  rw [sumX_leaf]
  by_cases h0 : 0 ≤ atI xs key xs.length
  · rw [if_pos h0] at h1; omega
  · have hf := at_find (key := key) h
    rw [decide_eq_false h0] at hf
    have hw : wasS (xs.map Sel.leaf) key = 0 := by
      unfold wasS
      cases he : findT (xs.map Sel.leaf) key with
      | none => rfl
      | some l => rw [he] at hf; cases hf
    rw [if_neg h0] at h1
    omega
theorem put_at {xs : List Sel} {l : Lf} {n : Sel} (h : DifK xs) (hn : n.leaf = l) {p : Nat} {x : Sel} (hp : xs[p]? = some x) (hk : x.key = l.k) : putT (xs.map Sel.leaf) l = (xs.set p n).map Sel.leaf := by
  induction xs generalizing p with
  | nil => cases hp
  | cons y xs ih =>
    show (if y.leaf.k = l.k then l :: xs.map Sel.leaf else y.leaf :: putT (xs.map Sel.leaf) l) = _
    cases p with
    | zero =>
      obtain rfl : y = x := by simpa using hp
      rw [if_pos (show y.leaf.k = l.k from hk), List.set_cons_zero, List.map_cons, hn]
    | succ p =>
      have hne : ¬ y.leaf.k = l.k := fun e => by
        have := h.inj (i := 0) (j := p + 1) (x := y) (y := x) rfl hp (show y.key = x.key by rw [hk]; exact e)
        omega
      rw [if_neg hne, List.set_cons_succ, List.map_cons, ih (by
        unfold DifK at h ⊢
        rw [List.map_cons, List.nodup_cons] at h
        exact h.2) (by simpa using hp)]
theorem drop_at {xs : List Sel} {key : List Nat} (h : DifK xs) {p : Nat} {x : Sel} (hp : xs[p]? = some x) (hk : x.key = key) : dropT (xs.map Sel.leaf) key = (xs.take p ++ xs.drop (p + 1)).map Sel.leaf := by
  induction xs generalizing p with
  | nil => cases hp
  | cons y xs ih =>
    show (if y.leaf.k = key then xs.map Sel.leaf else y.leaf :: dropT (xs.map Sel.leaf) key) = _
    cases p with
    | zero =>
      obtain rfl : y = x := by simpa using hp
      rw [if_pos (show y.leaf.k = key from hk)]; rfl
    | succ p =>
      have hne : ¬ y.leaf.k = key := fun e => by
        have := h.inj (i := 0) (j := p + 1) (x := y) (y := x) rfl hp (show y.key = x.key by rw [hk]; exact e)
        omega
      rw [if_neg hne, ih (by
        unfold DifK at h ⊢
        rw [List.map_cons, List.nodup_cons] at h
        exact h.2) (by simpa using hp)]
      rfl
theorem DifK.set {xs : List Sel} (h : DifK xs) {p : Nat} {x n : Sel} (hp : xs[p]? = some x) (hk : n.key = x.key) : DifK (xs.set p n) := by
  unfold DifK at h ⊢
  have : (xs.set p n).map (·.key) = xs.map (·.key) := by
    rw [List.map_set, hk]
    apply List.ext_getElem?
    intro i
    rw [List.getElem?_set]
    split
    · next e =>
      subst e
      split
      · rw [List.getElem?_map, hp]; rfl
      · next hl => rw [List.getElem?_eq_none (by omega)]
    · rfl
  rw [this]; exact h
theorem DifK.snoc {xs : List Sel} (h : DifK xs) {n : Sel} (hn : ∀ (i : Nat) x, xs[i]? = some x → x.key ≠ n.key) : DifK (xs ++ [n]) := by
  unfold DifK at h ⊢
  rw [List.map_append, List.nodup_append]
  refine ⟨h, by simp, fun a ha b hb e => ?_⟩
  rw [List.map_singleton, List.mem_singleton] at hb
  obtain ⟨x, hx, rfl⟩ := List.mem_map.1 ha
  obtain ⟨i, hi⟩ := List.getElem?_of_mem hx
  exact hn i x hi (by rw [e, hb])
theorem DifK.drop {xs : List Sel} (h : DifK xs) (p : Nat) : DifK (xs.take p ++ xs.drop (p + 1)) := by
  unfold DifK at h ⊢
  rw [← List.eraseIdx_eq_take_drop_succ]
  exact h.sublist ((List.eraseIdx_sublist _ _).map _)
end Go.Proofs.YtngmpcmeebcdmaaDoor
