/- Ranging over a map keyed by 32 bytes: the iterator, by the keys that have come. -/
import Derived.Test.YtngmpcmeebcdmaaDoorMap3
import Derived.Maps.RangeWalk
namespace Go.Proofs.YtngmpcmeebcdmaaDoor
set_option linter.unusedVariables false
set_option linter.unusedSimpArgs false
open Go.ChangeShapes Go.WideShapes Go.ChangeAt Go.RowKit Go.Maps Go.MapKept

/-- block r ranges over the map at b, which holds l; the keys of done have come, in this order. -/
def Iter (w : World) (b r : Nat) (l : List Ent) (done : List (List Nat)) : Prop :=
  ∃ es clock since seen c0, w.heap[b]? = some (.map es clock) ∧ Stamped es clock ∧ es.toList.map (fun e => (e.key, e.val)) = l.map (fun p => (arr p.1, p.2)) ∧ (∀ p ∈ l, IsHash p.1) ∧
    w.heap[r]? = some (.mapIter (some b) since seen c0) ∧ (∀ x ∈ es.toList, x.born < since) ∧ (since ≤ c0 ∧ since ≤ clock) ∧
    (∀ e ∈ es.toList, ∀ k, e.key = arr k → (seen.contains e.born = true ↔ k ∈ done)) ∧ done.Nodup ∧ ∀ k ∈ done, k ∈ l.map (·.1)

theorem len_sub : ∀ (a b : List (List Nat)), a.Nodup → (∀ x ∈ a, x ∈ b) → a.length ≤ b.length
  | [], b, _, _ => Nat.zero_le _
  | x :: a, b, hn, hs => by
    rw [List.nodup_cons] at hn
    have hx := hs x List.mem_cons_self
    have := len_sub a (b.erase x) hn.2 fun y hy => (List.mem_erase_of_ne (fun e => hn.1 (by rw [← e]; exact hy))).2 (hs y (List.mem_cons_of_mem _ hy))
    rw [List.length_erase_of_mem hx] at this
    have := List.length_pos_of_mem hx
    rw [List.length_cons]; omega
section
variable {w : World} {b r : Nat} {l : List Ent} {done : List (List Nat)} {T E : TypeId}
theorem Iter.map (h : Iter w b r l done) : MapIs w b l := by
  obtain ⟨es, clock, _, _, _, h1, h2, h3, h4, _⟩ := h
  exact ⟨es, clock, h1, h2, h3, h4⟩
theorem Iter.ne (h : Iter w b r l done) : b ≠ r := by
  rintro rfl
  obtain ⟨es, clock, _, _, _, h1, _, _, _, h5, _⟩ := h
  rw [h1] at h5; cases h5
theorem Iter.lt (h : Iter w b r l done) : r < w.heap.size := by
  obtain ⟨es, clock, _, _, _, h1, _, _, _, h5, _⟩ := h
  exact (Array.getElem?_eq_some_iff.1 h5).1
theorem Iter.kept {S : Nat → Prop} {w' : World} (h : Iter w b r l done) (hk : Kept S w w') (hb : ¬ S b) (hr : ¬ S r) : Iter w' b r l done := by
  have h1 := h.map.lt
  have h2 := h.lt
  obtain ⟨es, clock, since, seen, c0, e1, e2, e3, e4, e5, rest⟩ := h
  exact ⟨es, clock, since, seen, c0, (hk.block b h1 hb).trans e1, e2, e3, e4, (hk.block r h2 hr).trans e5, rest⟩
theorem Iter.nodup (h : Iter w b r l done) : done.Nodup ∧ (l.map (·.1)).Nodup ∧ ∀ k ∈ done, k ∈ l.map (·.1) := by
  obtain ⟨es, clock, _, _, _, h1, h2, h3, h4, h5, h6, h7, h8, h9, h10⟩ := h
  exact ⟨h9, nodup_keys h2 h3, h10⟩
theorem Iter.size (h : Iter w b r l done) : done.length ≤ l.length := by
  obtain ⟨h1, h2, h3⟩ := h.nodup
  have := len_sub done (l.map (·.1)) h1 h3
  simpa using this

theorem Iter.left_kept {S : Nat → Prop} {w' : World} (h : Iter w b r l done) (hk : Kept S w w') (hb : ¬ S b) (hr : ¬ S r) : w'.rangeLeft b r = w.rangeLeft b r := by
  unfold World.rangeLeft
  rw [hk.block b h.map.lt hb, hk.block r h.lt hr]
theorem range_is (hT : Tryd.prog.underlying T = some (.map 28 E)) (h : MapIs w b l) :
    ∃ w', (Instr.range T (.map (some b))).run Tryd.prog w = .ok (.pointer (some ⟨w.heap.size, 0, none⟩)) w' ∧ Iter w' b w.heap.size l [] ∧ Kept (fun _ => False) w w' ∧ w'.heap.size = w.heap.size + 1 := by
  have hlt := h.lt
  obtain ⟨es, clock, hb, hs, he, hl⟩ := h
  refine ⟨_, run_range_map w T 28 E b es clock hT hb, ⟨es, clock, clock, #[], clock, ?_, hs, he, hl, heap_alloc_new w _, hs.1, ⟨Nat.le_refl _, Nat.le_refl _⟩, fun e _ k _ => ?_, List.nodup_nil, fun k hk => by cases hk⟩, (Kept.refl _ _).alloc _, by simp⟩
  · rw [heap_alloc_old w _ hlt]; exact hb
  · simp

theorem next_is (h : Iter w b r l done) (ty : TypeId) :
    ((∀ p ∈ l, p.1 ∈ done) ∧ (Instr.next (.pointer (some ⟨r, 0, none⟩)) false ty).run Tryd.prog w = .ok (.tuple #[.bool false]) w) ∨
    ∃ k v w', (k, v) ∈ l ∧ k ∉ done ∧ IsHash k ∧ (Instr.next (.pointer (some ⟨r, 0, none⟩)) false ty).run Tryd.prog w = .ok (.tuple #[.bool true, arr k, v]) w' ∧ Iter w' b r l (done ++ [k]) ∧ Kept (· = r) w w' ∧ w'.heap.size = w.heap.size ∧ w'.rangeLeft b r < w.rangeLeft b r ∧
      (Instr.entry (.pointer (some ⟨r, 0, none⟩))).run Tryd.prog w' = .ok (.tuple #[arr k, v]) w' := by
  have hne := h.ne
  have hrl := h.lt
  obtain ⟨es, clock, since, seen, c0, e1, e2, e3, e4, e5, e6, e7, e8, e9, e10⟩ := h
  have keyed : ∀ e ∈ es.toList, ∃ k, e.key = arr k ∧ (k, e.val) ∈ l ∧ IsHash k := fun e he => by
    have hm : (e.key, e.val) ∈ l.map (fun p => (arr p.1, p.2)) := by rw [← e3]; exact List.mem_map.2 ⟨e, he, rfl⟩
    obtain ⟨p, hp, hpe⟩ := List.mem_map.1 hm
    injection hpe with h1 h2
    refine ⟨p.1, h1.symm, ?_, e4 p hp⟩
    rw [← h2]; exact hp
  rcases run_next_at (P := Tryd.prog) w ty r b since c0 seen es clock e5 e1 e6 e7.1 with ⟨h0, hrun⟩ | ⟨e, he, w1, hw1, hrun⟩
  · refine .inl ⟨fun p hp => ?_, hrun⟩
    have hm : (arr p.1, p.2) ∈ es.toList.map (fun e => (e.key, e.val)) := by rw [e3]; exact List.mem_map.2 ⟨p, hp, rfl⟩
    obtain ⟨e, he, hee⟩ := List.mem_map.1 hm
    injection hee with h1 h2
    refine (e8 e he p.1 h1).1 ?_
    cases hc : seen.contains e.born with
    | true => rfl
    | false =>
      exfalso
      have : e ∈ leftOf es seen := by
        unfold leftOf
        exact Array.mem_filter.2 ⟨Array.mem_toList_iff.1 he, by rw [hc]; rfl⟩
      have hpos := Array.size_pos_of_mem this
      omega
  · obtain ⟨hem, hns⟩ := mem_left he
    obtain ⟨k, hk1, hk2, hk3⟩ := keyed e hem
    have hr1 : w1.heap[r]? = some (.mapIter (some b) since seen c0) := by rcases hw1 with rfl | rfl <;> exact e5
    have hb1 : w1.heap[b]? = some (.map es clock) := by rcases hw1 with rfl | rfl <;> exact e1
    have hkw : Kept (· = r) w w1 := by rcases hw1 with rfl | rfl; exact Kept.refl _ _; exact (Kept.refl _ _).drew
    have hsz : w1.heap.size = w.heap.size := by rcases hw1 with rfl | rfl <;> rfl
    have hnk : k ∉ done := fun hd => by rw [(e8 e hem k hk1).2 hd] at hns; cases hns
    refine .inr ⟨k, e.val, _, hk2, hnk, hk3, by rw [← hk1]; exact hrun, ?_, hkw.trans (setB_kept w1 r _), ?_, ?_, ?_⟩
    · refine ⟨es, clock, since, seen.push e.born, clock, ?_, e2, e3, e4, (heap_set hr1).1, e6, ⟨e7.2, e7.2⟩, fun e' he' k' hk' => ?_, ?_, ?_⟩
      · exact ((heap_set hr1).2 b hne).trans hb1
      · rw [contains_push, Bool.or_eq_true, e8 e' he' k' hk', List.mem_append, List.mem_singleton]
        constructor
        · rintro (h | h)
          · exact .inl h
          · refine .inr ?_
            have hb' : e'.born = e.born := beq_iff_eq.1 h
            have : e' = e := by
              have f1 := find_born e es.toList e2.2.1 hem
              have f2 := find_born e' es.toList e2.2.1 he'
              rw [hb', f1] at f2
              exact (Option.some.inj f2).symm
            subst this
            exact arr_inj (hk'.symm.trans hk1)
        · rintro (h | h)
          · exact .inl h
          · refine .inr ?_
            subst h
            have hkk : e'.key = e.key := hk'.trans hk1.symm
            have : e' = e := by
              obtain ⟨i, hi⟩ := List.getElem?_of_mem hem
              obtain ⟨j, hj⟩ := List.getElem?_of_mem he'
              have h1 : (es.toList.map (·.key))[i]? = some e.key := by rw [List.getElem?_map, hi]; rfl
              have h2 : (es.toList.map (·.key))[j]? = some e.key := by rw [List.getElem?_map, hj]; exact congrArg some hkk
              have hil : i < (es.toList.map (·.key)).length := by rw [List.length_map]; exact (List.getElem?_eq_some_iff.1 hi).1
              have := (List.getElem?_inj hil e2.2.2).1 (h1.trans h2.symm)
              subst this
              rw [hi] at hj
              exact (Option.some.inj hj).symm
            subst this
            simp
      · exact List.nodup_append.2 ⟨e9, by simp, fun a ha c hc => by rw [List.mem_singleton.1 hc]; rintro rfl; exact hnk ha⟩
      · intro k' hk'
        rcases List.mem_append.1 hk' with h | h
        · exact e10 k' h
        · rw [List.mem_singleton.1 h]; exact List.mem_map.2 ⟨(k, e.val), hk2, rfl⟩
    · show (w1.heap.setIfInBounds r _).size = _
      rw [Array.size_setIfInBounds, hsz]
    · have q1 : (setB w1 r (.mapIter (some b) since (seen.push e.born) clock)).heap[r]? = some (.mapIter (some b) since (seen.push e.born) clock) := (heap_set hr1).1
      have q2 : (setB w1 r (.mapIter (some b) since (seen.push e.born) clock)).heap[b]? = some (.map es clock) := ((heap_set hr1).2 b hne).trans hb1
      have q3 := left_shrinks es seen e he
      show (setB w1 r (.mapIter (some b) since (seen.push e.born) clock)).rangeLeft b r < _
      simp only [World.rangeLeft, e1, e5, q1, q2]
      exact q3
    · rw [← hk1]
      exact run_entry_at (P := Tryd.prog) _ r b since seen es clock e (heap_set hr1).1 (((heap_set hr1).2 b hne).trans hb1) hem e2.2.1
end
end Go.Proofs.YtngmpcmeebcdmaaDoor
