/- A map keyed by 32 bytes, as the list of its entries in the order in which they came: what a look-up, a store, a delete do. -/
import Derived.Test.YtngmpcmeebcdmaaDoorMap1
namespace Go.Proofs.YtngmpcmeebcdmaaDoor
set_option linter.unusedVariables false
set_option linter.unusedSimpArgs false
open Go.ChangeShapes Go.WideShapes Go.ChangeAt Go.RowKit Go.Maps Go.MapKept

abbrev Ent := List Nat × Value
/-- block b is a map that holds just these entries. -/
def MapIs (w : World) (b : Nat) (l : List Ent) : Prop :=
  ∃ es clock, w.heap[b]? = some (.map es clock) ∧ Stamped es clock ∧ es.toList.map (fun e => (e.key, e.val)) = l.map (fun p => (arr p.1, p.2)) ∧ ∀ p ∈ l, IsHash p.1
/-- what stands at a key. -/
def look : List Ent → List Nat → Option Value
  | [], _ => none
  | p :: l, k => if p.1 = k then some p.2 else look l k
/-- another value at a key. -/
def putL : List Ent → List Nat → Value → List Ent
  | [], k, v => [(k, v)]
  | p :: l, k, v => if p.1 = k then (k, v) :: l else p :: putL l k v
/-- without a key. -/
def delL : List Ent → List Nat → List Ent
  | [], _ => []
  | p :: l, k => if p.1 = k then l else p :: delL l k

theorem arr_inj {a b : List Nat} (h : arr a = arr b) : a = b := by
  have h2 : bcells a = bcells b := by
    unfold arr at h
    injection h with h
    simpa using congrArg Array.toList h
  unfold bcells at h2
  refine List.map_inj_right (f := fun n : Nat => Value.int .u8 (n : Int)) (fun x y hxy => ?_) |>.1 h2
  injection hxy with _ h
  omega
theorem MapIs.lt {w : World} {b : Nat} {l : List Ent} (h : MapIs w b l) : b < w.heap.size := by
  obtain ⟨es, clock, hb, _⟩ := h
  exact (Array.getElem?_eq_some_iff.1 hb).1
theorem MapIs.kept {S : Nat → Prop} {w w' : World} {b : Nat} {l : List Ent} (h : MapIs w b l) (hk : Kept S w w') (hb : ¬ S b) : MapIs w' b l := by
  have hlt := h.lt
  obtain ⟨es, clock, hh, r⟩ := h
  exact ⟨es, clock, (hk.block b hlt hb).trans hh, r⟩
theorem MapIs.drew {w : World} {b : Nat} {l : List Ent} (h : MapIs w b l) : MapIs w.drew b l := h
theorem MapIs.new (w : World) : MapIs (w.alloc (.map #[] 0)) w.heap.size [] :=
  ⟨#[], 0, heap_alloc_new w _, stamped_empty 0, rfl, fun p hp => by cases hp⟩

/-- where a key stands. -/
theorem ent_get {es : List MapEntry} {l : List Ent} (he : es.map (fun e => (e.key, e.val)) = l.map (fun p => (arr p.1, p.2))) (j : Nat) : (es[j]?).map (fun e => (e.key, e.val)) = (l[j]?).map (fun p => (arr p.1, p.2)) := by
  rw [← List.getElem?_map, he, List.getElem?_map]

theorem look_none {l : List Ent} {k : List Nat} (h : ∀ p ∈ l, p.1 ≠ k) : look l k = none := by
  induction l with
  | nil => rfl
  | cons p l ih => rw [look, if_neg (h p List.mem_cons_self), ih (fun q hq => h q (List.mem_cons_of_mem _ hq))]
theorem putL_none {l : List Ent} {k : List Nat} (v : Value) (h : ∀ p ∈ l, p.1 ≠ k) : putL l k v = l ++ [(k, v)] := by
  induction l with
  | nil => rfl
  | cons p l ih => rw [putL, if_neg (h p List.mem_cons_self), ih (fun q hq => h q (List.mem_cons_of_mem _ hq))]; rfl
theorem delL_none {l : List Ent} {k : List Nat} (h : ∀ p ∈ l, p.1 ≠ k) : delL l k = l := by
  induction l with
  | nil => rfl
  | cons p l ih => rw [delL, if_neg (h p List.mem_cons_self), ih (fun q hq => h q (List.mem_cons_of_mem _ hq))]
theorem look_at {l : List Ent} {k : List Nat} {v : Value} : ∀ {j : Nat}, l[j]? = some (k, v) → (l.map (·.1)).Nodup → look l k = some v := by
  induction l with
  | nil => intro j h; simp at h
  | cons p l ih =>
    intro j h hd
    rw [List.map_cons, List.nodup_cons] at hd
    cases j with
    | zero =>
      simp at h; subst h; rw [look, if_pos rfl]
    | succ j =>
      rw [List.getElem?_cons_succ] at h
      have hm : k ∈ l.map (·.1) := List.mem_map.2 ⟨(k, v), List.mem_of_getElem? h, rfl⟩
      rw [look, if_neg (fun e => hd.1 (by rw [e]; exact hm)), ih h hd.2]
theorem putL_at {l : List Ent} {k : List Nat} {v : Value} (v' : Value) : ∀ {j : Nat}, l[j]? = some (k, v) → (l.map (·.1)).Nodup → putL l k v' = l.set j (k, v') := by
  induction l with
  | nil => intro j h; simp at h
  | cons p l ih =>
    intro j h hd
    rw [List.map_cons, List.nodup_cons] at hd
    cases j with
    | zero =>
      simp at h; subst h; rw [putL, if_pos rfl]; rfl
    | succ j =>
      rw [List.getElem?_cons_succ] at h
      have hm : k ∈ l.map (·.1) := List.mem_map.2 ⟨(k, v), List.mem_of_getElem? h, rfl⟩
      rw [putL, if_neg (fun e => hd.1 (by rw [e]; exact hm)), ih h hd.2]; rfl
theorem delL_at {l : List Ent} {k : List Nat} {v : Value} : ∀ {j : Nat}, l[j]? = some (k, v) → (l.map (·.1)).Nodup → delL l k = l.eraseIdx j := by
  induction l with
  | nil => intro j h; simp at h
  | cons p l ih =>
    intro j h hd
    rw [List.map_cons, List.nodup_cons] at hd
    cases j with
    | zero =>
      simp at h; subst h; rw [delL, if_pos rfl]; rfl
    | succ j =>
      rw [List.getElem?_cons_succ] at h
      have hm : k ∈ l.map (·.1) := List.mem_map.2 ⟨(k, v), List.mem_of_getElem? h, rfl⟩
      rw [delL, if_neg (fun e => hd.1 (by rw [e]; exact hm)), ih h hd.2]; rfl

theorem nodup_keys {es : Array MapEntry} {clock : Nat} {l : List Ent} (hs : Stamped es clock) (he : es.toList.map (fun e => (e.key, e.val)) = l.map (fun p => (arr p.1, p.2))) : (l.map (·.1)).Nodup := by
  have h1 : es.toList.map (·.key) = (l.map (·.1)).map arr := by
    have := congrArg (List.map Prod.fst) he
    simpa [List.map_map, Function.comp_def] using this
  have h2 := hs.2.2
  rw [h1] at h2
  exact (List.pairwise_map.1 h2).imp (fun h e => h (by rw [e]))

/-- looking for a key: it is not there, or it stands at j. -/
theorem find_spec {es : Array MapEntry} {clock : Nat} {l : List Ent} {k : List Nat} (hk : IsHash k) (hs : Stamped es clock) (he : es.toList.map (fun e => (e.key, e.val)) = l.map (fun p => (arr p.1, p.2))) (hl : ∀ p ∈ l, IsHash p.1) (w : World) :
    ((Instr.findKey 28 (arr k) es.toList).run Tryd.prog w = .ok none w ∧ (∀ p ∈ l, p.1 ≠ k) ∧ ∀ e ∈ es.toList, e.key ≠ arr k) ∨
    ∃ j e v, (Instr.findKey 28 (arr k) es.toList).run Tryd.prog w = .ok (some (j, v)) w ∧ es[j]? = some e ∧ e.key = arr k ∧ e.val = v ∧ l[j]? = some (k, v) := by
  obtain ⟨kl, hkl⟩ := key_some k hk
  have hkeys : ∀ e ∈ es.toList, ∃ l, keyOf Tryd.prog 28 e.key = some l := fun e hem => by
    obtain ⟨j, hj⟩ := List.getElem?_of_mem hem
    have := ent_get he j
    rw [hj] at this
    cases hlj : l[j]? with
    | none => rw [hlj] at this; cases this
    | some p =>
      rw [hlj] at this
      simp only [Option.map_some, Option.some.injEq, Prod.mk.injEq] at this
      rw [this.1]
      exact key_some p.1 (hl p (List.mem_of_getElem? hlj))
  rcases hashKey.find w hkl es.toList hkeys with ⟨h1, h2⟩ | ⟨j, e, h1, h2, h3⟩
  · refine .inl ⟨h1, fun p hp e => ?_, h2⟩
    obtain ⟨j, hj⟩ := List.getElem?_of_mem hp
    have := ent_get he j
    rw [hj] at this
    cases hej : es.toList[j]? with
    | none => rw [hej] at this; cases this
    | some x =>
      rw [hej] at this
      simp only [Option.map_some, Option.some.injEq, Prod.mk.injEq] at this
      exact h2 x (List.mem_of_getElem? hej) (by rw [this.1, e])
  · refine .inr ⟨j, e, e.val, h1, by simpa using h2, h3, rfl, ?_⟩
    have := ent_get he j
    rw [h2] at this
    cases hlj : l[j]? with
    | none => rw [hlj] at this; cases this
    | some p =>
      rw [hlj] at this
      simp only [Option.map_some, Option.some.injEq, Prod.mk.injEq] at this
      have e1 : p.1 = k := arr_inj (by rw [← this.1, h3])
      rw [← e1, this.2]
end Go.Proofs.YtngmpcmeebcdmaaDoor
