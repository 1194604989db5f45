/- The operations on a map keyed by 32 bytes, as run equations. -/
import Derived.Test.YtngmpcmeebcdmaaDoorMap2
namespace Go.Proofs.YtngmpcmeebcdmaaDoor
set_option linter.unusedVariables false
set_option linter.unusedSimpArgs false
open Go.ChangeShapes Go.WideShapes Go.ChangeAt Go.RowKit Go.Maps Go.MapKept

theorem check_key (w : World) (em : Bool) {k : List Nat} (hk : IsHash k) : (Instr.checkKey em 10000 28 (arr k)).run Tryd.prog w = .ok () w := by
  obtain ⟨kl, hkl⟩ := key_some k hk
  exact hashKey.check w em hkl
theorem key_stays (w : World) {k : List Nat} (hk : IsHash k) : (Instr.keyThatStays (arr k) (arr k)).run Tryd.prog w = .ok (arr k) w := by
  obtain ⟨kl, hkl⟩ := key_some k hk
  exact hashKey.stays w hkl

theorem map_eraseIdx' {α β : Type} (f : α → β) (l : List α) (i : Nat) : (l.eraseIdx i).map f = (l.map f).eraseIdx i := by
  rw [List.eraseIdx_eq_take_drop_succ, List.eraseIdx_eq_take_drop_succ, List.map_append, List.map_take, List.map_drop]

section
variable {w : World} {b : Nat} {l : List Ent} {k : List Nat} {T E : TypeId} {z : Value}

theorem lookup_is (hT : Tryd.prog.underlying T = some (.map 28 E)) (hz : ∀ w, (zeroValue E).run Tryd.prog w = .ok z w) (h : MapIs w b l) (hk : IsHash k) :
    (Instr.lookup T (.map (some b)) (arr k) false).run Tryd.prog w = .ok ((look l k).getD z) w := by
  obtain ⟨es, clock, hb, hs, he, hl⟩ := h
  rcases find_spec hk hs he hl w with ⟨h1, h2, _⟩ | ⟨j, e, v, h1, _, _, _, h5⟩
  · rw [look_none h2]
    simp [Instr.lookup, run_underlying hT, MapKept.run_getObj_map hb, check_key w _ hk, h1, hz, Result.andThen]
  · rw [look_at h5 (nodup_keys hs he)]
    simp [Instr.lookup, run_underlying hT, MapKept.run_getObj_map hb, check_key w _ hk, h1, Result.andThen]
theorem lookup_ok_is (hT : Tryd.prog.underlying T = some (.map 28 E)) (hz : ∀ w, (zeroValue E).run Tryd.prog w = .ok z w) (h : MapIs w b l) (hk : IsHash k) :
    (Instr.lookup T (.map (some b)) (arr k) true).run Tryd.prog w = .ok (.tuple #[(look l k).getD z, .bool (look l k).isSome]) w := by
  obtain ⟨es, clock, hb, hs, he, hl⟩ := h
  rcases find_spec hk hs he hl w with ⟨h1, h2, _⟩ | ⟨j, e, v, h1, _, _, _, h5⟩
  · rw [look_none h2]
    simp [Instr.lookup, run_underlying hT, MapKept.run_getObj_map hb, check_key w _ hk, h1, hz, Result.andThen]
  · rw [look_at h5 (nodup_keys hs he)]
    simp [Instr.lookup, run_underlying hT, MapKept.run_getObj_map hb, check_key w _ hk, h1, Result.andThen]

/-- the world with another block b. -/
def setB (w : World) (b : Nat) (o : Obj) : World := { w with heap := w.heap.setIfInBounds b o }
theorem setB_kept (w : World) (b : Nat) (o : Obj) : Kept (· = b) w (setB w b o) :=
  ⟨rfl, rfl, rfl, by simp [setB], fun k _ hne => by simp [setB, Array.getElem?_setIfInBounds_ne (Ne.symm hne)]⟩
theorem setB_at {o o' : Obj} (hb : w.heap[b]? = some o) : (setB w b o').heap[b]? = some o' := (heap_set hb).1

theorem push_is {es : Array MapEntry} {clock : Nat} (hb : w.heap[b]? = some (.map es clock)) (hs : Stamped es clock) (he : es.toList.map (fun e => (e.key, e.val)) = l.map (fun p => (arr p.1, p.2))) (hl : ∀ p ∈ l, IsHash p.1) (hk : IsHash k) (v : Value)
    (hne : ∀ e ∈ es.toList, e.key ≠ arr k) (hn : ∀ p ∈ l, p.1 ≠ k) : MapIs (setB w b (.map (es.push { key := arr k, val := v, born := clock }) (clock + 1))) b (putL l k v) := by
  refine ⟨_, _, setB_at hb, stamped_push hs hne, ?_, fun p hp => ?_⟩
  · rw [putL_none v hn]
    simp [he]
  · rw [putL_none v hn] at hp
    rcases List.mem_append.1 hp with hp | hp
    · exact hl p hp
    · rw [List.mem_singleton.1 hp]; exact hk
theorem modify_is {es : Array MapEntry} {clock : Nat} {j : Nat} {e : MapEntry} {v0 : Value} (hb : w.heap[b]? = some (.map es clock)) (hs : Stamped es clock) (he : es.toList.map (fun e => (e.key, e.val)) = l.map (fun p => (arr p.1, p.2))) (hl : ∀ p ∈ l, IsHash p.1) (hk : IsHash k) (v : Value)
    (hj : es[j]? = some e) (hek : e.key = arr k) (hlj : l[j]? = some (k, v0)) (f : MapEntry → MapEntry) (hf1 : ∀ x, (f x).born = x.born) (hf2 : (f e).key = arr k) (hf3 : (f e).val = v) : MapIs (setB w b (.map (es.modify j f) clock)) b (putL l k v) := by
  have hd := nodup_keys hs he
  refine ⟨_, _, setB_at hb, stamped_modify hs j f (fun x _ => hf1 x) (fun x _ hx => by rw [hj] at hx; cases hx; rw [hf2, hek]), ?_, fun p hp => ?_⟩
  · rw [putL_at v hlj hd]
    apply List.ext_getElem?
    intro i
    have hg := ent_get he i
    rw [List.getElem?_map, List.getElem?_map, Array.getElem?_toList, Array.getElem?_modify, List.getElem?_set]
    rw [Array.getElem?_toList] at hg
    by_cases hi : j = i
    · subst hi
      have hlt := (List.getElem?_eq_some_iff.1 hlj).1
      rw [if_pos rfl, if_pos rfl, if_pos hlt, hj]
      simp [hf2, hf3]
    · rw [if_neg hi, if_neg hi]; exact hg
  · rw [putL_at v hlj hd] at hp
    rcases List.mem_or_eq_of_mem_set hp with hp | hp
    · exact hl p hp
    · rw [hp]; exact hk

theorem update_is (hT : Tryd.prog.underlying T = some (.map 28 E)) (h : MapIs w b l) (hk : IsHash k) (v : Value) :
    ∃ w', (Instr.mapUpdate T (.map (some b)) (arr k) v).run Tryd.prog w = .ok () w' ∧ MapIs w' b (putL l k v) ∧ Kept (· = b) w w' := by
  obtain ⟨es, clock, hb, hs, he, hl⟩ := h
  rcases find_spec hk hs he hl w with ⟨h1, h2, h3⟩ | ⟨j, e, v0, h1, h2, h3, h4, h5⟩
  · refine ⟨_, ?_, push_is hb hs he hl hk v h3 h2, setB_kept _ _ _⟩
    simp [Instr.mapUpdate, run_underlying hT, MapKept.run_getObj_map hb, check_key w _ hk, h1, MapKept.run_setObj_map _ hb, Result.andThen]
    rfl
  · refine ⟨_, ?_, modify_is hb hs he hl hk v h2 h3 h5 (fun x => { x with key := arr k, val := v }) (fun _ => rfl) rfl rfl, setB_kept _ _ _⟩
    simp [Instr.mapUpdate, run_underlying hT, MapKept.run_getObj_map hb, check_key w _ hk, h1, h2, h3, key_stays w hk, MapKept.run_setObj_map _ hb, Result.andThen]
    rfl

theorem delete_is (hT : Tryd.prog.underlying T = some (.map 28 E)) (h : MapIs w b l) (hk : IsHash k) (K : TypeId) (ty : TypeId) :
    ∃ w', (Builtin.delete_ #[T, K] ty #[.map (some b), arr k]).run Tryd.prog w = .ok (.tuple #[]) w' ∧ MapIs w' b (delL l k) ∧ Kept (· = b) w w' := by
  obtain ⟨es, clock, hb, hs, he, hl⟩ := h
  rcases find_spec hk hs he hl w with ⟨h1, h2, h3⟩ | ⟨j, e, v0, h1, h2, h3, h4, h5⟩
  · refine ⟨setB w b (.map es clock), ?_, ?_, setB_kept _ _ _⟩
    · simp [Builtin.delete_, run_underlying hT, MapKept.run_getObj_map hb, check_key w _ hk, h1, MapKept.run_setObj_map _ hb, Result.andThen]
      rfl
    · rw [delL_none h2]; exact ⟨es, clock, setB_at hb, hs, he, hl⟩
  · refine ⟨setB w b (.map (es.eraseIdxIfInBounds j) clock), ?_, ?_, setB_kept _ _ _⟩
    · simp [Builtin.delete_, run_underlying hT, MapKept.run_getObj_map hb, check_key w _ hk, h1, MapKept.run_setObj_map _ hb, Result.andThen]
      rfl
    · rw [delL_at h5 (nodup_keys hs he)]
      refine ⟨_, _, setB_at hb, stamped_erase hs j, ?_, fun p hp => hl p (List.mem_of_mem_eraseIdx hp)⟩
      have hjl : j < es.size := (Array.getElem?_eq_some_iff.1 h2).1
      simp only [Array.eraseIdxIfInBounds, hjl, dif_pos]
      rw [Array.toList_eraseIdx, map_eraseIdx', he, map_eraseIdx']

theorem putL_putL (l : List Ent) (k : List Nat) (v v' : Value) : putL (putL l k v) k v' = putL l k v' := by
  induction l with
  | nil => simp [putL]
  | cons p l ih =>
    by_cases h : p.1 = k
    · simp [putL, h]
    · simp [putL, h, ih]

theorem look_putL (l : List Ent) (k : List Nat) (v : Value) : look (putL l k v) k = some v := by
  induction l with
  | nil => simp [putL, look]
  | cons p l ih =>
    by_cases h : p.1 = k
    · simp [putL, look, h]
    · simp [putL, look, h, ih]
theorem look_putL_ne (l : List Ent) {k k' : List Nat} (v : Value) (hne : k ≠ k') : look (putL l k v) k' = look l k' := by
  induction l with
  | nil => simp [putL, look, hne]
  | cons p l ih =>
    by_cases h : p.1 = k
    · simp [putL, look, h, hne]
    · simp [putL, look, h, ih]
theorem look_delL_ne (l : List Ent) {k k' : List Nat} (hne : k ≠ k') : look (delL l k) k' = look l k' := by
  induction l with
  | nil => rfl
  | cons p l ih =>
    by_cases h : p.1 = k
    · simp [delL, look, h, hne]
    · simp [delL, look, h, ih]

theorem store_after {es : Array MapEntry} {clock j : Nat} {e : MapEntry} (h : MapIs w b l) (hb : w.heap[b]? = some (.map es clock)) (hj : es[j]? = some e) (hek : e.key = arr k) (hk : IsHash k) (v : Value) :
    ∃ w2, (Instr.entryStore T (.map (some b)) (.int .i64 (e.born : Int)) v).run Tryd.prog w = .ok () w2 ∧ MapIs w2 b (putL l k v) ∧ Kept (· = b) w w2 := by
  obtain ⟨es', clock', hb', hs, he, hl⟩ := h
  rw [hb] at hb'
  injection hb' with hb'
  injection hb' with e1 e2
  subst e1 e2
  have hlj : l[j]? = some (k, e.val) := by
    have := ent_get he j
    rw [Array.getElem?_toList, hj] at this
    cases hlj : l[j]? with
    | none => rw [hlj] at this; cases this
    | some p =>
      rw [hlj] at this
      simp only [Option.map_some, Option.some.injEq, Prod.mk.injEq] at this
      have e1 : p.1 = k := arr_inj (by rw [← this.1, hek])
      rw [← e1, this.2]
  refine ⟨_, ?_, modify_is hb hs he hl hk v hj hek hlj (fun x => { x with val := v }) (fun _ => rfl) hek rfl, setB_kept _ _ _⟩
  have hjl : j < es.size := (Array.getElem?_eq_some_iff.1 hj).1
  have hidx : es.findIdx? (fun x => (x.born : Int) == (e.born : Int)) = some j := by
    rw [Array.findIdx?_eq_some_iff_getElem]
    have hej : es[j] = e := (Array.getElem?_eq_some_iff.1 hj).2
    refine ⟨hjl, by rw [hej]; simp, fun i hi => ?_⟩
    simp only [beq_iff_eq, Int.natCast_inj]
    intro hne
    have hnd := hs.2.1
    have h1 : (es.toList.map (·.born))[i]? = some e.born := by rw [List.getElem?_map, Array.getElem?_toList, Array.getElem?_eq_getElem (by omega), Option.map_some, hne]
    have h2 : (es.toList.map (·.born))[j]? = some e.born := by rw [List.getElem?_map, Array.getElem?_toList, hj]; rfl
    have hil : i < (es.toList.map (·.born)).length := by simp; omega
    have := (List.getElem?_inj hil hnd).1 (h1.trans h2.symm)
    omega
  simp [Instr.entryStore, MapKept.run_getObj_map hb, asInt, asIntOf, hidx, MapKept.run_setObj_map _ hb, Result.andThen]
  rfl

/-- 'm[k] op= x': the entry is made sure of, then stored into. -/
theorem entry_is (hT : Tryd.prog.underlying T = some (.map 28 E)) (hz : ∀ w, (zeroValue E).run Tryd.prog w = .ok z w) (h : MapIs w b l) (hk : IsHash k) :
    ∃ w1 v0 st, (Instr.mapEntry T (.map (some b)) (arr k)).run Tryd.prog w = .ok (.tuple #[v0, .int .i64 st]) w1 ∧ Kept (· = b) w w1 ∧ (MapIs w1 b (putL l k v0) ∧ v0 = (look l k).getD z) ∧
      ∀ v, ∃ w2, (Instr.entryStore T (.map (some b)) (.int .i64 st) v).run Tryd.prog w1 = .ok () w2 ∧ MapIs w2 b (putL l k v) ∧ Kept (· = b) w w2 := by
  obtain ⟨es, clock, hb, hs, he, hl⟩ := h
  rcases find_spec hk hs he hl w with ⟨h1, h2, h3⟩ | ⟨j, e, v0, h1, h2, h3, h4, h5⟩
  · refine ⟨setB w b (.map (es.push { key := arr k, val := z, born := clock }) (clock + 1)), z, clock, ?_, setB_kept _ _ _, ⟨push_is hb hs he hl hk z h3 h2, by rw [look_none h2]; rfl⟩, fun v => ?_⟩
    · simp [Instr.mapEntry, run_underlying hT, MapKept.run_getObj_map hb, check_key w _ hk, h1, hz, MapKept.run_setObj_map _ hb, Result.andThen, goInt]
      rfl
    · have h1 := push_is hb hs he hl hk z h3 h2
      obtain ⟨w2, hr, hm, hkk⟩ := store_after (T := T) (j := es.size) (e := { key := arr k, val := z, born := clock }) h1 (setB_at hb) (by simp) rfl hk v
      exact ⟨w2, hr, by rw [← putL_putL l k z v]; exact hm, (setB_kept _ _ _).trans hkk⟩
  · refine ⟨setB w b (.map (es.modify j fun x => { x with key := arr k }) clock), e.val, e.born, ?_, setB_kept _ _ _, ⟨modify_is hb hs he hl hk e.val h2 h3 h5 (fun x => { x with key := arr k }) (fun _ => rfl) rfl rfl, by rw [look_at h5 (nodup_keys hs he), h4]; rfl⟩, fun v => ?_⟩
    · simp [Instr.mapEntry, run_underlying hT, MapKept.run_getObj_map hb, check_key w _ hk, h1, h2, h3, h4, key_stays w hk, MapKept.run_setObj_map _ hb, Result.andThen, goInt]
      rfl
    · have h6 := modify_is hb hs he hl hk e.val h2 h3 h5 (fun x => { x with key := arr k }) (fun _ => rfl) rfl rfl
      obtain ⟨w2, hr, hm, hkk⟩ := store_after (T := T) (j := j) (e := { e with key := arr k }) h6 (setB_at hb) (by rw [Array.getElem?_modify, if_pos rfl, h2]; rfl) rfl hk v
      exact ⟨w2, hr, by rw [← putL_putL l k e.val v]; exact hm, (setB_kept _ _ _).trans hkk⟩
end
end Go.Proofs.YtngmpcmeebcdmaaDoor
