/- Maps keyed by 32 bytes: the key's law; what a key reads as. -/
import Derived.Test.YtknfbccbdiidjaaGreatDoorWu
import Derived.Test.YtknfbccbdiidjaaGreatDoorPMem
import Derived.DeepKeys4
import Derived.WideKeyArr
import Derived.Maps.Keyed
import Derived.MapKept
import Derived.Maps.RangeWalk
namespace Go.Proofs.YtknfbccbdiidjaaGreatDoor
set_option linter.unusedVariables false
set_option linter.unusedSimpArgs false
open Go.ChangeShapes Go.WideShapes Go.ChangeAt Go.RowKit Go.Maps

theorem laidOutM : laidOutB Tryz.prog = true := by kernel_rfl
theorem hashKey : WideMaps.KeyLaw Tryz.prog 27 := deep_law_laid laidOutM (m := 2) (by omega) (of_decide_eq_true (by kernel_rfl)) (by kernel_rfl) (by rw [Tryz.underlying27])
theorem mapM_some {α β : Type} (f : α → Option β) (g : α → β) : ∀ l : List α, (∀ x ∈ l, f x = some (g x)) → l.mapM f = some (l.map g)
 | [], _ => rfl
 | x :: l, h => by
  rw [List.mapM_cons, h x List.mem_cons_self, mapM_some f g l (fun y hy => h y (List.mem_cons_of_mem _ hy))]
  rfl
theorem key_some (ks : List Nat) (h : IsHash ks) : ∃ kl, keyOf Tryz.prog 27 (arr ks) = some kl := by
 unfold keyOf
 rw [Tryz.underlying27]
 have h1 : Tryz.prog.keyType 27 = true := by kernel_rfl
 have h2 : (arr ks).formed Tryz.prog 27 = true := by
  have hc : Tryz.prog.cellsOf 27 = 32 := by kernel_rfl
  unfold arr
  simp [Value.formed, Tryz.underlying27, hc, bcells_length, h.1]
 have h3 : ∃ ls, Tryz.prog.keyLits (Tryz.prog.types.size + 1) 27 (arr ks).cells.toList = some ls := by
  have hc : Tryz.prog.cellsOf 27 = 32 := by kernel_rfl
  have hc1 : Tryz.prog.cellsOf 5 = 1 := by kernel_rfl
  obtain ⟨d, hd⟩ : ∃ d, Tryz.prog.types.size = d + 1 := ⟨Tryz.prog.types.size - 1, by have : 0 < Tryz.prog.types.size := of_decide_eq_true (by kernel_rfl); omega⟩
  rw [hd]
  unfold Program.keyLits
  rw [Tryz.underlying27]
  have hcs : (arr ks).cells.toList = bcells ks := by simp [arr, Value.cells]
  rw [hcs]
  simp only []
  rw [if_pos (by rw [hc, bcells_length, h.1]), hc1, mapM_some _ (fun i => [Lit.int .u8 ((ks.getD i 0 : Nat) : Int)]) (List.range 32) (fun i hi => ?_)]
  · exact ⟨_, rfl⟩
  · have hi2 : i < 32 := List.mem_range.1 hi
    have hlt : ks.getD i 0 < 256 := by
     rw [List.getD_eq_getElem?_getD, List.getElem?_eq_getElem (by rw [h.1]; exact hi2)]
     exact h.2 _ (List.getElem_mem _)
    have Aa : ((bcells ks).drop (i * 1)).take 1 = [.int .u8 ((ks.getD i 0 : Nat) : Int)] := by
     rw [Nat.mul_one, List.take_one, List.head?_drop, bcells_get _ _ (by rw [h.1]; exact hi2)]
     rfl
    rw [Aa]
    unfold Program.keyLits
    rw [Tryz.underlying5]
    simp only []
    generalize ks.getD i 0 = n at hlt
    have m0 : IntKind.u8.min = 0 := by decide
    have m1 : IntKind.u8.max = 255 := by decide
    have hw : (Lit.int .u8 (n : Int)).wf = true := by simp [Lit.wf, m0, m1]; omega
    rw [if_pos ⟨trivial, hw⟩]
 obtain ⟨ls, h3⟩ := h3
 rw [h1, h2, h3]
 exact ⟨_, rfl⟩

/- A map keyed by 32 bytes, as the list of its entries in the order in which they came: what a look-up, a store, a delete do. -/
open Go.ChangeShapes Go.WideShapes Go.ChangeAt Go.RowKit Go.Maps Go.MapKept

abbrev Ent := List Nat × Value
def MapIs (w : World) (b : Nat) (l : List Ent) : Prop :=
 ∃ es clock, w.heap[b]? = some (.map es clock) ∧ Stamped es clock ∧ es.toList.map (fun e => (e.key, e.val)) = l.map (fun p => (arr p.1, p.2)) ∧ ∀ p ∈ l, IsHash p.1
def look : List Ent → List Nat → Option Value
 | [], _ => none
 | p :: l, k => if p.1 = k then some p.2 else look l k
def putL : List Ent → List Nat → Value → List Ent
 | [], k, v => [(k, v)]
 | p :: l, k, v => if p.1 = k then (k, v) :: l else p :: putL l k v
def delL : List Ent → List Nat → List Ent
 | [], _ => []
 | p :: l, k => if p.1 = k then l else p :: delL l k

theorem arr_inj {a b : List Nat} (h : arr a = arr b) : a = b := by
 have h2 : bcells a = bcells b := by
  unfold arr at h
  injection h with h
  simpa using congrArg Array.toList h
 unfold bcells at h2
 refine List.map_inj_right (f := fun n : Nat => Value.int .u8 (n : Int)) (fun x y hxy => ?_) |>.1 h2
 injection hxy with _ h
 omega
theorem MapIs.lt {w : World} {b : Nat} {l : List Ent} (h : MapIs w b l) : b < w.heap.size := by
 obtain ⟨es, clock, hb, _⟩ := h
 exact (Array.getElem?_eq_some_iff.1 hb).1
theorem MapIs.kept {S : Nat → Prop} {w w' : World} {b : Nat} {l : List Ent} (h : MapIs w b l) (hk : Kept S w w') (hb : ¬ S b) : MapIs w' b l := by
 have hlt := h.lt
 obtain ⟨es, clock, hh, r⟩ := h
 exact ⟨es, clock, (hk.block b hlt hb).trans hh, r⟩
theorem MapIs.drew {w : World} {b : Nat} {l : List Ent} (h : MapIs w b l) : MapIs w.drew b l := h
theorem MapIs.new (w : World) : MapIs (w.alloc (.map #[] 0)) w.heap.size [] :=
 ⟨#[], 0, heap_alloc_new w _, stamped_empty 0, rfl, fun p hp => by cases hp⟩

theorem ent_get {es : List MapEntry} {l : List Ent} (he : es.map (fun e => (e.key, e.val)) = l.map (fun p => (arr p.1, p.2))) (j : Nat) : (es[j]?).map (fun e => (e.key, e.val)) = (l[j]?).map (fun p => (arr p.1, p.2)) := by
 rw [← List.getElem?_map, he, List.getElem?_map]

theorem look_none {l : List Ent} {k : List Nat} (h : ∀ p ∈ l, p.1 ≠ k) : look l k = none := by
 induction l with
 | nil => rfl
 | cons p l ih => rw [look, if_neg (h p List.mem_cons_self), ih (fun q hq => h q (List.mem_cons_of_mem _ hq))]
theorem putL_none {l : List Ent} {k : List Nat} (v : Value) (h : ∀ p ∈ l, p.1 ≠ k) : putL l k v = l ++ [(k, v)] := by
 induction l with
 | nil => rfl
 | cons p l ih => rw [putL, if_neg (h p List.mem_cons_self), ih (fun q hq => h q (List.mem_cons_of_mem _ hq))]; rfl
theorem look_at {l : List Ent} {k : List Nat} {v : Value} : ∀ {j : Nat}, l[j]? = some (k, v) → (l.map (·.1)).Nodup → look l k = some v := by
 induction l with
 | nil => intro j h; simp at h
 | cons p l ih =>
  intro j h hd
  rw [List.map_cons, List.nodup_cons] at hd
  cases j with
  | zero =>
   simp at h; subst h; rw [look, if_pos rfl]
  | succ j =>
   rw [List.getElem?_cons_succ] at h
   have hm : k ∈ l.map (·.1) := List.mem_map.2 ⟨(k, v), List.mem_of_getElem? h, rfl⟩
   rw [look, if_neg (fun e => hd.1 (by rw [e]; exact hm)), ih h hd.2]
theorem putL_at {l : List Ent} {k : List Nat} {v : Value} (v' : Value) : ∀ {j : Nat}, l[j]? = some (k, v) → (l.map (·.1)).Nodup → putL l k v' = l.set j (k, v') := by
 induction l with
 | nil => intro j h; simp at h
 | cons p l ih =>
  intro j h hd
  rw [List.map_cons, List.nodup_cons] at hd
  cases j with
  | zero =>
   simp at h; subst h; rw [putL, if_pos rfl]; rfl
  | succ j =>
   rw [List.getElem?_cons_succ] at h
   have hm : k ∈ l.map (·.1) := List.mem_map.2 ⟨(k, v), List.mem_of_getElem? h, rfl⟩
   rw [putL, if_neg (fun e => hd.1 (by rw [e]; exact hm)), ih h hd.2]; rfl
theorem nodup_keys {es : Array MapEntry} {clock : Nat} {l : List Ent} (hs : Stamped es clock) (he : es.toList.map (fun e => (e.key, e.val)) = l.map (fun p => (arr p.1, p.2))) : (l.map (·.1)).Nodup := by
 have h1 : es.toList.map (·.key) = (l.map (·.1)).map arr := by
  have := congrArg (List.map Prod.fst) he
  simpa [List.map_map, Function.comp_def] using this
 have h2 := hs.2.2
 rw [h1] at h2
 exact (List.pairwise_map.1 h2).imp (fun h e => h (by rw [e]))

theorem find_spec {es : Array MapEntry} {clock : Nat} {l : List Ent} {k : List Nat} (hk : IsHash k) (hs : Stamped es clock) (he : es.toList.map (fun e => (e.key, e.val)) = l.map (fun p => (arr p.1, p.2))) (hl : ∀ p ∈ l, IsHash p.1) (w : World) :
   ((Instr.findKey 27 (arr k) es.toList).run Tryz.prog w = .ok none w ∧ (∀ p ∈ l, p.1 ≠ k) ∧ ∀ e ∈ es.toList, e.key ≠ arr k) ∨
   ∃ j e v, (Instr.findKey 27 (arr k) es.toList).run Tryz.prog w = .ok (some (j, v)) w ∧ es[j]? = some e ∧ e.key = arr k ∧ e.val = v ∧ l[j]? = some (k, v) := by
 obtain ⟨kl, hkl⟩ := key_some k hk
 have Aa : ∀ e ∈ es.toList, ∃ l, keyOf Tryz.prog 27 e.key = some l := fun e hem => by
   obtain ⟨j, hj⟩ := List.getElem?_of_mem hem
   have := ent_get he j
   rw [hj] at this
   cases hlj : l[j]? with
   | none => rw [hlj] at this; cases this
   | some p =>
    rw [hlj] at this
    simp only [Option.map_some, Option.some.injEq, Prod.mk.injEq] at this
    rw [this.1]
    exact key_some p.1 (hl p (List.mem_of_getElem? hlj))
 rcases hashKey.find w hkl es.toList Aa with ⟨h1, h2⟩ | ⟨j, e, h1, h2, h3⟩
 · refine .inl ⟨h1, fun p hp e => ?_, h2⟩
   obtain ⟨j, hj⟩ := List.getElem?_of_mem hp
   have := ent_get he j
   rw [hj] at this
   cases hej : es.toList[j]? with
   | none => rw [hej] at this; cases this
   | some x =>
    rw [hej] at this
    simp only [Option.map_some, Option.some.injEq, Prod.mk.injEq] at this
    exact h2 x (List.mem_of_getElem? hej) (by rw [this.1, e])
 · refine .inr ⟨j, e, e.val, h1, by simpa using h2, h3, rfl, ?_⟩
   have := ent_get he j
   rw [h2] at this
   cases hlj : l[j]? with
   | none => rw [hlj] at this; cases this
   | some p =>
    rw [hlj] at this
    simp only [Option.map_some, Option.some.injEq, Prod.mk.injEq] at this
    have e1 : p.1 = k := arr_inj (by rw [← this.1, h3])
    rw [← e1, this.2]
section

/- The operations on a map keyed by 32 bytes, as run equations. -/

theorem check_key (w : World) (em : Bool) {k : List Nat} (hk : IsHash k) : (Instr.checkKey em 10000 27 (arr k)).run Tryz.prog w = .ok () w := by
 obtain ⟨kl, hkl⟩ := key_some k hk
 exact hashKey.check w em hkl
theorem key_stays (w : World) {k : List Nat} (hk : IsHash k) : (Instr.keyThatStays (arr k) (arr k)).run Tryz.prog w = .ok (arr k) w := by
 obtain ⟨kl, hkl⟩ := key_some k hk
 exact hashKey.stays w hkl

section
variable {w : World} {b : Nat} {l : List Ent} {k : List Nat} {T E : TypeId} {z : Value}

theorem lookup_is (hT : Tryz.prog.underlying T = some (.map 27 E)) (hz : ∀ w, (zeroValue E).run Tryz.prog w = .ok z w) (h : MapIs w b l) (hk : IsHash k) :
   (Instr.lookup T (.map (some b)) (arr k) false).run Tryz.prog w = .ok ((look l k).getD z) w := by
 obtain ⟨es, clock, hb, hs, he, hl⟩ := h
 rcases find_spec hk hs he hl w with ⟨h1, h2, _⟩ | ⟨j, e, v, h1, _, _, _, h5⟩
 · rw [look_none h2]
   simp [Instr.lookup, run_underlying hT, MapKept.run_getObj_map hb, check_key w _ hk, h1, hz, Result.andThen]
 · rw [look_at h5 (nodup_keys hs he)]
   simp [Instr.lookup, run_underlying hT, MapKept.run_getObj_map hb, check_key w _ hk, h1, Result.andThen]
theorem lookup_ok_is (hT : Tryz.prog.underlying T = some (.map 27 E)) (hz : ∀ w, (zeroValue E).run Tryz.prog w = .ok z w) (h : MapIs w b l) (hk : IsHash k) :
   (Instr.lookup T (.map (some b)) (arr k) true).run Tryz.prog w = .ok (.tuple #[(look l k).getD z, .bool (look l k).isSome]) w := by
 obtain ⟨es, clock, hb, hs, he, hl⟩ := h
 rcases find_spec hk hs he hl w with ⟨h1, h2, _⟩ | ⟨j, e, v, h1, _, _, _, h5⟩
 · rw [look_none h2]
   simp [Instr.lookup, run_underlying hT, MapKept.run_getObj_map hb, check_key w _ hk, h1, hz, Result.andThen]
 · rw [look_at h5 (nodup_keys hs he)]
   simp [Instr.lookup, run_underlying hT, MapKept.run_getObj_map hb, check_key w _ hk, h1, Result.andThen]

def setB (w : World) (b : Nat) (o : Obj) : World := { w with heap := w.heap.setIfInBounds b o }
theorem setB_kept (w : World) (b : Nat) (o : Obj) : Kept (· = b) w (setB w b o) :=
 ⟨rfl, rfl, rfl, by simp [setB], fun k _ hne => by simp [setB, Array.getElem?_setIfInBounds_ne (Ne.symm hne)]⟩
theorem setB_at {o o' : Obj} (hb : w.heap[b]? = some o) : (setB w b o').heap[b]? = some o' := (heap_set hb).1

theorem push_is {es : Array MapEntry} {clock : Nat} (hb : w.heap[b]? = some (.map es clock)) (hs : Stamped es clock) (he : es.toList.map (fun e => (e.key, e.val)) = l.map (fun p => (arr p.1, p.2))) (hl : ∀ p ∈ l, IsHash p.1) (hk : IsHash k) (v : Value)
   (hne : ∀ e ∈ es.toList, e.key ≠ arr k) (hn : ∀ p ∈ l, p.1 ≠ k) : MapIs (setB w b (.map (es.push { key := arr k, val := v, born := clock }) (clock + 1))) b (putL l k v) := by
 refine ⟨_, _, setB_at hb, stamped_push hs hne, ?_, fun p hp => ?_⟩
 · rw [putL_none v hn]
   simp [he]
 · rw [putL_none v hn] at hp
   rcases List.mem_append.1 hp with hp | hp
   · exact hl p hp
   · rw [List.mem_singleton.1 hp]; exact hk
theorem modify_is {es : Array MapEntry} {clock : Nat} {j : Nat} {e : MapEntry} {v0 : Value} (hb : w.heap[b]? = some (.map es clock)) (hs : Stamped es clock) (he : es.toList.map (fun e => (e.key, e.val)) = l.map (fun p => (arr p.1, p.2))) (hl : ∀ p ∈ l, IsHash p.1) (hk : IsHash k) (v : Value)
   (hj : es[j]? = some e) (hek : e.key = arr k) (hlj : l[j]? = some (k, v0)) (f : MapEntry → MapEntry) (hf1 : ∀ x, (f x).born = x.born) (hf2 : (f e).key = arr k) (hf3 : (f e).val = v) : MapIs (setB w b (.map (es.modify j f) clock)) b (putL l k v) := by
 have hd := nodup_keys hs he
 refine ⟨_, _, setB_at hb, stamped_modify hs j f (fun x _ => hf1 x) (fun x _ hx => by rw [hj] at hx; cases hx; rw [hf2, hek]), ?_, fun p hp => ?_⟩
 · rw [putL_at v hlj hd]
   apply List.ext_getElem?
   intro i
   have hg := ent_get he i
   rw [List.getElem?_map, List.getElem?_map, Array.getElem?_toList, Array.getElem?_modify, List.getElem?_set]
   rw [Array.getElem?_toList] at hg
   by_cases hi : j = i
   · subst hi
     have hlt := (List.getElem?_eq_some_iff.1 hlj).1
     rw [if_pos rfl, if_pos rfl, if_pos hlt, hj]
     simp [hf2, hf3]
   · rw [if_neg hi, if_neg hi]; exact hg
 · rw [putL_at v hlj hd] at hp
   rcases List.mem_or_eq_of_mem_set hp with hp | hp
   · exact hl p hp
   · rw [hp]; exact hk

theorem putL_putL (l : List Ent) (k : List Nat) (v v' : Value) : putL (putL l k v) k v' = putL l k v' := by
 induction l with
 | nil => simp [putL]
 | cons p l ih =>
  by_cases h : p.1 = k
  · simp [putL, h]
  · simp [putL, h, ih]

theorem store_after {es : Array MapEntry} {clock j : Nat} {e : MapEntry} (h : MapIs w b l) (hb : w.heap[b]? = some (.map es clock)) (hj : es[j]? = some e) (hek : e.key = arr k) (hk : IsHash k) (v : Value) :
  ∃ w2, (Instr.entryStore T (.map (some b)) (.int .i64 (e.born : Int)) v).run Tryz.prog w = .ok () w2 ∧ MapIs w2 b (putL l k v) ∧ Kept (· = b) w w2 := by
 obtain ⟨es', clock', hb', hs, he, hl⟩ := h
 rw [hb] at hb'
 injection hb' with hb'
 injection hb' with e1 e2
 subst e1 e2
 have hlj : l[j]? = some (k, e.val) := by
  have := ent_get he j
  rw [Array.getElem?_toList, hj] at this
  cases hlj : l[j]? with
  | none => rw [hlj] at this; cases this
  | some p =>
   rw [hlj] at this
   simp only [Option.map_some, Option.some.injEq, Prod.mk.injEq] at this
   have e1 : p.1 = k := arr_inj (by rw [← this.1, hek])
   rw [← e1, this.2]
 refine ⟨_, ?_, modify_is hb hs he hl hk v hj hek hlj (fun x => { x with val := v }) (fun _ => rfl) hek rfl, setB_kept _ _ _⟩
 have hjl : j < es.size := (Array.getElem?_eq_some_iff.1 hj).1
 have Aa : es.findIdx? (fun x => (x.born : Int) == (e.born : Int)) = some j := by
  rw [Array.findIdx?_eq_some_iff_getElem]
  have hej : es[j] = e := (Array.getElem?_eq_some_iff.1 hj).2
  refine ⟨hjl, by rw [hej]; simp, fun i hi => ?_⟩
  simp only [beq_iff_eq, Int.natCast_inj]
  intro hne
  have hnd := hs.2.1
  have h1 : (es.toList.map (·.born))[i]? = some e.born := by rw [List.getElem?_map, Array.getElem?_toList, Array.getElem?_eq_getElem (by omega), Option.map_some, hne]
  have h2 : (es.toList.map (·.born))[j]? = some e.born := by rw [List.getElem?_map, Array.getElem?_toList, hj]; rfl
  have hil : i < (es.toList.map (·.born)).length := by simp; omega
  have := (List.getElem?_inj hil hnd).1 (h1.trans h2.symm)
  omega
 simp [Instr.entryStore, MapKept.run_getObj_map hb, asInt, asIntOf, Aa, MapKept.run_setObj_map _ hb, Result.andThen]
 rfl

theorem entry_is (hT : Tryz.prog.underlying T = some (.map 27 E)) (hz : ∀ w, (zeroValue E).run Tryz.prog w = .ok z w) (h : MapIs w b l) (hk : IsHash k) :
   ∃ w1 v0 st, (Instr.mapEntry T (.map (some b)) (arr k)).run Tryz.prog w = .ok (.tuple #[v0, .int .i64 st]) w1 ∧ Kept (· = b) w w1 ∧ (MapIs w1 b (putL l k v0) ∧ v0 = (look l k).getD z) ∧
     ∀ v, ∃ w2, (Instr.entryStore T (.map (some b)) (.int .i64 st) v).run Tryz.prog w1 = .ok () w2 ∧ MapIs w2 b (putL l k v) ∧ Kept (· = b) w w2 := by
 obtain ⟨es, clock, hb, hs, he, hl⟩ := h
 rcases find_spec hk hs he hl w with ⟨h1, h2, h3⟩ | ⟨j, e, v0, h1, h2, h3, h4, h5⟩
 · refine ⟨setB w b (.map (es.push { key := arr k, val := z, born := clock }) (clock + 1)), z, clock, ?_, setB_kept _ _ _, ⟨push_is hb hs he hl hk z h3 h2, by rw [look_none h2]; rfl⟩, fun v => ?_⟩
   · simp [Instr.mapEntry, run_underlying hT, MapKept.run_getObj_map hb, check_key w _ hk, h1, hz, MapKept.run_setObj_map _ hb, Result.andThen, goInt]
     rfl
   · have h1 := push_is hb hs he hl hk z h3 h2
     obtain ⟨w2, hr, hm, hkk⟩ := store_after (T := T) (j := es.size) (e := { key := arr k, val := z, born := clock }) h1 (setB_at hb) (by simp) rfl hk v
     exact ⟨w2, hr, by rw [← putL_putL l k z v]; exact hm, (setB_kept _ _ _).trans hkk⟩
 · refine ⟨setB w b (.map (es.modify j fun x => { x with key := arr k }) clock), e.val, e.born, ?_, setB_kept _ _ _, ⟨modify_is hb hs he hl hk e.val h2 h3 h5 (fun x => { x with key := arr k }) (fun _ => rfl) rfl rfl, by rw [look_at h5 (nodup_keys hs he), h4]; rfl⟩, fun v => ?_⟩
   · simp [Instr.mapEntry, run_underlying hT, MapKept.run_getObj_map hb, check_key w _ hk, h1, h2, h3, h4, key_stays w hk, MapKept.run_setObj_map _ hb, Result.andThen, goInt]
     rfl
   · have h6 := modify_is hb hs he hl hk e.val h2 h3 h5 (fun x => { x with key := arr k }) (fun _ => rfl) rfl rfl
     obtain ⟨w2, hr, hm, hkk⟩ := store_after (T := T) (j := j) (e := { e with key := arr k }) h6 (setB_at hb) (by rw [Array.getElem?_modify, if_pos rfl, h2]; rfl) rfl hk v
     exact ⟨w2, hr, by rw [← putL_putL l k e.val v]; exact hm, (setB_kept _ _ _).trans hkk⟩
end
end
section

/- Ranging over a map keyed by 32 bytes: the iterator, by the keys that have come. -/

def Iter (w : World) (b r : Nat) (l : List Ent) (done : List (List Nat)) : Prop :=
 ∃ es clock since seen c0, w.heap[b]? = some (.map es clock) ∧ Stamped es clock ∧ es.toList.map (fun e => (e.key, e.val)) = l.map (fun p => (arr p.1, p.2)) ∧ (∀ p ∈ l, IsHash p.1) ∧
  w.heap[r]? = some (.mapIter (some b) since seen c0) ∧ (∀ x ∈ es.toList, x.born < since) ∧ (since ≤ c0 ∧ since ≤ clock) ∧
  (∀ e ∈ es.toList, ∀ k, e.key = arr k → (seen.contains e.born = true ↔ k ∈ done)) ∧ done.Nodup ∧ ∀ k ∈ done, k ∈ l.map (·.1)

theorem len_sub : ∀ (a b : List (List Nat)), a.Nodup → (∀ x ∈ a, x ∈ b) → a.length ≤ b.length
 | [], b, _, _ => Nat.zero_le _
 | x :: a, b, hn, hs => by
  rw [List.nodup_cons] at hn
  have hx := hs x List.mem_cons_self
  have := len_sub a (b.erase x) hn.2 fun y hy => (List.mem_erase_of_ne (fun e => hn.1 (by rw [← e]; exact hy))).2 (hs y (List.mem_cons_of_mem _ hy))
  rw [List.length_erase_of_mem hx] at this
  have := List.length_pos_of_mem hx
  rw [List.length_cons]; omega
section
variable {w : World} {b r : Nat} {l : List Ent} {done : List (List Nat)} {T E : TypeId}
theorem Iter.map (h : Iter w b r l done) : MapIs w b l := by
 obtain ⟨es, clock, _, _, _, h1, h2, h3, h4, _⟩ := h
 exact ⟨es, clock, h1, h2, h3, h4⟩
theorem Iter.ne (h : Iter w b r l done) : b ≠ r := by
 rintro rfl
 obtain ⟨es, clock, _, _, _, h1, _, _, _, h5, _⟩ := h
 rw [h1] at h5; cases h5
theorem Iter.lt (h : Iter w b r l done) : r < w.heap.size := by
 obtain ⟨es, clock, _, _, _, h1, _, _, _, h5, _⟩ := h
 exact (Array.getElem?_eq_some_iff.1 h5).1
theorem Iter.kept {S : Nat → Prop} {w' : World} (h : Iter w b r l done) (hk : Kept S w w') (hb : ¬ S b) (hr : ¬ S r) : Iter w' b r l done := by
 have h1 := h.map.lt
 have h2 := h.lt
 obtain ⟨es, clock, since, seen, c0, e1, e2, e3, e4, e5, rest⟩ := h
 exact ⟨es, clock, since, seen, c0, (hk.block b h1 hb).trans e1, e2, e3, e4, (hk.block r h2 hr).trans e5, rest⟩
theorem Iter.nodup (h : Iter w b r l done) : done.Nodup ∧ (l.map (·.1)).Nodup ∧ ∀ k ∈ done, k ∈ l.map (·.1) := by
 obtain ⟨es, clock, _, _, _, h1, h2, h3, h4, h5, h6, h7, h8, h9, h10⟩ := h
 exact ⟨h9, nodup_keys h2 h3, h10⟩
theorem Iter.size (h : Iter w b r l done) : done.length ≤ l.length := by
 obtain ⟨h1, h2, h3⟩ := h.nodup
 have := len_sub done (l.map (·.1)) h1 h3
 simpa using this

theorem Iter.left_kept {S : Nat → Prop} {w' : World} (h : Iter w b r l done) (hk : Kept S w w') (hb : ¬ S b) (hr : ¬ S r) : w'.rangeLeft b r = w.rangeLeft b r := by
 unfold World.rangeLeft
 rw [hk.block b h.map.lt hb, hk.block r h.lt hr]
theorem range_is (hT : Tryz.prog.underlying T = some (.map 27 E)) (h : MapIs w b l) :
   ∃ w', (Instr.range T (.map (some b))).run Tryz.prog w = .ok (.pointer (some ⟨w.heap.size, 0, none⟩)) w' ∧ Iter w' b w.heap.size l [] ∧ Kept (fun _ => False) w w' ∧ w'.heap.size = w.heap.size + 1 := by
 have hlt := h.lt
 obtain ⟨es, clock, hb, hs, he, hl⟩ := h
 refine ⟨_, run_range_map w T 27 E b es clock hT hb, ⟨es, clock, clock, #[], clock, ?_, hs, he, hl, heap_alloc_new w _, hs.1, ⟨Nat.le_refl _, Nat.le_refl _⟩, fun e _ k _ => ?_, List.nodup_nil, fun k hk => by cases hk⟩, (Kept.refl _ _).alloc _, by simp⟩
 · rw [heap_alloc_old w _ hlt]; exact hb
 · simp

theorem next_is (h : Iter w b r l done) (ty : TypeId) :
   ((∀ p ∈ l, p.1 ∈ done) ∧ (Instr.next (.pointer (some ⟨r, 0, none⟩)) false ty).run Tryz.prog w = .ok (.tuple #[.bool false]) w) ∨
   ∃ k v w', (k, v) ∈ l ∧ k ∉ done ∧ IsHash k ∧ (Instr.next (.pointer (some ⟨r, 0, none⟩)) false ty).run Tryz.prog w = .ok (.tuple #[.bool true, arr k, v]) w' ∧ Iter w' b r l (done ++ [k]) ∧ Kept (· = r) w w' ∧ w'.heap.size = w.heap.size ∧ w'.rangeLeft b r < w.rangeLeft b r ∧
     (Instr.entry (.pointer (some ⟨r, 0, none⟩))).run Tryz.prog w' = .ok (.tuple #[arr k, v]) w' := by
 have hne := h.ne
 have hrl := h.lt
 obtain ⟨es, clock, since, seen, c0, e1, e2, e3, e4, e5, e6, e7, e8, e9, e10⟩ := h
 have keyed : ∀ e ∈ es.toList, ∃ k, e.key = arr k ∧ (k, e.val) ∈ l ∧ IsHash k := fun e he => by
   have hm : (e.key, e.val) ∈ l.map (fun p => (arr p.1, p.2)) := by rw [← e3]; exact List.mem_map.2 ⟨e, he, rfl⟩
   obtain ⟨p, hp, hpe⟩ := List.mem_map.1 hm
   injection hpe with h1 h2
   refine ⟨p.1, h1.symm, ?_, e4 p hp⟩
   rw [← h2]; exact hp
 rcases run_next_at (P := Tryz.prog) w ty r b since c0 seen es clock e5 e1 e6 e7.1 with ⟨h0, hrun⟩ | ⟨e, he, w1, hw1, hrun⟩
 · refine .inl ⟨fun p hp => ?_, hrun⟩
   have hm : (arr p.1, p.2) ∈ es.toList.map (fun e => (e.key, e.val)) := by rw [e3]; exact List.mem_map.2 ⟨p, hp, rfl⟩
   obtain ⟨e, he, hee⟩ := List.mem_map.1 hm
   injection hee with h1 h2
   refine (e8 e he p.1 h1).1 ?_
   cases hc : seen.contains e.born with
   | true => rfl
   | false =>
     exfalso
     have : e ∈ leftOf es seen := by
       unfold leftOf
       exact Array.mem_filter.2 ⟨Array.mem_toList_iff.1 he, by rw [hc]; rfl⟩
     have hpos := Array.size_pos_of_mem this
     omega
 · obtain ⟨hem, hns⟩ := mem_left he
   obtain ⟨k, hk1, hk2, hk3⟩ := keyed e hem
   have hr1 : w1.heap[r]? = some (.mapIter (some b) since seen c0) := by rcases hw1 with rfl | rfl <;> exact e5
   have hb1 : w1.heap[b]? = some (.map es clock) := by rcases hw1 with rfl | rfl <;> exact e1
   have hkw : Kept (· = r) w w1 := by rcases hw1 with rfl | rfl; exact Kept.refl _ _; exact (Kept.refl _ _).drew
   have hsz : w1.heap.size = w.heap.size := by rcases hw1 with rfl | rfl <;> rfl
   have hnk : k ∉ done := fun hd => by rw [(e8 e hem k hk1).2 hd] at hns; cases hns
   refine .inr ⟨k, e.val, _, hk2, hnk, hk3, by rw [← hk1]; exact hrun, ?_, hkw.trans (setB_kept w1 r _), ?_, ?_, ?_⟩
   · refine ⟨es, clock, since, seen.push e.born, clock, ?_, e2, e3, e4, (heap_set hr1).1, e6, ⟨e7.2, e7.2⟩, fun e' he' k' hk' => ?_, ?_, ?_⟩
     · exact ((heap_set hr1).2 b hne).trans hb1
     · rw [contains_push, Bool.or_eq_true, e8 e' he' k' hk', List.mem_append, List.mem_singleton]
       constructor
       · rintro (h | h)
         · exact .inl h
         · refine .inr ?_
           have hb' : e'.born = e.born := beq_iff_eq.1 h
           have : e' = e := by
            have f1 := find_born e es.toList e2.2.1 hem
            have f2 := find_born e' es.toList e2.2.1 he'
            rw [hb', f1] at f2
            exact (Option.some.inj f2).symm
           subst this
           exact arr_inj (hk'.symm.trans hk1)
       · rintro (h | h)
         · exact .inl h
         · refine .inr ?_
           subst h
           have hkk : e'.key = e.key := hk'.trans hk1.symm
           have : e' = e := by
            obtain ⟨i, hi⟩ := List.getElem?_of_mem hem
            obtain ⟨j, hj⟩ := List.getElem?_of_mem he'
            have h1 : (es.toList.map (·.key))[i]? = some e.key := by rw [List.getElem?_map, hi]; rfl
            have h2 : (es.toList.map (·.key))[j]? = some e.key := by rw [List.getElem?_map, hj]; exact congrArg some hkk
            have hil : i < (es.toList.map (·.key)).length := by rw [List.length_map]; exact (List.getElem?_eq_some_iff.1 hi).1
            have := (List.getElem?_inj hil e2.2.2).1 (h1.trans h2.symm)
            subst this
            rw [hi] at hj
            exact (Option.some.inj hj).symm
           subst this
           simp
     · exact List.nodup_append.2 ⟨e9, by simp, fun a ha c hc => by rw [List.mem_singleton.1 hc]; rintro rfl; exact hnk ha⟩
     · intro k' hk'
       rcases List.mem_append.1 hk' with h | h
       · exact e10 k' h
       · rw [List.mem_singleton.1 h]; exact List.mem_map.2 ⟨(k, e.val), hk2, rfl⟩
   · show (w1.heap.setIfInBounds r _).size = _
     rw [Array.size_setIfInBounds, hsz]
   · have q1 : (setB w1 r (.mapIter (some b) since (seen.push e.born) clock)).heap[r]? = some (.mapIter (some b) since (seen.push e.born) clock) := (heap_set hr1).1
     have q2 : (setB w1 r (.mapIter (some b) since (seen.push e.born) clock)).heap[b]? = some (.map es clock) := ((heap_set hr1).2 b hne).trans hb1
     have q3 := left_shrinks es seen e he
     show (setB w1 r (.mapIter (some b) since (seen.push e.born) clock)).rangeLeft b r < _
     simp only [World.rangeLeft, e1, e5, q1, q2]
     exact q3
   · rw [← hk1]
     exact run_entry_at (P := Tryz.prog) _ r b since seen es clock e (heap_set hr1).1 (((heap_set hr1).2 b hne).trans hb1) hem e2.2.1
end
end
end Go.Proofs.YtknfbccbdiidjaaGreatDoor
