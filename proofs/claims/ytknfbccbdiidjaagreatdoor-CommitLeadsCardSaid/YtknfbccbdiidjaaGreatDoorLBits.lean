/- Maps keyed by 32 bytes: the key's law; what a key reads as. -/
import Derived.Test.YtknfbccbdiidjaaGreatDoorWu
import Derived.Test.YtknfbccbdiidjaaGreatDoorLMem
import Derived.DeepKeys4
import Derived.WideKeyArr
import Derived.Maps.Keyed
import Derived.MapKept
import Derived.Maps.RangeWalk
import Derived.Test.YtknfbccbdiidjaaGreatDoorLSha7
import Derived.Laws.Externs
import Derived.Deep.CutBlock
namespace Go.Proofs.YtknfbccbdiidjaaGreatDoor
set_option linter.unusedVariables false
set_option linter.unusedSimpArgs false
open Go.ChangeShapes Go.WideShapes Go.ChangeAt Go.RowKit Go.Maps

theorem laidOutM : laidOutB Tryz.prog = true := by kernel_rfl
theorem hashKey : WideMaps.KeyLaw Tryz.prog 27 := deep_law_laid laidOutM (m := 2) (by omega) (of_decide_eq_true (by kernel_rfl)) (by kernel_rfl) (by rw [Tryz.underlying27])
theorem mapM_some {α β : Type} (f : α → Option β) (g : α → β) : ∀ l : List α, (∀ x ∈ l, f x = some (g x)) → l.mapM f = some (l.map g)
 | [], _ => rfl
 | x :: l, h => by
  rw [List.mapM_cons, h x List.mem_cons_self, mapM_some f g l (fun y hy => h y (List.mem_cons_of_mem _ hy))]
  rfl
theorem key_some (ks : List Nat) (h : IsHash ks) : ∃ kl, keyOf Tryz.prog 27 (arr ks) = some kl := by
 unfold keyOf
 rw [Tryz.underlying27]
 have h1 : Tryz.prog.keyType 27 = true := by kernel_rfl
 have h2 : (arr ks).formed Tryz.prog 27 = true := by
  have hc : Tryz.prog.cellsOf 27 = 32 := by kernel_rfl
  unfold arr
  simp [Value.formed, Tryz.underlying27, hc, bcells_length, h.1]
 have h3 : ∃ ls, Tryz.prog.keyLits (Tryz.prog.types.size + 1) 27 (arr ks).cells.toList = some ls := by
  have hc : Tryz.prog.cellsOf 27 = 32 := by kernel_rfl
  have hc1 : Tryz.prog.cellsOf 5 = 1 := by kernel_rfl
  obtain ⟨d, hd⟩ : ∃ d, Tryz.prog.types.size = d + 1 := ⟨Tryz.prog.types.size - 1, by have : 0 < Tryz.prog.types.size := of_decide_eq_true (by kernel_rfl); omega⟩
  rw [hd]
  unfold Program.keyLits
  rw [Tryz.underlying27]
  have hcs : (arr ks).cells.toList = bcells ks := by simp [arr, Value.cells]
  rw [hcs]
  simp only []
  rw [if_pos (by rw [hc, bcells_length, h.1]), hc1, mapM_some _ (fun i => [Lit.int .u8 ((ks.getD i 0 : Nat) : Int)]) (List.range 32) (fun i hi => ?_)]
  · exact ⟨_, rfl⟩
  · have hi2 : i < 32 := List.mem_range.1 hi
    have hlt : ks.getD i 0 < 256 := by
     rw [List.getD_eq_getElem?_getD, List.getElem?_eq_getElem (by rw [h.1]; exact hi2)]
     exact h.2 _ (List.getElem_mem _)
    have Aa : ((bcells ks).drop (i * 1)).take 1 = [.int .u8 ((ks.getD i 0 : Nat) : Int)] := by
     rw [Nat.mul_one, List.take_one, List.head?_drop, bcells_get _ _ (by rw [h.1]; exact hi2)]
     rfl
    rw [Aa]
    unfold Program.keyLits
    rw [Tryz.underlying5]
    simp only []
    generalize ks.getD i 0 = n at hlt
    have m0 : IntKind.u8.min = 0 := by decide
    have m1 : IntKind.u8.max = 255 := by decide
    have hw : (Lit.int .u8 (n : Int)).wf = true := by simp [Lit.wf, m0, m1]; omega
    rw [if_pos ⟨trivial, hw⟩]
 obtain ⟨ls, h3⟩ := h3
 rw [h1, h2, h3]
 exact ⟨_, rfl⟩

/- A map keyed by 32 bytes, as the list of its entries in the order in which they came: what a look-up, a store, a delete do. -/
open Go.ChangeShapes Go.WideShapes Go.ChangeAt Go.RowKit Go.Maps Go.MapKept

abbrev Ent := List Nat × Value
def MapIs (w : World) (b : Nat) (l : List Ent) : Prop :=
 ∃ es clock, w.heap[b]? = some (.map es clock) ∧ Stamped es clock ∧ es.toList.map (fun e => (e.key, e.val)) = l.map (fun p => (arr p.1, p.2)) ∧ ∀ p ∈ l, IsHash p.1
def look : List Ent → List Nat → Option Value
 | [], _ => none
 | p :: l, k => if p.1 = k then some p.2 else look l k
def putL : List Ent → List Nat → Value → List Ent
 | [], k, v => [(k, v)]
 | p :: l, k, v => if p.1 = k then (k, v) :: l else p :: putL l k v
def delL : List Ent → List Nat → List Ent
 | [], _ => []
 | p :: l, k => if p.1 = k then l else p :: delL l k

theorem arr_inj {a b : List Nat} (h : arr a = arr b) : a = b := by
 have h2 : bcells a = bcells b := by
  unfold arr at h
  injection h with h
  simpa using congrArg Array.toList h
 unfold bcells at h2
 refine List.map_inj_right (f := fun n : Nat => Value.int .u8 (n : Int)) (fun x y hxy => ?_) |>.1 h2
 injection hxy with _ h
 omega
theorem MapIs.lt {w : World} {b : Nat} {l : List Ent} (h : MapIs w b l) : b < w.heap.size := by
 obtain ⟨es, clock, hb, _⟩ := h
 exact (Array.getElem?_eq_some_iff.1 hb).1
theorem MapIs.kept {S : Nat → Prop} {w w' : World} {b : Nat} {l : List Ent} (h : MapIs w b l) (hk : Kept S w w') (hb : ¬ S b) : MapIs w' b l := by
 have hlt := h.lt
 obtain ⟨es, clock, hh, r⟩ := h
 exact ⟨es, clock, (hk.block b hlt hb).trans hh, r⟩
theorem MapIs.drew {w : World} {b : Nat} {l : List Ent} (h : MapIs w b l) : MapIs w.drew b l := h
theorem MapIs.new (w : World) : MapIs (w.alloc (.map #[] 0)) w.heap.size [] :=
 ⟨#[], 0, heap_alloc_new w _, stamped_empty 0, rfl, fun p hp => by cases hp⟩

theorem ent_get {es : List MapEntry} {l : List Ent} (he : es.map (fun e => (e.key, e.val)) = l.map (fun p => (arr p.1, p.2))) (j : Nat) : (es[j]?).map (fun e => (e.key, e.val)) = (l[j]?).map (fun p => (arr p.1, p.2)) := by
 rw [← List.getElem?_map, he, List.getElem?_map]

theorem look_none {l : List Ent} {k : List Nat} (h : ∀ p ∈ l, p.1 ≠ k) : look l k = none := by
 induction l with
 | nil => rfl
 | cons p l ih => rw [look, if_neg (h p List.mem_cons_self), ih (fun q hq => h q (List.mem_cons_of_mem _ hq))]
theorem putL_none {l : List Ent} {k : List Nat} (v : Value) (h : ∀ p ∈ l, p.1 ≠ k) : putL l k v = l ++ [(k, v)] := by
 induction l with
 | nil => rfl
 | cons p l ih => rw [putL, if_neg (h p List.mem_cons_self), ih (fun q hq => h q (List.mem_cons_of_mem _ hq))]; rfl
theorem look_at {l : List Ent} {k : List Nat} {v : Value} : ∀ {j : Nat}, l[j]? = some (k, v) → (l.map (·.1)).Nodup → look l k = some v := by
 induction l with
 | nil => intro j h; simp at h
 | cons p l ih =>
  intro j h hd
  rw [List.map_cons, List.nodup_cons] at hd
  cases j with
  | zero =>
   simp at h; subst h; rw [look, if_pos rfl]
  | succ j =>
   rw [List.getElem?_cons_succ] at h
   have hm : k ∈ l.map (·.1) := List.mem_map.2 ⟨(k, v), List.mem_of_getElem? h, rfl⟩
   rw [look, if_neg (fun e => hd.1 (by rw [e]; exact hm)), ih h hd.2]
theorem putL_at {l : List Ent} {k : List Nat} {v : Value} (v' : Value) : ∀ {j : Nat}, l[j]? = some (k, v) → (l.map (·.1)).Nodup → putL l k v' = l.set j (k, v') := by
 induction l with
 | nil => intro j h; simp at h
 | cons p l ih =>
  intro j h hd
  rw [List.map_cons, List.nodup_cons] at hd
  cases j with
  | zero =>
   simp at h; subst h; rw [putL, if_pos rfl]; rfl
  | succ j =>
   rw [List.getElem?_cons_succ] at h
   have hm : k ∈ l.map (·.1) := List.mem_map.2 ⟨(k, v), List.mem_of_getElem? h, rfl⟩
   rw [putL, if_neg (fun e => hd.1 (by rw [e]; exact hm)), ih h hd.2]; rfl
theorem nodup_keys {es : Array MapEntry} {clock : Nat} {l : List Ent} (hs : Stamped es clock) (he : es.toList.map (fun e => (e.key, e.val)) = l.map (fun p => (arr p.1, p.2))) : (l.map (·.1)).Nodup := by
 have h1 : es.toList.map (·.key) = (l.map (·.1)).map arr := by
  have := congrArg (List.map Prod.fst) he
  simpa [List.map_map, Function.comp_def] using this
 have h2 := hs.2.2
 rw [h1] at h2
 exact (List.pairwise_map.1 h2).imp (fun h e => h (by rw [e]))

theorem find_spec {es : Array MapEntry} {clock : Nat} {l : List Ent} {k : List Nat} (hk : IsHash k) (hs : Stamped es clock) (he : es.toList.map (fun e => (e.key, e.val)) = l.map (fun p => (arr p.1, p.2))) (hl : ∀ p ∈ l, IsHash p.1) (w : World) :
   ((Instr.findKey 27 (arr k) es.toList).run Tryz.prog w = .ok none w ∧ (∀ p ∈ l, p.1 ≠ k) ∧ ∀ e ∈ es.toList, e.key ≠ arr k) ∨
   ∃ j e v, (Instr.findKey 27 (arr k) es.toList).run Tryz.prog w = .ok (some (j, v)) w ∧ es[j]? = some e ∧ e.key = arr k ∧ e.val = v ∧ l[j]? = some (k, v) := by
 obtain ⟨kl, hkl⟩ := key_some k hk
 have Aa : ∀ e ∈ es.toList, ∃ l, keyOf Tryz.prog 27 e.key = some l := fun e hem => by
   obtain ⟨j, hj⟩ := List.getElem?_of_mem hem
   have := ent_get he j
   rw [hj] at this
   cases hlj : l[j]? with
   | none => rw [hlj] at this; cases this
   | some p =>
    rw [hlj] at this
    simp only [Option.map_some, Option.some.injEq, Prod.mk.injEq] at this
    rw [this.1]
    exact key_some p.1 (hl p (List.mem_of_getElem? hlj))
 rcases hashKey.find w hkl es.toList Aa with ⟨h1, h2⟩ | ⟨j, e, h1, h2, h3⟩
 · refine .inl ⟨h1, fun p hp e => ?_, h2⟩
   obtain ⟨j, hj⟩ := List.getElem?_of_mem hp
   have := ent_get he j
   rw [hj] at this
   cases hej : es.toList[j]? with
   | none => rw [hej] at this; cases this
   | some x =>
    rw [hej] at this
    simp only [Option.map_some, Option.some.injEq, Prod.mk.injEq] at this
    exact h2 x (List.mem_of_getElem? hej) (by rw [this.1, e])
 · refine .inr ⟨j, e, e.val, h1, by simpa using h2, h3, rfl, ?_⟩
   have := ent_get he j
   rw [h2] at this
   cases hlj : l[j]? with
   | none => rw [hlj] at this; cases this
   | some p =>
    rw [hlj] at this
    simp only [Option.map_some, Option.some.injEq, Prod.mk.injEq] at this
    have e1 : p.1 = k := arr_inj (by rw [← this.1, h3])
    rw [← e1, this.2]
section

/- The operations on a map keyed by 32 bytes, as run equations. -/

theorem check_key (w : World) (em : Bool) {k : List Nat} (hk : IsHash k) : (Instr.checkKey em 10000 27 (arr k)).run Tryz.prog w = .ok () w := by
 obtain ⟨kl, hkl⟩ := key_some k hk
 exact hashKey.check w em hkl
theorem key_stays (w : World) {k : List Nat} (hk : IsHash k) : (Instr.keyThatStays (arr k) (arr k)).run Tryz.prog w = .ok (arr k) w := by
 obtain ⟨kl, hkl⟩ := key_some k hk
 exact hashKey.stays w hkl

section
variable {w : World} {b : Nat} {l : List Ent} {k : List Nat} {T E : TypeId} {z : Value}

theorem lookup_is (hT : Tryz.prog.underlying T = some (.map 27 E)) (hz : ∀ w, (zeroValue E).run Tryz.prog w = .ok z w) (h : MapIs w b l) (hk : IsHash k) :
   (Instr.lookup T (.map (some b)) (arr k) false).run Tryz.prog w = .ok ((look l k).getD z) w := by
 obtain ⟨es, clock, hb, hs, he, hl⟩ := h
 rcases find_spec hk hs he hl w with ⟨h1, h2, _⟩ | ⟨j, e, v, h1, _, _, _, h5⟩
 · rw [look_none h2]
   simp [Instr.lookup, run_underlying hT, MapKept.run_getObj_map hb, check_key w _ hk, h1, hz, Result.andThen]
 · rw [look_at h5 (nodup_keys hs he)]
   simp [Instr.lookup, run_underlying hT, MapKept.run_getObj_map hb, check_key w _ hk, h1, Result.andThen]
theorem lookup_ok_is (hT : Tryz.prog.underlying T = some (.map 27 E)) (hz : ∀ w, (zeroValue E).run Tryz.prog w = .ok z w) (h : MapIs w b l) (hk : IsHash k) :
   (Instr.lookup T (.map (some b)) (arr k) true).run Tryz.prog w = .ok (.tuple #[(look l k).getD z, .bool (look l k).isSome]) w := by
 obtain ⟨es, clock, hb, hs, he, hl⟩ := h
 rcases find_spec hk hs he hl w with ⟨h1, h2, _⟩ | ⟨j, e, v, h1, _, _, _, h5⟩
 · rw [look_none h2]
   simp [Instr.lookup, run_underlying hT, MapKept.run_getObj_map hb, check_key w _ hk, h1, hz, Result.andThen]
 · rw [look_at h5 (nodup_keys hs he)]
   simp [Instr.lookup, run_underlying hT, MapKept.run_getObj_map hb, check_key w _ hk, h1, Result.andThen]

def setB (w : World) (b : Nat) (o : Obj) : World := { w with heap := w.heap.setIfInBounds b o }
theorem setB_kept (w : World) (b : Nat) (o : Obj) : Kept (· = b) w (setB w b o) :=
 ⟨rfl, rfl, rfl, by simp [setB], fun k _ hne => by simp [setB, Array.getElem?_setIfInBounds_ne (Ne.symm hne)]⟩
theorem setB_at {o o' : Obj} (hb : w.heap[b]? = some o) : (setB w b o').heap[b]? = some o' := (heap_set hb).1

theorem push_is {es : Array MapEntry} {clock : Nat} (hb : w.heap[b]? = some (.map es clock)) (hs : Stamped es clock) (he : es.toList.map (fun e => (e.key, e.val)) = l.map (fun p => (arr p.1, p.2))) (hl : ∀ p ∈ l, IsHash p.1) (hk : IsHash k) (v : Value)
   (hne : ∀ e ∈ es.toList, e.key ≠ arr k) (hn : ∀ p ∈ l, p.1 ≠ k) : MapIs (setB w b (.map (es.push { key := arr k, val := v, born := clock }) (clock + 1))) b (putL l k v) := by
 refine ⟨_, _, setB_at hb, stamped_push hs hne, ?_, fun p hp => ?_⟩
 · rw [putL_none v hn]
   simp [he]
 · rw [putL_none v hn] at hp
   rcases List.mem_append.1 hp with hp | hp
   · exact hl p hp
   · rw [List.mem_singleton.1 hp]; exact hk
theorem modify_is {es : Array MapEntry} {clock : Nat} {j : Nat} {e : MapEntry} {v0 : Value} (hb : w.heap[b]? = some (.map es clock)) (hs : Stamped es clock) (he : es.toList.map (fun e => (e.key, e.val)) = l.map (fun p => (arr p.1, p.2))) (hl : ∀ p ∈ l, IsHash p.1) (hk : IsHash k) (v : Value)
   (hj : es[j]? = some e) (hek : e.key = arr k) (hlj : l[j]? = some (k, v0)) (f : MapEntry → MapEntry) (hf1 : ∀ x, (f x).born = x.born) (hf2 : (f e).key = arr k) (hf3 : (f e).val = v) : MapIs (setB w b (.map (es.modify j f) clock)) b (putL l k v) := by
 have hd := nodup_keys hs he
 refine ⟨_, _, setB_at hb, stamped_modify hs j f (fun x _ => hf1 x) (fun x _ hx => by rw [hj] at hx; cases hx; rw [hf2, hek]), ?_, fun p hp => ?_⟩
 · rw [putL_at v hlj hd]
   apply List.ext_getElem?
   intro i
   have hg := ent_get he i
   rw [List.getElem?_map, List.getElem?_map, Array.getElem?_toList, Array.getElem?_modify, List.getElem?_set]
   rw [Array.getElem?_toList] at hg
   by_cases hi : j = i
   · subst hi
     have hlt := (List.getElem?_eq_some_iff.1 hlj).1
     rw [if_pos rfl, if_pos rfl, if_pos hlt, hj]
     simp [hf2, hf3]
   · rw [if_neg hi, if_neg hi]; exact hg
 · rw [putL_at v hlj hd] at hp
   rcases List.mem_or_eq_of_mem_set hp with hp | hp
   · exact hl p hp
   · rw [hp]; exact hk

theorem putL_putL (l : List Ent) (k : List Nat) (v v' : Value) : putL (putL l k v) k v' = putL l k v' := by
 induction l with
 | nil => simp [putL]
 | cons p l ih =>
  by_cases h : p.1 = k
  · simp [putL, h]
  · simp [putL, h, ih]

theorem store_after {es : Array MapEntry} {clock j : Nat} {e : MapEntry} (h : MapIs w b l) (hb : w.heap[b]? = some (.map es clock)) (hj : es[j]? = some e) (hek : e.key = arr k) (hk : IsHash k) (v : Value) :
  ∃ w2, (Instr.entryStore T (.map (some b)) (.int .i64 (e.born : Int)) v).run Tryz.prog w = .ok () w2 ∧ MapIs w2 b (putL l k v) ∧ Kept (· = b) w w2 := by
 obtain ⟨es', clock', hb', hs, he, hl⟩ := h
 rw [hb] at hb'
 injection hb' with hb'
 injection hb' with e1 e2
 subst e1 e2
 have hlj : l[j]? = some (k, e.val) := by
  have := ent_get he j
  rw [Array.getElem?_toList, hj] at this
  cases hlj : l[j]? with
  | none => rw [hlj] at this; cases this
  | some p =>
   rw [hlj] at this
   simp only [Option.map_some, Option.some.injEq, Prod.mk.injEq] at this
   have e1 : p.1 = k := arr_inj (by rw [← this.1, hek])
   rw [← e1, this.2]
 refine ⟨_, ?_, modify_is hb hs he hl hk v hj hek hlj (fun x => { x with val := v }) (fun _ => rfl) hek rfl, setB_kept _ _ _⟩
 have hjl : j < es.size := (Array.getElem?_eq_some_iff.1 hj).1
 have Aa : es.findIdx? (fun x => (x.born : Int) == (e.born : Int)) = some j := by
  rw [Array.findIdx?_eq_some_iff_getElem]
  have hej : es[j] = e := (Array.getElem?_eq_some_iff.1 hj).2
  refine ⟨hjl, by rw [hej]; simp, fun i hi => ?_⟩
  simp only [beq_iff_eq, Int.natCast_inj]
  intro hne
  have hnd := hs.2.1
  have h1 : (es.toList.map (·.born))[i]? = some e.born := by rw [List.getElem?_map, Array.getElem?_toList, Array.getElem?_eq_getElem (by omega), Option.map_some, hne]
  have h2 : (es.toList.map (·.born))[j]? = some e.born := by rw [List.getElem?_map, Array.getElem?_toList, hj]; rfl
  have hil : i < (es.toList.map (·.born)).length := by simp; omega
  have := (List.getElem?_inj hil hnd).1 (h1.trans h2.symm)
  omega
 simp [Instr.entryStore, MapKept.run_getObj_map hb, asInt, asIntOf, Aa, MapKept.run_setObj_map _ hb, Result.andThen]
 rfl

theorem entry_is (hT : Tryz.prog.underlying T = some (.map 27 E)) (hz : ∀ w, (zeroValue E).run Tryz.prog w = .ok z w) (h : MapIs w b l) (hk : IsHash k) :
   ∃ w1 v0 st, (Instr.mapEntry T (.map (some b)) (arr k)).run Tryz.prog w = .ok (.tuple #[v0, .int .i64 st]) w1 ∧ Kept (· = b) w w1 ∧ (MapIs w1 b (putL l k v0) ∧ v0 = (look l k).getD z) ∧
     ∀ v, ∃ w2, (Instr.entryStore T (.map (some b)) (.int .i64 st) v).run Tryz.prog w1 = .ok () w2 ∧ MapIs w2 b (putL l k v) ∧ Kept (· = b) w w2 := by
 obtain ⟨es, clock, hb, hs, he, hl⟩ := h
 rcases find_spec hk hs he hl w with ⟨h1, h2, h3⟩ | ⟨j, e, v0, h1, h2, h3, h4, h5⟩
 · refine ⟨setB w b (.map (es.push { key := arr k, val := z, born := clock }) (clock + 1)), z, clock, ?_, setB_kept _ _ _, ⟨push_is hb hs he hl hk z h3 h2, by rw [look_none h2]; rfl⟩, fun v => ?_⟩
   · simp [Instr.mapEntry, run_underlying hT, MapKept.run_getObj_map hb, check_key w _ hk, h1, hz, MapKept.run_setObj_map _ hb, Result.andThen, goInt]
     rfl
   · have h1 := push_is hb hs he hl hk z h3 h2
     obtain ⟨w2, hr, hm, hkk⟩ := store_after (T := T) (j := es.size) (e := { key := arr k, val := z, born := clock }) h1 (setB_at hb) (by simp) rfl hk v
     exact ⟨w2, hr, by rw [← putL_putL l k z v]; exact hm, (setB_kept _ _ _).trans hkk⟩
 · refine ⟨setB w b (.map (es.modify j fun x => { x with key := arr k }) clock), e.val, e.born, ?_, setB_kept _ _ _, ⟨modify_is hb hs he hl hk e.val h2 h3 h5 (fun x => { x with key := arr k }) (fun _ => rfl) rfl rfl, by rw [look_at h5 (nodup_keys hs he), h4]; rfl⟩, fun v => ?_⟩
   · simp [Instr.mapEntry, run_underlying hT, MapKept.run_getObj_map hb, check_key w _ hk, h1, h2, h3, h4, key_stays w hk, MapKept.run_setObj_map _ hb, Result.andThen, goInt]
     rfl
   · have h6 := modify_is hb hs he hl hk e.val h2 h3 h5 (fun x => { x with key := arr k }) (fun _ => rfl) rfl rfl
     obtain ⟨w2, hr, hm, hkk⟩ := store_after (T := T) (j := j) (e := { e with key := arr k }) h6 (setB_at hb) (by rw [Array.getElem?_modify, if_pos rfl, h2]; rfl) rfl hk v
     exact ⟨w2, hr, by rw [← putL_putL l k e.val v]; exact hm, (setB_kept _ _ _).trans hkk⟩
end
end
section

/- Ranging over a map keyed by 32 bytes: the iterator, by the keys that have come. -/

def Iter (w : World) (b r : Nat) (l : List Ent) (done : List (List Nat)) : Prop :=
 ∃ es clock since seen c0, w.heap[b]? = some (.map es clock) ∧ Stamped es clock ∧ es.toList.map (fun e => (e.key, e.val)) = l.map (fun p => (arr p.1, p.2)) ∧ (∀ p ∈ l, IsHash p.1) ∧
  w.heap[r]? = some (.mapIter (some b) since seen c0) ∧ (∀ x ∈ es.toList, x.born < since) ∧ (since ≤ c0 ∧ since ≤ clock) ∧
  (∀ e ∈ es.toList, ∀ k, e.key = arr k → (seen.contains e.born = true ↔ k ∈ done)) ∧ done.Nodup ∧ ∀ k ∈ done, k ∈ l.map (·.1)

theorem len_sub : ∀ (a b : List (List Nat)), a.Nodup → (∀ x ∈ a, x ∈ b) → a.length ≤ b.length
 | [], b, _, _ => Nat.zero_le _
 | x :: a, b, hn, hs => by
  rw [List.nodup_cons] at hn
  have hx := hs x List.mem_cons_self
  have := len_sub a (b.erase x) hn.2 fun y hy => (List.mem_erase_of_ne (fun e => hn.1 (by rw [← e]; exact hy))).2 (hs y (List.mem_cons_of_mem _ hy))
  rw [List.length_erase_of_mem hx] at this
  have := List.length_pos_of_mem hx
  rw [List.length_cons]; omega
section
variable {w : World} {b r : Nat} {l : List Ent} {done : List (List Nat)} {T E : TypeId}
theorem Iter.map (h : Iter w b r l done) : MapIs w b l := by
 obtain ⟨es, clock, _, _, _, h1, h2, h3, h4, _⟩ := h
 exact ⟨es, clock, h1, h2, h3, h4⟩
theorem Iter.ne (h : Iter w b r l done) : b ≠ r := by
 rintro rfl
 obtain ⟨es, clock, _, _, _, h1, _, _, _, h5, _⟩ := h
 rw [h1] at h5; cases h5
theorem Iter.lt (h : Iter w b r l done) : r < w.heap.size := by
 obtain ⟨es, clock, _, _, _, h1, _, _, _, h5, _⟩ := h
 exact (Array.getElem?_eq_some_iff.1 h5).1
theorem Iter.kept {S : Nat → Prop} {w' : World} (h : Iter w b r l done) (hk : Kept S w w') (hb : ¬ S b) (hr : ¬ S r) : Iter w' b r l done := by
 have h1 := h.map.lt
 have h2 := h.lt
 obtain ⟨es, clock, since, seen, c0, e1, e2, e3, e4, e5, rest⟩ := h
 exact ⟨es, clock, since, seen, c0, (hk.block b h1 hb).trans e1, e2, e3, e4, (hk.block r h2 hr).trans e5, rest⟩
theorem Iter.nodup (h : Iter w b r l done) : done.Nodup ∧ (l.map (·.1)).Nodup ∧ ∀ k ∈ done, k ∈ l.map (·.1) := by
 obtain ⟨es, clock, _, _, _, h1, h2, h3, h4, h5, h6, h7, h8, h9, h10⟩ := h
 exact ⟨h9, nodup_keys h2 h3, h10⟩
theorem Iter.size (h : Iter w b r l done) : done.length ≤ l.length := by
 obtain ⟨h1, h2, h3⟩ := h.nodup
 have := len_sub done (l.map (·.1)) h1 h3
 simpa using this

theorem Iter.left_kept {S : Nat → Prop} {w' : World} (h : Iter w b r l done) (hk : Kept S w w') (hb : ¬ S b) (hr : ¬ S r) : w'.rangeLeft b r = w.rangeLeft b r := by
 unfold World.rangeLeft
 rw [hk.block b h.map.lt hb, hk.block r h.lt hr]
theorem range_is (hT : Tryz.prog.underlying T = some (.map 27 E)) (h : MapIs w b l) :
   ∃ w', (Instr.range T (.map (some b))).run Tryz.prog w = .ok (.pointer (some ⟨w.heap.size, 0, none⟩)) w' ∧ Iter w' b w.heap.size l [] ∧ Kept (fun _ => False) w w' ∧ w'.heap.size = w.heap.size + 1 := by
 have hlt := h.lt
 obtain ⟨es, clock, hb, hs, he, hl⟩ := h
 refine ⟨_, run_range_map w T 27 E b es clock hT hb, ⟨es, clock, clock, #[], clock, ?_, hs, he, hl, heap_alloc_new w _, hs.1, ⟨Nat.le_refl _, Nat.le_refl _⟩, fun e _ k _ => ?_, List.nodup_nil, fun k hk => by cases hk⟩, (Kept.refl _ _).alloc _, by simp⟩
 · rw [heap_alloc_old w _ hlt]; exact hb
 · simp

theorem next_is (h : Iter w b r l done) (ty : TypeId) :
   ((∀ p ∈ l, p.1 ∈ done) ∧ (Instr.next (.pointer (some ⟨r, 0, none⟩)) false ty).run Tryz.prog w = .ok (.tuple #[.bool false]) w) ∨
   ∃ k v w', (k, v) ∈ l ∧ k ∉ done ∧ IsHash k ∧ (Instr.next (.pointer (some ⟨r, 0, none⟩)) false ty).run Tryz.prog w = .ok (.tuple #[.bool true, arr k, v]) w' ∧ Iter w' b r l (done ++ [k]) ∧ Kept (· = r) w w' ∧ w'.heap.size = w.heap.size ∧ w'.rangeLeft b r < w.rangeLeft b r ∧
     (Instr.entry (.pointer (some ⟨r, 0, none⟩))).run Tryz.prog w' = .ok (.tuple #[arr k, v]) w' := by
 have hne := h.ne
 have hrl := h.lt
 obtain ⟨es, clock, since, seen, c0, e1, e2, e3, e4, e5, e6, e7, e8, e9, e10⟩ := h
 have keyed : ∀ e ∈ es.toList, ∃ k, e.key = arr k ∧ (k, e.val) ∈ l ∧ IsHash k := fun e he => by
   have hm : (e.key, e.val) ∈ l.map (fun p => (arr p.1, p.2)) := by rw [← e3]; exact List.mem_map.2 ⟨e, he, rfl⟩
   obtain ⟨p, hp, hpe⟩ := List.mem_map.1 hm
   injection hpe with h1 h2
   refine ⟨p.1, h1.symm, ?_, e4 p hp⟩
   rw [← h2]; exact hp
 rcases run_next_at (P := Tryz.prog) w ty r b since c0 seen es clock e5 e1 e6 e7.1 with ⟨h0, hrun⟩ | ⟨e, he, w1, hw1, hrun⟩
 · refine .inl ⟨fun p hp => ?_, hrun⟩
   have hm : (arr p.1, p.2) ∈ es.toList.map (fun e => (e.key, e.val)) := by rw [e3]; exact List.mem_map.2 ⟨p, hp, rfl⟩
   obtain ⟨e, he, hee⟩ := List.mem_map.1 hm
   injection hee with h1 h2
   refine (e8 e he p.1 h1).1 ?_
   cases hc : seen.contains e.born with
   | true => rfl
   | false =>
     exfalso
     have : e ∈ leftOf es seen := by
       unfold leftOf
       exact Array.mem_filter.2 ⟨Array.mem_toList_iff.1 he, by rw [hc]; rfl⟩
     have hpos := Array.size_pos_of_mem this
     omega
 · obtain ⟨hem, hns⟩ := mem_left he
   obtain ⟨k, hk1, hk2, hk3⟩ := keyed e hem
   have hr1 : w1.heap[r]? = some (.mapIter (some b) since seen c0) := by rcases hw1 with rfl | rfl <;> exact e5
   have hb1 : w1.heap[b]? = some (.map es clock) := by rcases hw1 with rfl | rfl <;> exact e1
   have hkw : Kept (· = r) w w1 := by rcases hw1 with rfl | rfl; exact Kept.refl _ _; exact (Kept.refl _ _).drew
   have hsz : w1.heap.size = w.heap.size := by rcases hw1 with rfl | rfl <;> rfl
   have hnk : k ∉ done := fun hd => by rw [(e8 e hem k hk1).2 hd] at hns; cases hns
   refine .inr ⟨k, e.val, _, hk2, hnk, hk3, by rw [← hk1]; exact hrun, ?_, hkw.trans (setB_kept w1 r _), ?_, ?_, ?_⟩
   · refine ⟨es, clock, since, seen.push e.born, clock, ?_, e2, e3, e4, (heap_set hr1).1, e6, ⟨e7.2, e7.2⟩, fun e' he' k' hk' => ?_, ?_, ?_⟩
     · exact ((heap_set hr1).2 b hne).trans hb1
     · rw [contains_push, Bool.or_eq_true, e8 e' he' k' hk', List.mem_append, List.mem_singleton]
       constructor
       · rintro (h | h)
         · exact .inl h
         · refine .inr ?_
           have hb' : e'.born = e.born := beq_iff_eq.1 h
           have : e' = e := by
            have f1 := find_born e es.toList e2.2.1 hem
            have f2 := find_born e' es.toList e2.2.1 he'
            rw [hb', f1] at f2
            exact (Option.some.inj f2).symm
           subst this
           exact arr_inj (hk'.symm.trans hk1)
       · rintro (h | h)
         · exact .inl h
         · refine .inr ?_
           subst h
           have hkk : e'.key = e.key := hk'.trans hk1.symm
           have : e' = e := by
            obtain ⟨i, hi⟩ := List.getElem?_of_mem hem
            obtain ⟨j, hj⟩ := List.getElem?_of_mem he'
            have h1 : (es.toList.map (·.key))[i]? = some e.key := by rw [List.getElem?_map, hi]; rfl
            have h2 : (es.toList.map (·.key))[j]? = some e.key := by rw [List.getElem?_map, hj]; exact congrArg some hkk
            have hil : i < (es.toList.map (·.key)).length := by rw [List.length_map]; exact (List.getElem?_eq_some_iff.1 hi).1
            have := (List.getElem?_inj hil e2.2.2).1 (h1.trans h2.symm)
            subst this
            rw [hi] at hj
            exact (Option.some.inj hj).symm
           subst this
           simp
     · exact List.nodup_append.2 ⟨e9, by simp, fun a ha c hc => by rw [List.mem_singleton.1 hc]; rintro rfl; exact hnk ha⟩
     · intro k' hk'
       rcases List.mem_append.1 hk' with h | h
       · exact e10 k' h
       · rw [List.mem_singleton.1 h]; exact List.mem_map.2 ⟨(k, e.val), hk2, rfl⟩
   · show (w1.heap.setIfInBounds r _).size = _
     rw [Array.size_setIfInBounds, hsz]
   · have q1 : (setB w1 r (.mapIter (some b) since (seen.push e.born) clock)).heap[r]? = some (.mapIter (some b) since (seen.push e.born) clock) := (heap_set hr1).1
     have q2 : (setB w1 r (.mapIter (some b) since (seen.push e.born) clock)).heap[b]? = some (.map es clock) := ((heap_set hr1).2 b hne).trans hb1
     have q3 := left_shrinks es seen e he
     show (setB w1 r (.mapIter (some b) since (seen.push e.born) clock)).rangeLeft b r < _
     simp only [World.rangeLeft, e1, e5, q1, q2]
     exact q3
   · rw [← hk1]
     exact run_entry_at (P := Tryz.prog) _ r b since seen es clock e (heap_set hr1).1 (((heap_set hr1).2 b hne).trans hb1) hem e2.2.1
end
end
/- The walks of msum.Node.put, sums.Add. -/

theorem splice_get {α : Type} (L cs : List α) (o i : Nat) (h : o + cs.length ≤ L.length) : (splice L o cs)[i]? = if o ≤ i ∧ i < o + cs.length then cs[i - o]? else L[i]? := by
 unfold splice
 by_cases h1 : i < o
 · rw [List.getElem?_append_left (by rw [List.length_take]; omega), List.getElem?_take, if_pos h1, if_neg (by omega)]
 · rw [List.getElem?_append_right (by rw [List.length_take]; omega), List.length_take, Nat.min_eq_left (by omega)]
   by_cases h2 : i < o + cs.length
   · rw [List.getElem?_append_left (by omega), if_pos ⟨by omega, h2⟩]
   · rw [List.getElem?_append_right (by omega), List.getElem?_drop, if_neg (by omega)]
     congr 1
     omega
theorem splice_len {α : Type} (L cs : List α) (o : Nat) (h : o + cs.length ≤ L.length) : (splice L o cs).length = L.length := length_splice L o cs h
theorem splice_nil {α : Type} (L : List α) (o : Nat) : splice L o [] = L := by simp [splice]
theorem splice_take_set {α : Type} (L cs : List α) (o k : Nat) (x : α) (h : o + cs.length ≤ L.length) (hx : cs[k]? = some x) : (splice L o (cs.take k)).set (o + k) x = splice L o (cs.take (k + 1)) := by
 have hk := (List.getElem?_eq_some_iff.1 hx).1
 apply List.ext_getElem?
 intro i
 rw [List.getElem?_set, splice_len _ _ _ (by rw [List.length_take]; omega), splice_get _ _ _ _ (by rw [List.length_take]; omega), splice_get _ _ _ _ (by rw [List.length_take]; omega), List.length_take, List.length_take]
 by_cases h1 : o + k = i
 · subst h1
   rw [if_pos rfl, if_pos (by omega), if_pos (by omega), List.getElem?_take, if_pos (by omega), Nat.add_sub_cancel_left, hx]
 · rw [if_neg h1]
   by_cases h2 : o ≤ i ∧ i < o + k
   · rw [if_pos (by omega), if_pos (by omega), List.getElem?_take, List.getElem?_take, if_pos (by omega), if_pos (by omega)]
   · rw [if_neg (by omega), if_neg (by omega)]
theorem splice_append {α : Type} (L a b : List α) (o : Nat) (h : o + (a.length + b.length) ≤ L.length) : splice (splice L o a) (o + a.length) b = splice L o (a ++ b) := by
 apply List.ext_getElem?
 intro i
 rw [splice_get _ _ _ _ (by rw [splice_len _ _ _ (by omega)]; omega), splice_get _ _ _ _ (by omega), splice_get _ _ _ _ (by rw [List.length_append]; omega), List.length_append]
 by_cases h1 : o ≤ i ∧ i < o + a.length
 · rw [if_neg (by omega), if_pos h1, if_pos (by omega), List.getElem?_append_left (by omega)]
 · by_cases h2 : o + a.length ≤ i ∧ i < o + a.length + b.length
   · rw [if_pos h2, if_pos (by omega), List.getElem?_append_right (by omega)]
     congr 1
     omega
   · rw [if_neg h2, if_neg h1, if_neg (by omega)]

def ncells (h : List Nat) (s : Nat) : List Value := bcells h ++ [.int .u64 (s : Int)]
def nodeV (h : List Nat) (s : Nat) : Value := .agg (ncells h s).toArray

theorem eight_get (s k : Nat) (hk : k < 8) : (bcells (eight s))[k]? = some (.int .u8 ((s / 2 ^ (8 * (7 - k)) % 256 : Nat) : Int)) := by
 rw [bcells_get _ _ (by rw [eight_length]; exact hk)]
 unfold eight
 simp [List.getD_eq_getElem?_getD, List.getElem?_map, List.getElem?_range hk]

set_option maxRecDepth 100000 in
theorem put_is (w : World) (h : List Nat) (s : Nat) (g o n c : Nat) (t : TypeId) (cur : List Value) (hh : h.length = 32) (hs : s < 18446744073709551616) (hn : 40 ≤ n) (hg : Has w g t cur.toArray) (ho : o + 40 ≤ cur.length) :
  Calls Tryz.prog 77 #[nodeV h s, .slice (some ⟨g, o, none⟩) n c] w fun e w' =>
    e = .returned (.tuple #[]) ∧ Has w' g t (splice cur o (bcells (h ++ eight s))).toArray ∧ Kept (· = g) w w' := by
 have HG := Hh hg
 have HH := Hh hh
 have hgl := hg.lt
 have Ac := Has.new w 30 (ncells h s).toArray
 have Aj := Hh Ac
 have Af : ∀ j u, (bcells h)[j]? = some u → (w.alloc (.cells (ncells h s).toArray 30)).cell? ((⟨w.heap.size, 0, none⟩ : Addr).add j) = some u := fun j u hu => by
  have hj := (List.getElem?_eq_some_iff.1 hu).1
  rw [Addr.add_mid]
  refine Aj.o.cell_is ?_
  rw [List.getElem?_toArray, ncells, Nat.zero_add, List.getElem?_append_left hj, hu]
 have Ai := Hh Af
 clear hg hh Ac Af
 unfold nodeV
 go_enter Tryz.func77, Tryz.ntmps77
 go_wp2_with (refine wpList_copy_kept rfl (.tmp 5) (.tmp 7) 48 48 rfl 5 Tryz.underlying48 size_u8 (some ⟨g, o, none⟩) (some ⟨w.heap.size, 0, none⟩) n c 32 32 rfl rfl g o cur t (HG.o.alloc _) (bcells h) (by rw [bcells_length, HH.o]; exact (Nat.min_eq_left (by omega)).symm) (fun _ => ⟨rfl, _, rfl, Ai.o⟩) (by rw [bcells_length, HH.o]; omega) (bcells_one _) ?_)
 intro w1 hw1 hk1
 have hne : w.heap.size ≠ g := by omega
 have cbox : w1.cell? ⟨w.heap.size, 32, none⟩ = some (.int .u64 (s : Int)) := (Aj.o.kept hk1 hne).cell_is (by
  rw [List.getElem?_toArray, ncells, List.getElem?_append_right (by rw [bcells_length, HH.o]; exact Nat.le_refl _), bcells_length, HH.o]; rfl)
 have hk0 : Kept (· = g) w w1 := ((Kept.refl (· = g) w).alloc _).trans hk1
 have Ae : (splice cur o (bcells h)).length = cur.length := splice_len _ _ _ (by rw [bcells_length, HH.o]; omega)
 have Aa := Hh Ae
 have Am := Hh hw1
 have Ak := Hh hk0
 clear hw1 hk1 hk0 Ae
 go_wp2_with fail
 go_loopw [9] (fun i wr => ∃ k : Nat, k ≤ 8 ∧ i = .int .i64 k ∧ Has wr g t (splice (splice cur o (bcells h)) (o + 32) ((bcells (eight s)).take k)).toArray ∧ Kept (· = g) w1 wr) (fun i _ => 8 - (intOf i).toNat)
 case atStart => exact ⟨0, by omega, rfl, by rw [List.take_zero, splice_nil]; exact Am.o, Kept.refl _ _⟩
 case round =>
  obtain ⟨k, hk, rfl, hW, hK⟩ := hrel
  have HW := Hh hW
  have Ag := Hh hK
  clear hW hK
  by_cases hlt : k < 8
  · have cb := cell_kept Ag.o cbox hne
    have hf := HW.o.free (o + (32 + k))
    obtain ⟨v0, hv0⟩ : ∃ v, wr.cell? ⟨g, o + (32 + k), none⟩ = some v := by
     refine ⟨_, HW.o.cell_is (by rw [List.getElem?_toArray]; exact List.getElem?_eq_getElem (by rw [splice_len _ _ _ (by rw [Aa.o, List.length_take, bcells_length, eight_length]; omega), Aa.o]; omega))⟩
    have Ab := HW.o.set (o + 32 + k) (.int .u8 ((s / 2 ^ (8 * (7 - k)) % 256 : Nat) : Int))
    rw [List.setIfInBounds_toArray, splice_take_set _ _ _ _ _ (by rw [Aa.o, bcells_length, eight_length]; omega) (eight_get s k hlt), Nat.add_assoc] at Ab
    have hv : ((s : Int) / 2 ^ (56 - 8 * k) % 256) = ((s / 2 ^ (8 * (7 - k)) % 256 : Nat) : Int) := by
     rw [show 56 - 8 * k = 8 * (7 - k) by omega, show (2 : Int) ^ (8 * (7 - k)) = ((2 ^ (8 * (7 - k)) : Nat) : Int) by simp]
     rfl
    have HV := Hh hv
    have Ah := Hh Ab
    clear Ab hv
    go_wp2
    go_roundw
    case rel => exact ⟨k + 1, by omega, by go_num, by rw [HV.o]; exact Ah.o, Ag.o.set (.inl rfl) _⟩
    case measure => simp [intOf]; omega
  · have hk8 : k = 8 := by omega
    have Ad : Has wr g t (splice cur o (bcells (h ++ eight s))).toArray := by
     have h1 := HW.o
     rw [hk8, List.take_of_length_le (by rw [bcells_length, eight_length]; exact Nat.le_refl _)] at h1
     have e : bcells (h ++ eight s) = bcells h ++ bcells (eight s) := by simp [bcells]
     rw [e, ← splice_append _ _ _ _ (by rw [bcells_length, bcells_length, eight_length, HH.o]; omega), bcells_length, HH.o]
     exact h1
    have HF := Hh Ad
    have Al := Hh (Ak.o.trans Ag.o)
    clear hk8 Ad HW Ag
    go_wp2
    go_end0
    exact ⟨rfl, HF.o, Al.o⟩

theorem add64_is (w : World) (a b : Nat) : (callFunc 72 #[.int .u64 (a : Int), .int .u64 (b : Int), .int .u64 0]).run Tryz.prog w =
  .ok (.value (.tuple #[.int .u64 (((a + b) % 18446744073709551616 : Nat) : Int), .int .u64 (((a + b) / 18446744073709551616 : Nat) : Int)])) w := by
 rw [run_callFunc_extern Tryz.func72 (by kernel_rfl) (by kernel_rfl) (by kernel_rfl) (e := add64Entry) (by kernel_rfl), run_add64 a b 0 (by omega) (by omega) (by omega) (by omega)]
 simp only [Result.andThen]
 congr 5 <;> omega

theorem add_fits (w : World) (a b : Nat) (h : a + b < 18446744073709551616) :
  Calls Tryz.prog 41 #[.int .u64 (a : Int), .int .u64 (b : Int)] w fun e w' => e = .returned (.tuple #[.int .u64 ((a + b : Nat) : Int), .int .i64 0]) ∧ w' = w := by
 have Aa := add64_is w a b
 rw [Nat.mod_eq_of_lt h, Nat.div_eq_of_lt h] at Aa
 obtain ⟨s, hs⟩ : ∃ s, s = a + b := ⟨_, rfl⟩
 rw [← hs] at Aa
 have HS := Hh hs
 have Ab := Hh Aa
 clear Aa hs h
 go_enter Tryz.func41, Tryz.ntmps41
 go_wp2_with (simp only [Ab.o])
 go_ret2
 exact ⟨by rw [HS.o]; rfl, rfl⟩

theorem add_over (w : World) (a b : Nat) (h : 18446744073709551616 ≤ a + b) (h2 : a + b < 36893488147419103232) :
  Calls Tryz.prog 41 #[.int .u64 (a : Int), .int .u64 (b : Int)] w fun e w' => e = .returned (.tuple #[.int .u64 0, .int .i64 10]) ∧ w' = w := by
 have Aa := add64_is w a b
 rw [show (a + b) / 18446744073709551616 = 1 by omega] at Aa
 obtain ⟨s, hs⟩ : ∃ s, s = (a + b) % 18446744073709551616 := ⟨_, rfl⟩
 rw [← hs] at Aa
 have Ab := Hh Aa
 clear Aa hs h h2
 go_enter Tryz.func41, Tryz.ntmps41
 go_wp2_with (simp only [Ab.o])
 go_ret2
 exact ⟨rfl, rfl⟩

/- The walks of msum.Leaf.Node, msum.Branch. -/

theorem splice_all {α : Type} (L cs : List α) (h : cs.length = L.length) : splice L 0 cs = cs := by
 unfold splice
 rw [List.take_zero, List.nil_append, Nat.zero_add, h, List.drop_length, List.append_nil]

def SumA (K s0 : List Wd) (w : World) (m : List Nat) (e : Ending) (w' : World) : Prop :=
 ∃ A : Array Value, e = .returned (.agg A) ∧ A = (bcells (digest K s0 m)).toArray ∧ Below w.heap.size w w'
theorem sum_a (K s0 : List Wd) (w : World) (v : Value) (ps : List (List Nat)) (m : List Nat) (hT : Tabs K s0 w) (hP : Parts w v ps) (hm : ps.flatten = m) (hl : m.length ≤ 1000000000) (hn : ps.length ≤ 1000000000) :
  Calls Tryz.prog 78 #[v] w (SumA K s0 w m) := by
 subst hm
 exact (sum_is K s0 w v ps hT hP hl hn).mono fun e w' ⟨he, hb⟩ => ⟨_, he, rfl, hb⟩

theorem thirty_two (l : List Nat) (h : l.length = 32) : ∃ d0 d1 d2 d3 d4 d5 d6 d7 d8 d9 d10 d11 d12 d13 d14 d15 d16 d17 d18 d19 d20 d21 d22 d23 d24 d25 d26 d27 d28 d29 d30 d31 : Nat, l = [d0, d1, d2, d3, d4, d5, d6, d7, d8, d9, d10, d11, d12, d13, d14, d15, d16, d17, d18, d19, d20, d21, d22, d23, d24, d25, d26, d27, d28, d29, d30, d31] := by
 match l, h with
 | [d0, d1, d2, d3, d4, d5, d6, d7, d8, d9, d10, d11, d12, d13, d14, d15, d16, d17, d18, d19, d20, d21, d22, d23, d24, d25, d26, d27, d28, d29, d30, d31], _ => exact ⟨d0, d1, d2, d3, d4, d5, d6, d7, d8, d9, d10, d11, d12, d13, d14, d15, d16, d17, d18, d19, d20, d21, d22, d23, d24, d25, d26, d27, d28, d29, d30, d31, rfl⟩
theorem ncells_one (D : List Nat) (s : Nat) : ∀ v ∈ ncells D s, v.oneCell' = true := by
 intro v hv
 rcases List.mem_append.1 hv with h | h
 · exact bcells_one D v h
 · rw [List.mem_singleton.1 h]; rfl
theorem node_ops (B : Nat) (D : List Nat) (s : Nat) (h : D.length = 32) (A : Array Value) (hA : A = (bcells D).toArray) : ∃ N F : Array Value, N = (ncells D s).toArray ∧ N.size = 33 ∧ A.size = 32 ∧
   Array.foldl (fun (cs : Array Value) (x : Value × Nat) => cs.setIfInBounds x.snd x.fst) #[Value.int .u8 0, Value.int .u8 0, Value.int .u8 0, Value.int .u8 0, Value.int .u8 0, Value.int .u8 0, Value.int .u8 0, Value.int .u8 0, Value.int .u8 0, Value.int .u8 0, Value.int .u8 0, Value.int .u8 0, Value.int .u8 0, Value.int .u8 0, Value.int .u8 0, Value.int .u8 0, Value.int .u8 0, Value.int .u8 0, Value.int .u8 0, Value.int .u8 0, Value.int .u8 0, Value.int .u8 0, Value.int .u8 0, Value.int .u8 0, Value.int .u8 0, Value.int .u8 0, Value.int .u8 0, Value.int .u8 0, Value.int .u8 0, Value.int .u8 0, Value.int .u8 0, Value.int .u8 0, Value.int .u64 0] A.zipIdx 0 32 = F ∧ F.size = 33 ∧ F.setIfInBounds 32 (.int .u64 (s : Int)) = N ∧
   (∀ w t old, Has w B t old → old.size = 33 → (storeCells ⟨B, 0, none⟩ N.toList).run Tryz.prog w = .ok () (w.setRow B N)) := by
 subst hA
 refine ⟨(ncells D s).toArray, (ncells D 0).toArray, rfl, by simp [ncells, bcells_length, h], by simp [bcells_length, h], ?_, by simp [ncells, bcells_length, h], ?_, fun w t old hh ho => ?_⟩
 · obtain ⟨d0, d1, d2, d3, d4, d5, d6, d7, d8, d9, d10, d11, d12, d13, d14, d15, d16, d17, d18, d19, d20, d21, d22, d23, d24, d25, d26, d27, d28, d29, d30, d31, rfl⟩ := thirty_two D h
   kernel_rfl
 · rw [List.setIfInBounds_toArray, ncells, ncells, List.set_append_right _ _ (by rw [bcells_length, h]; exact Nat.le_refl _), bcells_length, h]
   rfl
 · have := run_storeCells_from (P := Tryz.prog) B t (ncells D s) 0 old w hh (by rw [ho]; simp [ncells, bcells_length, h]) (ncells_one D s)
   simpa using this

def leafV (v : Value) (s : Nat) : Value := .agg #[v, .int .u64 (s : Int)]

set_option maxRecDepth 100000 in
set_option maxHeartbeats 2000000 in
theorem leafNode_is (K s0 : List Wd) (w : World) (v : Value) (bs : List Nat) (s : Nat) (hT : Tabs K s0 w) (hB : Bytes w w.heap.size v bs) (hl : bs.length ≤ 1000000) (hs : s < 18446744073709551616) :
  Calls Tryz.prog 48 #[leafV v s] w fun e w' => e = .returned (nodeV (digest K s0 (bs ++ eight s)) s) ∧ Below w.heap.size w w' := by
 obtain ⟨a, c, rfl, _⟩ := id hB
 have HT := Hh hT
 have HB := Hh hB
 have HL := Hh hl
 clear hT hB hl
 unfold leafV
 go_enter Tryz.func48, Tryz.ntmps48
 go_wp2_with fail
 have h3 := three w #[Value.slice a bs.length c, .int .u64 (s : Int)] 50 #[Value.int .u8 0, Value.int .u8 0, Value.int .u8 0, Value.int .u8 0, Value.int .u8 0, Value.int .u8 0, Value.int .u8 0, Value.int .u8 0, Value.int .u8 0, Value.int .u8 0, Value.int .u8 0, Value.int .u8 0, Value.int .u8 0, Value.int .u8 0, Value.int .u8 0, Value.int .u8 0, Value.int .u8 0, Value.int .u8 0, Value.int .u8 0, Value.int .u8 0, Value.int .u8 0, Value.int .u8 0, Value.int .u8 0, Value.int .u8 0, Value.int .u8 0, Value.int .u8 0, Value.int .u8 0, Value.int .u8 0, Value.int .u8 0, Value.int .u8 0, Value.int .u8 0, Value.int .u8 0, Value.int .u64 0] 30 #[Value.int .u8 0, Value.int .u8 0, Value.int .u8 0, Value.int .u8 0, Value.int .u8 0, Value.int .u8 0, Value.int .u8 0, Value.int .u8 0, Value.int .u8 0, Value.int .u8 0, Value.int .u8 0, Value.int .u8 0, Value.int .u8 0, Value.int .u8 0, Value.int .u8 0, Value.int .u8 0, Value.int .u8 0, Value.int .u8 0, Value.int .u8 0, Value.int .u8 0, Value.int .u8 0, Value.int .u8 0, Value.int .u8 0, Value.int .u8 0, Value.int .u8 0, Value.int .u8 0, Value.int .u8 0, Value.int .u8 0, Value.int .u8 0, Value.int .u8 0, Value.int .u8 0, Value.int .u8 0, Value.int .u8 0, Value.int .u8 0, Value.int .u8 0, Value.int .u8 0, Value.int .u8 0, Value.int .u8 0, Value.int .u8 0, Value.int .u8 0] 168
 generalize ((w.alloc (.cells #[Value.slice a bs.length c, .int .u64 (s : Int)] 50)).alloc (.cells #[Value.int .u8 0, Value.int .u8 0, Value.int .u8 0, Value.int .u8 0, Value.int .u8 0, Value.int .u8 0, Value.int .u8 0, Value.int .u8 0, Value.int .u8 0, Value.int .u8 0, Value.int .u8 0, Value.int .u8 0, Value.int .u8 0, Value.int .u8 0, Value.int .u8 0, Value.int .u8 0, Value.int .u8 0, Value.int .u8 0, Value.int .u8 0, Value.int .u8 0, Value.int .u8 0, Value.int .u8 0, Value.int .u8 0, Value.int .u8 0, Value.int .u8 0, Value.int .u8 0, Value.int .u8 0, Value.int .u8 0, Value.int .u8 0, Value.int .u8 0, Value.int .u8 0, Value.int .u8 0, Value.int .u64 0] 30)).alloc (.cells #[Value.int .u8 0, Value.int .u8 0, Value.int .u8 0, Value.int .u8 0, Value.int .u8 0, Value.int .u8 0, Value.int .u8 0, Value.int .u8 0, Value.int .u8 0, Value.int .u8 0, Value.int .u8 0, Value.int .u8 0, Value.int .u8 0, Value.int .u8 0, Value.int .u8 0, Value.int .u8 0, Value.int .u8 0, Value.int .u8 0, Value.int .u8 0, Value.int .u8 0, Value.int .u8 0, Value.int .u8 0, Value.int .u8 0, Value.int .u8 0, Value.int .u8 0, Value.int .u8 0, Value.int .u8 0, Value.int .u8 0, Value.int .u8 0, Value.int .u8 0, Value.int .u8 0, Value.int .u8 0, Value.int .u8 0, Value.int .u8 0, Value.int .u8 0, Value.int .u8 0, Value.int .u8 0, Value.int .u8 0, Value.int .u8 0, Value.int .u8 0] 168) = W at h3 ⊢
 obtain ⟨h0, h1, h2, Aa, Ac⟩ := h3
 obtain ⟨B1, hB1⟩ : ∃ B, w.heap.size + 1 = B := ⟨_, rfl⟩
 obtain ⟨B2, hB2⟩ : ∃ B, B1 + 1 = B := ⟨_, rfl⟩
 rw [hB1] at h1 h2 ⊢
 rw [hB2] at h2 ⊢
 have hB1g : w.heap.size < B1 := by omega
 have hB2g : B1 < B2 := by omega
 have hb2 : Has W B2 168 (bcells (List.replicate 40 0)).toArray := h2
 have cb0 : W.cell? ⟨w.heap.size, 0, none⟩ = some (.slice a bs.length c) := h0.cell_is rfl
 have cb1 : W.cell? ⟨w.heap.size, 1, none⟩ = some (.int .u64 (s : Int)) := h0.cell_is rfl
 have H1 := Hh h1
 have H2 := Hh hb2
 have Af := Hh Aa
 have Ao := Hh Ac
 clear h0 h1 h2 hb2 Aa Ac hB1 hB2
 go_region_law (go_simp; go_at_call 77; refine (put_is W.drew (List.replicate 32 0) s B2 0 40 40 168 (bcells (List.replicate 40 0)) List.length_replicate hs (Nat.le_refl _) H2.o (by rw [bcells_length, List.length_replicate]; omega)).mono ?_; rintro _ w1 ⟨rfl, hw1, hk1⟩)
 rw [splice_all _ _ (by rw [bcells_length, bcells_length, List.length_append, List.length_replicate, List.length_replicate, eight_length])] at hw1
 have d0 := cell_kept hk1.undrew cb0 (by show ¬ w.heap.size = B2; omega)
 have d1 := cell_kept hk1.undrew cb1 (by show ¬ w.heap.size = B2; omega)
 have hx1 : Below w.heap.size w w1 := Af.o.trans (hk1.undrew.below (by have := Ao.o; omega) (fun k hk => by have e : k = B2 := hk; omega))
 have h11 := H1.o.kept hk1.undrew (by omega)
 have d1a : ∀ o, (w1.alloc o).cell? ⟨w.heap.size, 1, none⟩ = some (.int .u64 (s : Int)) := fun o => by rw [World.cell?_alloc_lt w1 _ _ (World.block_lt_of_cell? w1 _ d1)]; exact d1
 have Ae := Hh hx1
 have Al := Hh hw1
 have Am := Hh h11
 clear cb0 cb1 H1 H2 Af hw1 hk1 hx1 h11
 have Ab : Parts (w1.drew.alloc (.cells #[Value.slice a bs.length c, .slice (some ⟨B2, 32, none⟩) 8 8] 48)) (.slice (some ⟨w1.heap.size, 0, none⟩) 2 2) [bs, eight s] := by
  refine ⟨_, _, rfl, fun _ => ⟨w1.heap.size, 0, rfl, fun i hi => ?_⟩⟩
  have hX : Below w.heap.size w (w1.drew.alloc (.cells #[Value.slice a bs.length c, .slice (some ⟨B2, 32, none⟩) 8 8] 48)) := Ae.o.drew.alloc (by have := Ae.o.size; show w.heap.size ≤ w1.heap.size; exact this) _
  have hc := fun j => Has.cell (Has.new w1.drew 48 #[Value.slice a bs.length c, .slice (some ⟨B2, 32, none⟩) 8 8]) j
  have hi2 : i = 0 ∨ i = 1 := by simp at hi; omega
  rcases hi2 with rfl | rfl
  · exact ⟨_, hc 0, HB.o.alive hX (by have := hX.size; exact this)⟩
  · refine ⟨_, hc 1, ?_⟩
    change Bytes _ _ _ (eight s)
    have hsz : (w1.drew.alloc (.cells #[Value.slice a bs.length c, .slice (some ⟨B2, 32, none⟩) 8 8] 48)).heap.size = w1.heap.size + 1 := by simp
    have hw := (Al.o.drew).alloc (.cells #[Value.slice a bs.length c, .slice (some ⟨B2, 32, none⟩) 8 8] 48)
    have hlt := Al.o.lt
    refine ⟨some ⟨B2, 32, none⟩, 8, rfl, by rw [eight_length]; exact Nat.le_refl _, fun x hx => ?_, fun _ => ⟨B2, 32, rfl, by rw [hsz]; omega, fun i hi => ?_⟩⟩
    · obtain ⟨j, _, rfl⟩ := List.mem_map.1 hx
      exact Nat.mod_lt _ (by decide)
    · rw [eight_length] at hi
      refine hw.cell_is ?_
      rw [List.getElem?_toArray, bcells_get _ _ (by rw [List.length_append, List.length_replicate, eight_length]; omega)]
      rw [List.getD_eq_getElem?_getD, List.getElem?_append_right (by rw [List.length_replicate]; omega), List.length_replicate, Nat.add_sub_cancel_left, ← List.getD_eq_getElem?_getD]
 have Ad := Hh Ab
 clear Ab
 have hTx : Tabs K s0 (w1.drew.alloc (.cells #[Value.slice a bs.length c, .slice (some ⟨B2, 32, none⟩) 8 8] 48)) :=
  (HT.o.below Ae.o HT.o.low).drew.below ((Below.refl w1.heap.size w1.drew).alloc (Nat.le_refl _) _) (by have := Ae.o.size; have := HT.o.low; omega)
 have Ap := Hh hTx
 clear hTx
 have Ag : ∀ w5, Below (w1.drew.alloc (.cells #[Value.slice a bs.length c, .slice (some ⟨B2, 32, none⟩) 8 8] 48)).heap.size (w1.drew.alloc (.cells #[Value.slice a bs.length c, .slice (some ⟨B2, 32, none⟩) 8 8] 48)) w5 →
    w5.cell? ⟨w.heap.size, 1, none⟩ = some (.int .u64 (s : Int)) ∧ Has w5 B1 30 #[Value.int .u8 0, Value.int .u8 0, Value.int .u8 0, Value.int .u8 0, Value.int .u8 0, Value.int .u8 0, Value.int .u8 0, Value.int .u8 0, Value.int .u8 0, Value.int .u8 0, Value.int .u8 0, Value.int .u8 0, Value.int .u8 0, Value.int .u8 0, Value.int .u8 0, Value.int .u8 0, Value.int .u8 0, Value.int .u8 0, Value.int .u8 0, Value.int .u8 0, Value.int .u8 0, Value.int .u8 0, Value.int .u8 0, Value.int .u8 0, Value.int .u8 0, Value.int .u8 0, Value.int .u8 0, Value.int .u8 0, Value.int .u8 0, Value.int .u8 0, Value.int .u8 0, Value.int .u8 0, Value.int .u64 0] ∧ Below w.heap.size w w5 := fun w5 hb5 => by
  have hk := Kept.of_below (S := fun _ => False) hb5
  have hk2 : Kept (fun _ => False) w1 w5 := (((Kept.refl (fun _ => False) w1).drew).alloc _).trans hk
  exact ⟨cell_kept hk2 d1 (fun h => h), Am.o.kept hk2 (fun h => h), Ae.o.trans (hk2.below Ae.o.size (fun _ h => h.elim))⟩
 have Ai := Hh Ag
 have Aj := Hh (node_ops B1 (digest K s0 (bs ++ eight s)) s (digest_length K s0 HT.o.len _))
 clear Ag
 go_wp2_with fail
 go_region_law (go_simp; go_at_call 78; refine (sum_a K s0 _ _ [bs, eight s] (bs ++ eight s) Ap.o Ad.o (by simp) (by rw [List.length_append, eight_length]; have := HL.o; omega) (by simp)).mono ?_; rintro _ w5 ⟨A, rfl, hA, hb5⟩; obtain ⟨e1, e2, e3⟩ := Ai.o w5 hb5; obtain ⟨N, F, hN, hN1, hA1, hA2, hA3, hA4, hst⟩ := Aj.o A hA; have HA := Hh hA; have HN := Hh hN; clear hA hN; have hst5 := hst w5 _ _ e2 rfl)
 all_goals
  have Ah : Has (w5.setRow B1 N) B1 30 N := e2.setRow
  have Aa : Below w.heap.size w (w5.setRow B1 N) := e3.trans ((kept_setRow (g := B1) w5 N).below e3.size (fun k hk => by have e : k = B1 := hk; omega))
  have hsz : (Tryz.prog.info? 30).map (·.size) = some N.size := by rw [hN1]; kernel_rfl
  have Ak := Hh Ah
  have An := Hh Aa
  have HZ := Hh hsz
  clear Ah Aa hsz
  go_wp2
  refine bodyPost_ret (results_cell_row rfl _ _ B1 30 N (0, 0) _ rfl Ak.o Tryz.underlying30 rfl HZ.o) rfl ?_
  exact ⟨by rw [HN.o]; rfl, An.o⟩

/- The walk of msum.Branch. -/

theorem results_cell_tmp {fn : Func} {p q : Tmp} {ty : TypeId} {fs : Array _} (h : fn.results = #[.cell p ty, .tmp q]) (tmps : Array Value) (w : World) (g : Nat) (t : TypeId) (cs : Array Value) (fr : Nat × Nat) (v : Value)
  (hp : tmps.getD p undef = .pointer (some ⟨g, 0, none⟩)) (hq : tmps.getD q undef = v) (hg : w.heap[g]? = some (.cells cs t fr))
  (hu : Tryz.prog.underlying ty = some (.struct fs)) (hi : (Tryz.prog.info? ty).map (·.size) = some cs.size) :
  (results fn tmps).run Tryz.prog w = .ok (.tuple #[.agg cs, v]) w := by
 have hp' : tmps[p]?.getD undef = .pointer (some ⟨g, 0, none⟩) := by simpa using hp
 have hq' : tmps[q]?.getD undef = v := by simpa using hq
 simp [results, h, hp', hq', asAddr, run_loadVar_row w g t ty cs fr _ hg hu rfl hi]
set_option maxRecDepth 100000 in
theorem branch_over (w : World) (ha hb : List Nat) (sa sb : Nat) (h1 : ha.length = 32) (h2 : hb.length = 32) (ho : 18446744073709551616 ≤ sa + sb) (hl : sa + sb < 36893488147419103232) :
  Calls Tryz.prog 52 #[nodeV ha sa, nodeV hb sb] w fun e w' => e = .returned (.tuple #[nodeV (List.replicate 32 0) 0, .int .i64 10]) ∧ Below w.heap.size w w' := by
 have HO := Hh ho
 have HL := Hh hl
 have na : (ncells ha sa).toArray[32]? = some (.int .u64 (sa : Int)) := by rw [List.getElem?_toArray, ncells, List.getElem?_append_right (by rw [bcells_length, h1]; exact Nat.le_refl _), bcells_length, h1]; rfl
 have nb : (ncells hb sb).toArray[32]? = some (.int .u64 (sb : Int)) := by rw [List.getElem?_toArray, ncells, List.getElem?_append_right (by rw [bcells_length, h2]; exact Nat.le_refl _), bcells_length, h2]; rfl
 unfold nodeV
 generalize (ncells ha sa).toArray = NA at na ⊢
 generalize (ncells hb sb).toArray = NB at nb ⊢
 clear ho hl h1 h2
 go_enter Tryz.func52, Tryz.ntmps52
 go_upto_region 1 with (fail)
 have h3 := three w NA 30 NB 30 #[Value.int .u8 0, Value.int .u8 0, Value.int .u8 0, Value.int .u8 0, Value.int .u8 0, Value.int .u8 0, Value.int .u8 0, Value.int .u8 0, Value.int .u8 0, Value.int .u8 0, Value.int .u8 0, Value.int .u8 0, Value.int .u8 0, Value.int .u8 0, Value.int .u8 0, Value.int .u8 0, Value.int .u8 0, Value.int .u8 0, Value.int .u8 0, Value.int .u8 0, Value.int .u8 0, Value.int .u8 0, Value.int .u8 0, Value.int .u8 0, Value.int .u8 0, Value.int .u8 0, Value.int .u8 0, Value.int .u8 0, Value.int .u8 0, Value.int .u8 0, Value.int .u8 0, Value.int .u8 0, Value.int .u64 0] 30
 generalize ((w.alloc (.cells NA 30)).alloc (.cells NB 30)).alloc (.cells #[Value.int .u8 0, Value.int .u8 0, Value.int .u8 0, Value.int .u8 0, Value.int .u8 0, Value.int .u8 0, Value.int .u8 0, Value.int .u8 0, Value.int .u8 0, Value.int .u8 0, Value.int .u8 0, Value.int .u8 0, Value.int .u8 0, Value.int .u8 0, Value.int .u8 0, Value.int .u8 0, Value.int .u8 0, Value.int .u8 0, Value.int .u8 0, Value.int .u8 0, Value.int .u8 0, Value.int .u8 0, Value.int .u8 0, Value.int .u8 0, Value.int .u8 0, Value.int .u8 0, Value.int .u8 0, Value.int .u8 0, Value.int .u8 0, Value.int .u8 0, Value.int .u8 0, Value.int .u8 0, Value.int .u64 0] 30) = W at h3 ⊢
 obtain ⟨hA, hB, hr, Aa, Ab⟩ := h3
 have ca := hA.cell_is na
 have cb := hB.cell_is nb
 have HR := Hh hr
 have Ac := Hh Aa
 clear hA hB hr Aa Ab na nb
 go_wp2_with fail
 refine (add_over _ sa sb HO.o HL.o).mono ?_
 rintro _ w1 ⟨rfl, rfl⟩
 go_wp2_with (refine wpList_store_row rfl 30 (.tmp 4) (.tmp 19) rfl (w.heap.size + 1 + 1) #[Value.int .u8 0, Value.int .u8 0, Value.int .u8 0, Value.int .u8 0, Value.int .u8 0, Value.int .u8 0, Value.int .u8 0, Value.int .u8 0, Value.int .u8 0, Value.int .u8 0, Value.int .u8 0, Value.int .u8 0, Value.int .u8 0, Value.int .u8 0, Value.int .u8 0, Value.int .u8 0, Value.int .u8 0, Value.int .u8 0, Value.int .u8 0, Value.int .u8 0, Value.int .u8 0, Value.int .u8 0, Value.int .u8 0, Value.int .u8 0, Value.int .u8 0, Value.int .u8 0, Value.int .u8 0, Value.int .u8 0, Value.int .u8 0, Value.int .u8 0, Value.int .u8 0, Value.int .u8 0, Value.int .u64 0] rfl rfl 30 _ HR.o (by kernel_rfl) (by kernel_rfl) (by kernel_rfl) ?_)
 have Ad : Has (w1.setRow (w.heap.size + 1 + 1) #[Value.int .u8 0, Value.int .u8 0, Value.int .u8 0, Value.int .u8 0, Value.int .u8 0, Value.int .u8 0, Value.int .u8 0, Value.int .u8 0, Value.int .u8 0, Value.int .u8 0, Value.int .u8 0, Value.int .u8 0, Value.int .u8 0, Value.int .u8 0, Value.int .u8 0, Value.int .u8 0, Value.int .u8 0, Value.int .u8 0, Value.int .u8 0, Value.int .u8 0, Value.int .u8 0, Value.int .u8 0, Value.int .u8 0, Value.int .u8 0, Value.int .u8 0, Value.int .u8 0, Value.int .u8 0, Value.int .u8 0, Value.int .u8 0, Value.int .u8 0, Value.int .u8 0, Value.int .u8 0, Value.int .u64 0]) (w.heap.size + 1 + 1) 30 #[Value.int .u8 0, Value.int .u8 0, Value.int .u8 0, Value.int .u8 0, Value.int .u8 0, Value.int .u8 0, Value.int .u8 0, Value.int .u8 0, Value.int .u8 0, Value.int .u8 0, Value.int .u8 0, Value.int .u8 0, Value.int .u8 0, Value.int .u8 0, Value.int .u8 0, Value.int .u8 0, Value.int .u8 0, Value.int .u8 0, Value.int .u8 0, Value.int .u8 0, Value.int .u8 0, Value.int .u8 0, Value.int .u8 0, Value.int .u8 0, Value.int .u8 0, Value.int .u8 0, Value.int .u8 0, Value.int .u8 0, Value.int .u8 0, Value.int .u8 0, Value.int .u8 0, Value.int .u8 0, Value.int .u64 0] := HR.o.setRow
 have hlt := HR.o.lt
 refine bodyPost_ret (results_cell_tmp rfl _ _ (w.heap.size + 1 + 1) 30 #[Value.int .u8 0, Value.int .u8 0, Value.int .u8 0, Value.int .u8 0, Value.int .u8 0, Value.int .u8 0, Value.int .u8 0, Value.int .u8 0, Value.int .u8 0, Value.int .u8 0, Value.int .u8 0, Value.int .u8 0, Value.int .u8 0, Value.int .u8 0, Value.int .u8 0, Value.int .u8 0, Value.int .u8 0, Value.int .u8 0, Value.int .u8 0, Value.int .u8 0, Value.int .u8 0, Value.int .u8 0, Value.int .u8 0, Value.int .u8 0, Value.int .u8 0, Value.int .u8 0, Value.int .u8 0, Value.int .u8 0, Value.int .u8 0, Value.int .u8 0, Value.int .u8 0, Value.int .u8 0, Value.int .u64 0] (0, 0) _ rfl rfl Ad Tryz.underlying30 (by kernel_rfl)) rfl ?_
 exact ⟨rfl, Ac.o.trans ((kept_setRow (g := w.heap.size + 1 + 1) w1 _).below (by omega) (fun k hk => by have e : k = w.heap.size + 1 + 1 := hk; omega))⟩

theorem bcells_append (a b : List Nat) : bcells (a ++ b) = bcells a ++ bcells b := by simp [bcells]
theorem splice_two (Z X Y : List Value) (n : Nat) (hx : X.length = n) (hz : Z.length = n + Y.length) : splice (splice Z 0 X) n Y = X ++ Y := by
 have h := splice_append Z X Y 0 (by omega)
 rw [Nat.zero_add, hx] at h
 rw [h]
 exact splice_all _ _ (by rw [List.length_append]; omega)

set_option maxRecDepth 100000 in
set_option maxHeartbeats 1000000 in
theorem branch_fits (K s0 : List Wd) (w : World) (ha hb : List Nat) (sa sb : Nat) (hT : Tabs K s0 w) (h1 : IsHash ha) (h2 : IsHash hb) (hf : sa + sb < 18446744073709551616) :
  Calls Tryz.prog 52 #[nodeV ha sa, nodeV hb sb] w fun e w' =>
    e = .returned (.tuple #[nodeV (digest K s0 (ha ++ eight sa ++ (hb ++ eight sb))) (sa + sb), .int .i64 0]) ∧ Below w.heap.size w w' := by
 have HT := Hh hT
 have HF := Hh hf
 have HA := Hh h1
 have HB := Hh h2
 have na : (ncells ha sa).toArray[32]? = some (.int .u64 (sa : Int)) := by rw [List.getElem?_toArray, ncells, List.getElem?_append_right (by rw [bcells_length, h1.1]; exact Nat.le_refl _), bcells_length, h1.1]; rfl
 have nb : (ncells hb sb).toArray[32]? = some (.int .u64 (sb : Int)) := by rw [List.getElem?_toArray, ncells, List.getElem?_append_right (by rw [bcells_length, h2.1]; exact Nat.le_refl _), bcells_length, h2.1]; rfl
 have sza : (Tryz.prog.info? 30).map (·.size) = some (ncells ha sa).toArray.size := by rw [List.size_toArray, ncells, List.length_append, bcells_length, h1.1]; kernel_rfl
 have szb : (Tryz.prog.info? 30).map (·.size) = some (ncells hb sb).toArray.size := by rw [List.size_toArray, ncells, List.length_append, bcells_length, h2.1]; kernel_rfl
 have ea : nodeV ha sa = .agg (ncells ha sa).toArray := rfl
 have eb : nodeV hb sb = .agg (ncells hb sb).toArray := rfl
 rw [ea, eb]
 obtain ⟨NA, hNA⟩ : ∃ N, N = (ncells ha sa).toArray := ⟨_, rfl⟩
 obtain ⟨NB, hNB⟩ : ∃ N, N = (ncells hb sb).toArray := ⟨_, rfl⟩
 rw [← hNA] at na sza ⊢
 rw [← hNB] at nb szb ⊢
 have Au := Hh hNA
 have Av := Hh hNB
 have A1 := Hh sza
 have A2 := Hh szb
 clear hT h1 h2 hf ea eb hNA hNB sza szb
 go_enter Tryz.func52, Tryz.ntmps52
 go_upto_region 1 with (fail)
 have h3 := three w NA 30 NB 30 #[Value.int .u8 0, Value.int .u8 0, Value.int .u8 0, Value.int .u8 0, Value.int .u8 0, Value.int .u8 0, Value.int .u8 0, Value.int .u8 0, Value.int .u8 0, Value.int .u8 0, Value.int .u8 0, Value.int .u8 0, Value.int .u8 0, Value.int .u8 0, Value.int .u8 0, Value.int .u8 0, Value.int .u8 0, Value.int .u8 0, Value.int .u8 0, Value.int .u8 0, Value.int .u8 0, Value.int .u8 0, Value.int .u8 0, Value.int .u8 0, Value.int .u8 0, Value.int .u8 0, Value.int .u8 0, Value.int .u8 0, Value.int .u8 0, Value.int .u8 0, Value.int .u8 0, Value.int .u8 0, Value.int .u64 0] 30
 generalize ((w.alloc (.cells NA 30)).alloc (.cells NB 30)).alloc (.cells #[Value.int .u8 0, Value.int .u8 0, Value.int .u8 0, Value.int .u8 0, Value.int .u8 0, Value.int .u8 0, Value.int .u8 0, Value.int .u8 0, Value.int .u8 0, Value.int .u8 0, Value.int .u8 0, Value.int .u8 0, Value.int .u8 0, Value.int .u8 0, Value.int .u8 0, Value.int .u8 0, Value.int .u8 0, Value.int .u8 0, Value.int .u8 0, Value.int .u8 0, Value.int .u8 0, Value.int .u8 0, Value.int .u8 0, Value.int .u8 0, Value.int .u8 0, Value.int .u8 0, Value.int .u8 0, Value.int .u8 0, Value.int .u8 0, Value.int .u8 0, Value.int .u8 0, Value.int .u8 0, Value.int .u64 0] 30) = W at h3 ⊢
 obtain ⟨hA, hB, hr, Aa, Ac⟩ := h3
 have ca := hA.cell_is na
 have cb := hB.cell_is nb
 have Az := Hh hA
 have A0 := Hh hB
 have HR := Hh hr
 have Ah := Hh Aa
 have Am := Hh Ac
 clear hA hB hr Aa Ac na nb
 go_wp2_with fail
 refine (add_fits _ sa sb HF.o).mono ?_
 rintro _ w1 ⟨rfl, rfl⟩
 obtain ⟨sab, Ae⟩ : ∃ s : Nat, s = sa + sb := ⟨_, rfl⟩
 rw [← Ae]
 have HS := Hh Ae
 clear Ae
 go_wp2_with fail
 have hz : Has (w1.alloc (.cells Tryz.zeroCells170 170)) w1.heap.size 170 (bcells (List.replicate 80 0)).toArray := by
  have ez : (bcells (List.replicate 80 0)).toArray = Tryz.zeroCells170 := by kernel_rfl
  rw [ez]; exact Has.new w1 _ _
 have hk0 : Kept (fun _ => False) w1 (w1.alloc (.cells Tryz.zeroCells170 170)) := (Kept.refl _ _).alloc _
 generalize w1.alloc (.cells Tryz.zeroCells170 170) = W2 at hz hk0 ⊢
 obtain ⟨B3, hB3⟩ : ∃ B, B = w1.heap.size := ⟨_, rfl⟩
 rw [← hB3] at hz ⊢
 have hB3g : w.heap.size + 3 = B3 := by rw [hB3, Am.o]
 have HZ := Hh hz
 have Al := Hh hk0
 clear hz hk0 hB3
 refine wp_region_still_tail 2 (by kernel_rfl) (by kernel_rfl) ?_
 simp only [List.take_succ_cons, List.take_zero, List.drop_succ_cons, List.drop_zero]
 refine still_load_row rfl 30 (.tmp 2) rfl w.heap.size rfl 30 NA (0, 0) _ (show Has W2.drew w.heap.size 30 NA from (Az.o.kept (S := fun _ => False) Al.o (fun h => h)).drew) Tryz.underlying30 rfl A1.o ?_
 still_step
 refine wpStill_nil ?_
 change wpList _ _ _ _ _ W2.drew
 go_wp2_with fail
 have hsa : sa < 18446744073709551616 := by have := HF.o; omega
 have hsb : sb < 18446744073709551616 := by have := HF.o; omega
 rw [show Value.agg NA = nodeV ha sa by rw [Au.o]; rfl]
 refine (put_is W2.drew ha sa B3 0 40 80 170 (bcells (List.replicate 80 0)) HA.o.1 hsa (Nat.le_refl _) HZ.o.drew (by rw [bcells_length, List.length_replicate]; omega)).mono ?_
 rintro _ w2 ⟨rfl, hw2, hk2⟩
 have An := Hh hw2
 have Ai := Hh ((Al.o.mono (S' := (· = B3)) (fun _ _ h => h.elim)).trans hk2.undrew)
 clear hw2 hk2
 go_wp2_with fail
 refine wp_region_still_tail 2 (by kernel_rfl) (by kernel_rfl) ?_
 simp only [List.take_succ_cons, List.take_zero, List.drop_succ_cons, List.drop_zero]
 refine still_load_row rfl 30 (.tmp 3) rfl (w.heap.size + 1) rfl 30 NB (0, 0) _ (show Has w2.drew (w.heap.size + 1) 30 NB from (A0.o.kept Ai.o (by omega)).drew) Tryz.underlying30 rfl A2.o ?_
 still_step
 refine wpStill_nil ?_
 change wpList _ _ _ _ _ w2.drew
 go_wp2_with fail
 rw [show Value.agg NB = nodeV hb sb by rw [Av.o]; rfl]
 refine (put_is w2.drew hb sb B3 40 40 40 170 _ HB.o.1 hsb (Nat.le_refl _) An.o.drew (by rw [splice_len _ _ _ (by rw [bcells_length, bcells_length, List.length_append, HA.o.1, eight_length, List.length_replicate]; omega), bcells_length, List.length_replicate]; omega)).mono ?_
 rintro _ w3 ⟨rfl, hw3, hk3⟩
 rw [splice_two _ _ _ 40 (by rw [bcells_length, List.length_append, HA.o.1, eight_length]) (by rw [bcells_length, bcells_length, List.length_append, HB.o.1, eight_length, List.length_replicate]), ← bcells_append] at hw3
 have Ad : Kept (· = B3) w1 w3 := Ai.o.trans hk3.undrew
 have hM : (ha ++ eight sa ++ (hb ++ eight sb)).length = 80 := by rw [List.length_append, List.length_append, List.length_append, HA.o.1, HB.o.1, eight_length, eight_length]
 have hMl : ∀ x ∈ ha ++ eight sa ++ (hb ++ eight sb), x < 256 := fun x hx => by
  have he : ∀ s, ∀ x ∈ eight s, x < 256 := fun s x hx => by obtain ⟨j, _, rfl⟩ := List.mem_map.1 hx; exact Nat.mod_lt _ (by decide)
  rcases List.mem_append.1 hx with hx | hx
  · rcases List.mem_append.1 hx with hx | hx
    · exact HA.o.2 x hx
    · exact he _ x hx
  · rcases List.mem_append.1 hx with hx | hx
    · exact HB.o.2 x hx
    · exact he _ x hx
 obtain ⟨M, hMM⟩ : ∃ M, M = ha ++ eight sa ++ (hb ++ eight sb) := ⟨_, rfl⟩
 rw [← hMM] at hw3 hM hMl
 have hx1 : Below w.heap.size w w3 := Ah.o.trans (Ad.below (by have := Am.o; omega) (fun k hk => by have e : k = B3 := hk; omega))
 have hr3 := HR.o.kept Ad (by omega)
 have hTx : Tabs K s0 (w3.alloc (.cells #[Value.slice (some ⟨B3, 0, none⟩) 80 80] 48)) :=
  (HT.o.below hx1 HT.o.low).below ((Below.refl w3.heap.size w3).alloc (Nat.le_refl _) _) (by have := hx1.size; have := HT.o.low; omega)
 have Ab : Parts (w3.alloc (.cells #[Value.slice (some ⟨B3, 0, none⟩) 80 80] 48)) (.slice (some ⟨w3.heap.size, 0, none⟩) 1 1) [M] := by
  refine ⟨_, _, rfl, fun _ => ⟨w3.heap.size, 0, rfl, fun i hi => ?_⟩⟩
  have hi2 : i = 0 := by simp at hi; omega
  subst hi2
  refine ⟨_, Has.cell (Has.new w3 48 #[Value.slice (some ⟨B3, 0, none⟩) 80 80]) 0, ?_⟩
  change Bytes _ _ _ M
  have hsz : (w3.alloc (.cells #[Value.slice (some ⟨B3, 0, none⟩) 80 80] 48)).heap.size = w3.heap.size + 1 := by simp
  have hlt := hw3.lt
  refine ⟨some ⟨B3, 0, none⟩, 80, by rw [hM]; rfl, by omega, hMl, fun _ => ⟨B3, 0, rfl, by rw [hsz]; omega, fun i hi => ?_⟩⟩
  refine (hw3.alloc _).cell_is ?_
  rw [List.getElem?_toArray, Nat.zero_add, bcells_get _ _ hi]
 have Ao := Hh hx1
 have Aw := Hh hr3
 have Ay := Hh hTx
 have HP := Hh Ab
 have Ar := Hh hMM
 have HM := Hh hM
 clear hw3 hk3 Ad hM hMl hx1 hr3 hTx Ab hMM An Ai
 go_wp2_with fail
 refine (sum_a K s0 _ _ [M] M Ay.o HP.o (by simp) (by rw [HM.o]; decide) (by simp)).mono ?_
 rintro _ w5 ⟨A, rfl, hA, hb5⟩
 obtain ⟨N, F, hN, hN1, hA1, hA2, hA3, hA4, hst⟩ := node_ops (w.heap.size + 1 + 1) (digest K s0 M) sab (digest_length K s0 HT.o.len _) A hA
 have hk5 : Kept (fun _ => False) w3 w5 := ((Kept.refl (fun _ => False) w3).alloc _).trans (Kept.of_below hb5)
 have hr5 := Aw.o.kept hk5 (fun h => h)
 have hx5 : Below w.heap.size w w5 := Ao.o.trans (hk5.below Ao.o.size (fun _ h => h.elim))
 have hsz : (Tryz.prog.info? 30).map (·.size) = some N.size := by rw [hN1]; kernel_rfl
 have Ag : Has (w5.setRow (w.heap.size + 1 + 1) N) (w.heap.size + 1 + 1) 30 N := hr5.setRow
 have Aa : Below w.heap.size w (w5.setRow (w.heap.size + 1 + 1) N) := hx5.trans ((kept_setRow (g := w.heap.size + 1 + 1) w5 N).below hx5.size (fun k hk => by have e : k = w.heap.size + 1 + 1 := hk; omega))
 have Af : N.all (·.oneCell') = true := by rw [hN]; exact all_oneCell_toArray (ncells_one _ _)
 have HN := Hh hN
 have Ax := Hh hr5
 have Ap := Hh hsz
 have Ak := Hh Ag
 have Aq := Hh Aa
 have Aj := Hh Af
 have As := Hh hN1
 clear hA hN hr5 hsz Ag Aa Af hst hx5 hk5 hb5 hN1
 go_wp2_with (refine wpList_store_row rfl 30 (.tmp 4) (.tmp 31) rfl (w.heap.size + 1 + 1) N rfl rfl 30 _ Ax.o Ap.o (by rw [As.o]; rfl) Aj.o ?_)
 refine bodyPost_ret (results_cell_tmp rfl _ _ (w.heap.size + 1 + 1) 30 N (0, 0) _ rfl rfl Ak.o Tryz.underlying30 Ap.o) rfl ?_
 exact ⟨by rw [HN.o, Ar.o, HS.o]; rfl, Aq.o⟩
/- The walk of msum.Bit. -/


theorem wrap_bit (a : Nat) : wrap64 (bits BinOp.and .u8 (a : Int) 1) = ((a % 2 : Nat) : Int) := by
 have h : bits BinOp.and .u8 (a : Int) 1 = ((a % 2 : Nat) : Int) := by
  unfold bits
  have e : (BitVec.ofInt IntKind.u8.bits (a : Int) &&& BitVec.ofInt IntKind.u8.bits 1).toNat = a % 2 := by
   show (BitVec.ofInt 8 (a : Int) &&& BitVec.ofInt 8 1).toNat = a % 2
   rw [BitVec.toNat_and, BitVec.toNat_ofInt, BitVec.toNat_ofInt]
   have : ((1 : Int) % ((2 ^ 8 : Nat) : Int)).toNat = 1 := by decide
   rw [this, Nat.and_one_is_mod]
   omega
  simp only [e]
  have hw : ∀ b : Int, 0 ≤ b → b < 256 → IntKind.u8.wrap b = b := fun b h0 h1 => by
   simp [IntKind.wrap, IntKind.bits, IntKind.signed]; omega
  exact hw _ (by omega) (by omega)
 rw [h]
 unfold wrap64
 omega

theorem bit_num (ks : List Nat) (h : Int) (h0 : 0 ≤ h) (h1 : h < 256) :
  wrap64 (bits BinOp.and .u8 (((ks[((255 - h) / 8).toNat]?.getD 0 : Nat) : Int) / 2 ^ (7 - (255 - h) % 8).toNat) 1) = (bitAt ks h.toNat : Nat) := by
 have e1 : ((255 - h) / 8).toNat = 31 - h.toNat / 8 := by omega
 have e2 : (7 - (255 - h) % 8).toNat = h.toNat % 8 := by omega
 rw [e1, e2]
 have e3 : (((ks[31 - h.toNat / 8]?.getD 0 : Nat) : Int) / 2 ^ (h.toNat % 8)) = ((ks[31 - h.toNat / 8]?.getD 0 / 2 ^ (h.toNat % 8) : Nat) : Int) := by
  rw [Int.natCast_ediv, Int.natCast_pow]; rfl
 rw [e3, wrap_bit]
 unfold bitAt
 rw [List.getD_eq_getElem?_getD]

theorem bit_in (ks : List Nat) (h : Int) (w : World) (hk : ks.length = 32) (h0 : 0 ≤ h) (h1 : h < 256) :
  Calls Tryz.prog 51 #[arr ks, .int .i64 h] w fun e w' => e = .returned (.int .i64 (bitAt ks h.toNat : Nat)) ∧ w' = w.alloc (.cells (bcells ks).toArray 27) := by
 unfold arr
 have hc := cell_bcells (w := w) (ks := ks) (i := ((255 - h) / 8).toNat) (t := 27) (by omega)
 have hlen : (bcells ks).length = 32 := by rw [bcells_length, hk]
 have HN := Hh (bit_num ks h h0 h1)
 clear hk
 go_enter Tryz.func51, Tryz.ntmps51
 go_wp2
 go_ret
 exact ⟨ret_int HN.o, rfl⟩

/- The walk of the reference's Bit. -/
end Go.Proofs.YtknfbccbdiidjaaGreatDoor
