/- Plain words and laws that all texts of the seat use: the value of an array of bytes, how it is read off an argument. -/
import Derived.Test.YtknfbccbdiidjaaGreatDoorWu
import Derived.Test.YtknfbccbdiidjaaGreatDoorRows
import Derived.WalkKit
import Derived.ProofKit
import Derived.OpenShut
import Derived.ShutString
import Derived.ChangeOld
import Derived.Below
import Derived.Outline
import Derived.RegionTactic
import Derived.WalkLawsBesides
import Derived.WalkSpells
import Derived.BigQuiet
import Derived.Deep.QuietTactic
import Derived.Deep.Slices
import Derived.Laws.ShiftsVar
import Derived.Lib.Hide
import Derived.Lib.SmallJoins
import Derived.Handy
import Derived.Deep.RegionHeld3
import Derived.Deep.AppendLies
import Derived.Deep.DrawnRows
import Derived.Deep.RegionLaw
import Derived.Deep.MidRow
import Derived.Deep.DeepFit
import Derived.Deep.DeepMust
import Derived.Deep.LoopGhost
import Derived.Deep.DeepCutAuto
import Derived.Laws.CopyOwn
import Derived.Laws.AppendOwnNone
import Derived.WalkSmall
import Derived.StillTailTactics
import Derived.Great.BuildSlice
import Derived.Great.FillDense
namespace Go.Proofs.YtknfbccbdiidjaaGreatDoor
set_option linter.unusedVariables false
set_option linter.unusedSimpArgs false
open Go.ChangeShapes Go.WideShapes Go.ChangeAt Go.RowKit

theorem ret_int {k : IntKind} {a b : Int} (h : a = b) : Ending.returned (.int k a) = .returned (.int k b) := by rw [h]
theorem ret_bool {a b : Bool} (h : a = b) : Ending.returned (.bool a) = .returned (.bool b) := by rw [h]
def bcells (ks : List Nat) : List Value := ks.map fun (n : Nat) => Value.int .u8 (n : Int)
def arr (ks : List Nat) : Value := .agg (bcells ks).toArray
def IsHash (ks : List Nat) : Prop := ks.length = 32 ∧ ∀ k ∈ ks, k < 256

theorem bcells_length (ks : List Nat) : (bcells ks).length = ks.length := by simp [bcells]
theorem bcells_get (ks : List Nat) (i : Nat) (h : i < ks.length) : (bcells ks)[i]? = some (.int .u8 (ks.getD i 0 : Nat)) := by
 simp [bcells, h]
theorem cell_bcells {w : World} {ks : List Nat} {i : Nat} {t : TypeId} (h : i < ks.length) :
  (w.alloc (.cells (bcells ks).toArray t)).cell? ⟨w.heap.size, i, none⟩ = some (.int .u8 (ks.getD i 0 : Nat)) := by
 rw [World.cell?_alloc_new]; simpa using bcells_get ks i h

def u8Of : Value → Nat
 | .int _ n => n.toNat
 | _ => 0

theorem bytes_of_cells (l : List Value) (hl : l.length = 32) (hk : ∀ i, i < 32 → ∃ n : Nat, l[i]? = some (Value.int .u8 (n : Int)) ∧ n < 256) :
   l = bcells (l.map u8Of) ∧ IsHash (l.map u8Of) := by
 constructor
 · apply List.ext_getElem?
   intro i
   by_cases hi : i < 32
   · obtain ⟨n, hn, _⟩ := hk i hi
     simp [bcells, hn, u8Of]
   · rw [List.getElem?_eq_none (by omega), List.getElem?_eq_none (by simp [bcells]; omega)]
 · refine ⟨by simpa using hl, fun k hkm => ?_⟩
   obtain ⟨v, hv, rfl⟩ := List.mem_map.1 hkm
   obtain ⟨i, hi, rfl⟩ := List.getElem_of_mem hv
   obtain ⟨n, hn, hlt⟩ := hk i (by omega)
   rw [List.getElem?_eq_getElem hi] at hn
   rw [Option.some.inj hn]
   simpa [u8Of] using hlt

theorem open_hash {H : Type} {enc : TypeId × Value → H} {P : Program} {w : World} {base base' : Nat} {spare : Nat → Bool} {held : Bool} {t e : TypeId} {v : Value} {d : DataW H} {p : List MemPlace} {r : Reach}
  (ht : P.underlying t = some (.array 32 e)) (he : P.underlying e = some (.int .u8)) (h1 : P.cellsOf e = 1) (h32 : P.cellsOf t = 32)
  (hv : Value.okWide P w r base' t v) (h : DataW.Trod enc P w base spare held t v d p) : ∃ ks, v = arr ks ∧ IsHash ks := by
 unfold Value.okWide at hv
 rw [ht] at hv
 obtain ⟨cs, rfl, hs, _⟩ := hv
 obtain ⟨fuel, hf⟩ := h
 have hf' : DataW.trod enc P w base spare held fuel t cs.toList = some (d, p) := by simpa [Value.cells] using hf
 obtain ⟨xs, m, _, hx, Aa, hn, Ab⟩ := DataW.trod_array ht hf'
 rw [h32] at Aa
 obtain ⟨e1, e2⟩ := bytes_of_cells cs.toList Aa (by
  intro i hi
  have := Ab i hi
  rw [h1, Nat.mul_one, List.getElem?_eq_getElem (by omega)] at this
  obtain ⟨n, hn1, _, hw⟩ := DataW.trod_int he this
  rw [List.drop_eq_getElem_cons (by omega)] at hn1
  simp only [List.take_succ_cons, List.take_zero, List.cons.injEq, and_true] at hn1
  have hb := bounds_u8 hw
  refine ⟨n.toNat, ?_, by omega⟩
  rw [List.getElem?_eq_getElem (by omega), hn1, Int.toNat_of_nonneg hb.1])
 exact ⟨cs.toList.map u8Of, by unfold arr; rw [← e1], e2⟩

/- A key's turn at a height. -/

def bitAt (ks : List Nat) (h : Nat) : Nat := ks.getD (31 - h / 8) 0 / 2 ^ (h % 8) % 2

theorem bitAt_lt (ks : List Nat) (h : Nat) : bitAt ks h < 2 := Nat.mod_lt _ (by omega)
section

/- Words for memory that the call itself makes: a block known whole; what is kept; a row of bytes that is owned. -/

def Has (w : World) (g : Nat) (t : TypeId) (cs : Array Value) : Prop := w.heap[g]? = some (.cells cs t (0, 0))

structure Kept (S : Nat → Prop) (w w' : World) : Prop where
 os : w'.os = w.os
 tape : w'.tape = w.tape
 output : w'.output = w.output
 size : w.heap.size ≤ w'.heap.size
 block : ∀ k, k < w.heap.size → ¬ S k → w'.heap[k]? = w.heap[k]?

section
variable {w w' w1 : World} {g : Nat} {t : TypeId} {cs : Array Value} {S : Nat → Prop}

theorem Has.lt (h : Has w g t cs) : g < w.heap.size := (Array.getElem?_eq_some_iff.1 h).1
theorem Has.cell (h : Has w g t cs) (i : Nat) : w.cell? ⟨g, i, none⟩ = cs[i]? := by unfold Has at h; simp [World.cell?, h]
theorem Has.cell_is {i : Nat} {v : Value} (h : Has w g t cs) (hi : cs[i]? = some v) : w.cell? ⟨g, i, none⟩ = some v := (h.cell i).trans hi
theorem Has.free (h : Has w g t cs) (i : Nat) : w.frozen? ⟨g, i, none⟩ = false := by unfold Has at h; simp [World.frozen?, h]
theorem Has.new (w : World) (t : TypeId) (cs : Array Value) : Has (w.alloc (.cells cs t)) w.heap.size t cs := heap_alloc_new w _
theorem Has.alloc (h : Has w g t cs) (o : Obj) : Has (w.alloc o) g t cs := (Below.heap_alloc w o g h.lt).trans h
theorem Has.drew (h : Has w g t cs) : Has w.drew g t cs := h
theorem Has.drewN (h : Has w g t cs) (n : Nat) : Has (w.drewN n) g t cs := h
theorem Has.set (h : Has w g t cs) (i : Nat) (u : Value) : Has (w.setCell ⟨g, i, none⟩ u) g t (cs.setIfInBounds i u) := by
 unfold Has at h ⊢; simp [World.setCell, Array.getElem?_modify, h]
theorem Has.far (h : Has w g t cs) {p : Addr} (hp : g ≠ p.block) (u : Value) : Has (w.setCell p u) g t cs := (Below.heap_setCell w p u g hp).trans h
theorem Has.kept (h : Has w g t cs) (hk : Kept S w w') (hg : ¬ S g) : Has w' g t cs := (hk.block g h.lt hg).trans h
theorem Has.below {B : Nat} (h : Has w g t cs) (hk : Below B w w') (hg : g < B) : Has w' g t cs := (hk.block g hg).trans h
theorem Has.grown {row : Option Nat} (h : Has w g t cs) (hk : w.grownBy w' row) (hg : some g ≠ row) : Has w' g t cs := (hk.block g h.lt hg).trans h
theorem Has.ne {g' : Nat} {t' : TypeId} {cs' : Array Value} (h : Has w g t cs) (h' : Has w g' t' cs') (ht : t ≠ t') : g ≠ g' := by
 rintro rfl
 unfold Has at h h'
 rw [h] at h'
 injection h' with h'
 injection h' with _ e
 exact ht e
theorem Has.same {cs' : Array Value} {t' : TypeId} (h : Has w g t cs) (h' : Has w g t' cs') : cs = cs' := by
 unfold Has at h h'
 rw [h] at h'
 injection h' with h'
 injection h' with e _

theorem Kept.refl (S : Nat → Prop) (w : World) : Kept S w w := ⟨rfl, rfl, rfl, Nat.le_refl _, fun _ _ _ => rfl⟩
theorem Kept.trans (h : Kept S w w1) (k : Kept S w1 w') : Kept S w w' :=
 ⟨k.os.trans h.os, k.tape.trans h.tape, k.output.trans h.output, Nat.le_trans h.size k.size,
  fun i hi hs => (k.block i (Nat.lt_of_lt_of_le hi h.size) hs).trans (h.block i hi hs)⟩
theorem Kept.mono {S' : Nat → Prop} (h : Kept S w w') (hs : ∀ k, k < w.heap.size → S k → S' k) : Kept S' w w' :=
 ⟨h.os, h.tape, h.output, h.size, fun k hk hn => h.block k hk (fun e => hn (hs k hk e))⟩
theorem Kept.step {S' : Nat → Prop} (h : Kept S w w1) (k : Kept S' w1 w') (hs : ∀ k, S' k → S k ∨ w.heap.size ≤ k) : Kept S w w' :=
 ⟨k.os.trans h.os, k.tape.trans h.tape, k.output.trans h.output, Nat.le_trans h.size k.size,
  fun i hi hn => (k.block i (Nat.lt_of_lt_of_le hi h.size) (fun e => (hs i e).elim hn (fun e' => by omega))).trans (h.block i hi hn)⟩
theorem Kept.drew (h : Kept S w w') : Kept S w w'.drew := ⟨h.os, h.tape, h.output, h.size, h.block⟩
theorem Kept.drewN (h : Kept S w w') (n : Nat) : Kept S w (w'.drewN n) := ⟨h.os, h.tape, h.output, h.size, h.block⟩
theorem Kept.alloc (h : Kept S w w') (o : Obj) : Kept S w (w'.alloc o) :=
 ⟨h.os, h.tape, h.output, by simp; have := h.size; omega, fun k hk hs => (Below.heap_alloc _ _ _ (Nat.lt_of_lt_of_le hk h.size)).trans (h.block k hk hs)⟩
theorem Kept.set (h : Kept S w w') {p : Addr} (hp : S p.block ∨ w.heap.size ≤ p.block) (u : Value) : Kept S w (w'.setCell p u) :=
 ⟨h.os, h.tape, h.output, by simpa [World.setCell] using h.size, fun k hk hs => (Below.heap_setCell _ p u k (fun e => hp.elim (fun e' => hs (by rw [e]; exact e')) (fun e' => by omega))).trans (h.block k hk hs)⟩
theorem Kept.grown {row : Option Nat} (h : Kept S w w') (hg : w'.grownBy w1 row) (hr : ∀ k, row = some k → S k ∨ w.heap.size ≤ k) : Kept S w w1 :=
 ⟨hg.os.trans h.os, hg.tape.trans h.tape, hg.output.trans h.output, Nat.le_trans h.size hg.size,
  fun k hk hs => (hg.block k (Nat.lt_of_lt_of_le hk h.size) (fun e => (hr k e.symm).elim hs (fun e' => by omega))).trans (h.block k hk hs)⟩
theorem Kept.below {B : Nat} (h : Kept S w w') (hb : B ≤ w.heap.size) (hs : ∀ k, S k → B ≤ k) : Below B w w' :=
 ⟨h.os, h.tape, h.output, h.size, fun k hk => h.block k (by omega) (fun e => by have := hs k e; omega)⟩
theorem Kept.of_below (h : Below w.heap.size w w') : Kept S w w' := ⟨h.os, h.tape, h.output, h.size, fun k hk _ => h.block k hk⟩
theorem Kept.of_grown {row : Option Nat} (h : w.grownBy w' row) : Kept (fun k => some k = row) w w' := ⟨h.os, h.tape, h.output, h.size, fun k hk hs => h.block k hk hs⟩

theorem grown_undrew {row : Option Nat} (h : w.drew.grownBy w' row) : w.grownBy w' row := ⟨h.os, h.tape, h.output, h.size, h.block⟩
theorem below_undrew {B : Nat} (h : Below B w.drew w') : Below B w w' := ⟨h.os, h.tape, h.output, h.size, h.block⟩
theorem Kept.undrew (h : Kept S w.drew w') : Kept S w w' := ⟨h.os, h.tape, h.output, h.size, h.block⟩
theorem cell_far {a p : Addr} {v u : Value} (h : w.cell? a = some v) (hne : a.block ≠ p.block) : (w.setCell p u).cell? a = some v :=
 (World.cell?_setCell_other w p a u (fun e => hne (by rw [e]))).trans h
theorem own_kept {base : Nat} {e : TypeId} {size n : Nat} {v : Value} {xs : List Value} (h : w.ownsRow base e size v n xs) (hk : Kept S w w') (hs : ∀ k, v.ownBlock = some k → ¬ S k) : w'.ownsRow base e size v n xs := by
 refine ⟨h.1, ?_⟩
 rcases h.2 with h2 | ⟨g, cap, cur, rfl, hg, hh, r⟩
 · exact .inl h2
 · exact .inr ⟨g, cap, cur, rfl, hg, by rw [hk.block g (Array.getElem?_eq_some_iff.1 hh).1 (hs g rfl)]; exact hh, r⟩
theorem own_has_ne {base : Nat} {e : TypeId} {size n : Nat} {v : Value} {xs : List Value} (h : w.ownsRow base e size v n xs) (hg : Has w g t cs) (ht : e ≠ t) : ∀ k, v.ownBlock = some k → k ≠ g := by
 intro k hk
 rcases h.2 with ⟨rfl, _⟩ | ⟨g', cap, cur, rfl, _, hh, _⟩
 · simp [Value.ownBlock] at hk
 · simp [Value.ownBlock] at hk
   subst hk
   exact Has.ne (t := e) hh hg ht
theorem own_own_ne {base base' : Nat} {e e' : TypeId} {size size' n n' : Nat} {v v' : Value} {xs xs' : List Value} (h : w.ownsRow base e size v n xs) (h' : w.ownsRow base' e' size' v' n' xs') (ht : e ≠ e') :
   ∀ k, v.ownBlock = some k → v'.ownBlock ≠ some k := by
 intro k hk hk'
 rcases h'.2 with ⟨rfl, _⟩ | ⟨g', cap, cur, rfl, _, hh, _⟩
 · simp [Value.ownBlock] at hk'
 · simp [Value.ownBlock] at hk'
   subst hk'
   exact own_has_ne h (t := e') hh ht _ hk rfl
theorem own_base {base base' : Nat} {e : TypeId} {size n : Nat} {v : Value} {xs : List Value} (h : w.ownsRow base e size v n xs) (hb : base' ≤ base) : w.ownsRow base' e size v n xs := by
 refine ⟨h.1, ?_⟩
 rcases h.2 with h2 | ⟨g, cap, cur, rfl, hg, r⟩
 · exact .inl h2
 · exact .inr ⟨g, cap, cur, rfl, by omega, r⟩
theorem own_open {base : Nat} {e : TypeId} {size n : Nat} {v : Value} {xs : List Value} (h : w.ownsRow base e size v n xs) (hn : 0 < n) :
   ∃ g cap cur, v = .slice (some ⟨g, 0, none⟩) n cap ∧ base ≤ g ∧ Has w g e cur ∧ n ≤ cap ∧ cap ≤ maxLen ∧ cur.size = cap * size ∧ ∀ j, j < n * size → cur[j]? = xs[j]? := by
 rcases h.2 with ⟨_, h2⟩ | ⟨g, cap, cur, rfl, hg, hh, h1, h2, h3, h4⟩
 · omega
 · refine ⟨g, cap, cur, rfl, hg, hh, h1, h2, h3, fun j hj => ?_⟩
   rw [← h4, List.getElem?_take, if_pos hj]; simp
end
theorem cell_held {S : Nat → Prop} {w w' : World} (hk : Kept S w w') {a : Addr} {v : Value} (h : w.cell? a = some v) (hs : ¬ S a.block) : w'.cell? a = some v := by
 have := World.block_lt_of_cell? w _ h
 unfold World.cell? at h ⊢
 rw [hk.block _ this hs]; exact h
theorem rangeAt_kept {S : Nat → Prop} {w w' : World} {g o : Nat} {cs : List Value} (h : w.rangeAt g o cs) (hk : Kept S w w') (hs : ¬ S g) : w'.rangeAt g o cs := fun j v hv => cell_held hk (h j v hv) hs
theorem bcells_oneC (bs : List Nat) : ∀ u ∈ bcells bs, u.oneCell' = true := by
 intro u hu; obtain ⟨n, _, rfl⟩ := List.mem_map.1 hu; rfl
end

/- A whole array read in a region that draws its order. -/

theorem still_load_row {P : Program} {w : World} {ops : Array Oper} {rest : List Oper} {o : Oper} {a : Act} {Q : Act → Prop} (hgd : o.guard = none) (ty : TypeId) (x : Operand) (ho : o.op = .load ty x)
  (g : Nat) (hx : a.eval x = .pointer (some ⟨g, 0, none⟩)) (t : TypeId) (cs : Array Value) (fr : Nat × Nat) (d : TypeDesc) (hg : w.heap[g]? = some (.cells cs t fr))
  (hu : P.underlying ty = some d) (hd : d.isRow = true) (hi : (P.info? ty).map (·.size) = some cs.size)
  (h : wpStill P ops w Q rest (a.put o.dst (.agg cs))) : wpStill P ops w Q (o :: rest) a := by
 refine wpStill_step fun K hK => ?_
 have hw : Region.wanted o (yielded ops a.tmps) = true := by simp [Region.wanted, hgd]
 rw [if_pos hw]
 have hl := run_loadVar_mid (P := P) w g 0 ty cs.toList d (fun j v hv => by rw [Nat.zero_add, cell_of_row w g j cs t fr hg]; simpa using hv) hu hd (by simpa using hi)
 unfold Oper.still execOp
 simp only [ho, hx, Instr.loadAt, Instr.sureAddr, Sem.run_bind, Sem.run_pure, Result.andThen_ok, hl, Array.toArray_toList]
 rw [Oper.stillUpon_value]
 exact hK _ h


/- Arms for the walk: a struct or an array is built by a run that is known; a slice of one struct is built. -/

theorem wpList_build_run {P : Program} {ops : Array Oper} {Q : Exit → Act → World → Prop} {a : Act} {w : World} {rest : List Oper} {o : Oper} (hw : Region.wanted o (yielded ops a.tmps) = true) (t : TypeId) (parts : Array (Nat × Operand)) (ho : o.op = .build t parts)
  (vs : Array (Nat × Value)) (hv : (parts.map fun (i, x) => (i, a.eval x)) = vs) (v : Value) (hrun : (Instr.build t vs).run P w = .ok v w) (h : wpList P ops Q rest (a.put o.dst v) w) : wpList P ops Q (o :: rest) a w := by
 refine BigFrame.wpList_want hw fun K hK => ?_
 unfold Oper.wp
 simp only [execOp, ho, hv, Sem.run_bind, hrun, Result.andThen_ok, Sem.run_pure]
 exact hK _ _ h
theorem wpList_build1 {P : Program} {ops : Array Oper} {rest : List Oper} {o : Oper} {a : Act} {w : World} {Q : Exit → Act → World → Prop} (hgd : o.guard = none) (t e : TypeId) (x : Operand) (hop : o.op = .buildSlice t 1 #[(0, x)])
  (ie : TypeInfo) (z : Value) (hu : P.underlying t = some (.slice e)) (hie : P.info? e = some ie) (hz : ie.zero = some z) (L : List Value) (hL : ie.size = L.length) (hzs : z.cells.size = L.length) (h0 : 0 < L.length) (h24 : L.length ≤ 16777216)
  (hx : a.eval x = .agg L.toArray) (h : wpList P ops Q rest (a.put o.dst (.slice (some ⟨w.heap.size, 0, none⟩) 1 1)) (w.alloc (.cells L.toArray e))) : wpList P ops Q (o :: rest) a w := by
 refine wpList_plain hgd fun K hK => ?_
 refine wp_buildSlice t e 1 #[(0, x)] hop L.toArray ie z hu hie hz (by rw [hL]; omega) (by rw [hL]; omega) ?_ (hK _ _ h)
 have := Great.fill_whole (s := ie.size) (by omega) [.agg L.toArray] ((Array.range (1 * ie.size)).map (z.cells[· % z.cells.size]!)) (by simp [Value.cells, hL]) (by simp)
 simpa [hx, Value.cells] using this

section

/- Single operations of a region that draws and only reads. -/

section
variable {P : Program} {w : World} {ops : Array Oper} {rest : List Oper} {o : Oper} {a : Act} {Q : Act → Prop}
end
end

/- A block of which some cells are stored anew. -/

theorem Has.setCells {g : Nat} {t : TypeId} : ∀ (vs : List Value) (o : Nat) (w : World) (cur : Array Value), Has w g t cur →
  ∃ cur', Has (w.setCells g o vs) g t cur' ∧ cur'.size = cur.size ∧ (∀ j, j < cur.size → cur'[j]? = if o ≤ j ∧ j < o + vs.length then vs[j - o]? else cur[j]?) ∧ Kept (fun k => k = g) w (w.setCells g o vs)
 | [], o, w, cur, h => ⟨cur, h, rfl, fun j _ => by rw [if_neg (by simp)], Kept.refl _ _⟩
 | v :: vs, o, w, cur, h => by
  obtain ⟨cur', h1, h2, h3, h4⟩ := Has.setCells vs (o + 1) _ _ (h.set o v)
  refine ⟨cur', h1, by rw [h2]; simp, fun j hj => ?_, ((Kept.refl (fun k => k = g) w).set (p := ⟨g, o, none⟩) (.inl rfl) v).trans h4⟩
  rw [h3 j (by simpa using hj)]
  by_cases e : j = o
  · subst e
    rw [if_neg (by omega), if_pos (by simp), Nat.sub_self, Array.getElem?_setIfInBounds_self_of_lt hj]
    rfl
  · by_cases e2 : o + 1 ≤ j ∧ j < o + 1 + vs.length
    · rw [if_pos e2, if_pos (by simp; omega), show j - o = (j - (o + 1)) + 1 by omega, List.getElem?_cons_succ]
    · rw [if_neg e2, if_neg (by simp only [List.length_cons]; omega), Array.getElem?_setIfInBounds_ne (by omega)]

theorem step_store_mid {P : Program} {ops : Array Oper} {op : Oper} {a : Act} {w : World} {K : Act → World → Prop} {Q : Exit → Act → World → Prop} (hw : Region.wanted op (yielded ops a.tmps) = true) (ty : TypeId) (x y : Operand) (ho : op.op = .store ty x y)
  (b o : Nat) (cells : Array Value) (hx : a.eval x = .pointer (some ⟨b, o, none⟩)) (hy : a.eval y = .agg cells)
  (ht : w.there b o cells.size) (hi : (P.info? ty).map (·.size) = some cells.size) (h1 : cells.all (·.oneCell') = true)
  (h : K (a.put op.dst undef) (w.setCells b o cells.toList)) : if Region.wanted op (yielded ops a.tmps) = true then Oper.wp P op a w K Q else K (a.put op.dst undef) w := by
 rw [if_pos hw]
 exact wp_store_mid ty x y ho b o cells hx hy ht hi h1 h
theorem Has.row0 {w : World} {g : Nat} {t : TypeId} {L : List Value} (h : Has w g t L.toArray) : w.rangeAt g 0 L := fun j u hu => by
 rw [Nat.zero_add]
 exact h.cell_is (by rw [List.getElem?_toArray]; exact hu)
theorem Has.there {w : World} {g : Nat} {t : TypeId} {cs : Array Value} (h : Has w g t cs) (o n : Nat) (hn : o + n ≤ cs.size) : w.there g o n := fun j hj => ⟨by rw [h.cell, Array.getElem?_eq_getElem (by omega)]; rfl, h.free _⟩
theorem wpList_load_midG {P : Program} {ops : Array Oper} {rest : List Oper} {op : Oper} {a : Act} {w : World} {Q : Exit → Act → World → Prop} (hw : Region.wanted op (yielded ops a.tmps) = true) (ty : TypeId) (x : Operand) (ho : op.op = .load ty x)
  (b o : Nat) (hx : a.eval x = .pointer (some ⟨b, o, none⟩)) (cs : List Value) (d : TypeDesc) (hc : w.rangeAt b o cs)
  (hu : P.underlying ty = some d) (hd : d.isRow = true) (hi : (P.info? ty).map (·.size) = some cs.length)
  (h : wpList P ops Q rest (a.put op.dst (.agg cs.toArray)) w) : wpList P ops Q (op :: rest) a w :=
 BigFrame.wpList_want hw fun _ hK => wp_load_mid ty x ho b o hx cs d hc hu hd hi (hK _ _ h)
theorem wrap64_nat (n : Nat) (h : n < 4611686018427387904) : wrap64 (n : Int) = (n : Int) := by unfold wrap64; omega
theorem wrap64_succ (n : Nat) (h : n < 4611686018427387904) : wrap64 ((n : Int) + 1) = ((n + 1 : Nat) : Int) := by unfold wrap64; omega
theorem wrap64_add (a b : Nat) (h : a + b < 4611686018427387904) : wrap64 ((a : Int) + (b : Int)) = ((a + b : Nat) : Int) := by unfold wrap64; omega
end Go.Proofs.YtknfbccbdiidjaaGreatDoor
