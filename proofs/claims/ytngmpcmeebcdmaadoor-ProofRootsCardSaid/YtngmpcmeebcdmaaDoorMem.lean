/- Words for memory that the call itself makes: a block known whole; what is kept; a row of bytes that is owned. -/
import Derived.Test.YtngmpcmeebcdmaaDoorBase
import Derived.Handy
import Derived.Deep.RegionHeld3
import Derived.Deep.AppendLies
import Derived.Deep.DrawnRows
import Derived.Deep.RegionLaw
import Derived.Deep.MidRow
import Derived.Deep.DeepFit
import Derived.Deep.DeepMust
import Derived.Deep.LoopGhost
import Derived.Deep.DeepCutAuto
import Derived.Laws.CopyOwn
import Derived.Laws.AppendOwnNone
import Derived.WalkSmall
namespace Go.Proofs.YtngmpcmeebcdmaaDoor
set_option linter.unusedVariables false
set_option linter.unusedSimpArgs false
open Go.ChangeShapes Go.WideShapes Go.ChangeAt Go.RowKit

/-- block g is just these cells, none of them frozen. -/
def Has (w : World) (g : Nat) (t : TypeId) (cs : Array Value) : Prop := w.heap[g]? = some (.cells cs t (0, 0))

/-- the world w' is w, but for new blocks and for the blocks of S. -/
structure Kept (S : Nat → Prop) (w w' : World) : Prop where
  os : w'.os = w.os
  tape : w'.tape = w.tape
  output : w'.output = w.output
  size : w.heap.size ≤ w'.heap.size
  block : ∀ k, k < w.heap.size → ¬ S k → w'.heap[k]? = w.heap[k]?

section
variable {w w' w1 : World} {g : Nat} {t : TypeId} {cs : Array Value} {S : Nat → Prop}

theorem Has.lt (h : Has w g t cs) : g < w.heap.size := (Array.getElem?_eq_some_iff.1 h).1
theorem Has.cell (h : Has w g t cs) (i : Nat) : w.cell? ⟨g, i, none⟩ = cs[i]? := by unfold Has at h; simp [World.cell?, h]
theorem Has.cell_is {i : Nat} {v : Value} (h : Has w g t cs) (hi : cs[i]? = some v) : w.cell? ⟨g, i, none⟩ = some v := (h.cell i).trans hi
theorem Has.free (h : Has w g t cs) (i : Nat) : w.frozen? ⟨g, i, none⟩ = false := by unfold Has at h; simp [World.frozen?, h]
theorem Has.new (w : World) (t : TypeId) (cs : Array Value) : Has (w.alloc (.cells cs t)) w.heap.size t cs := heap_alloc_new w _
theorem Has.alloc (h : Has w g t cs) (o : Obj) : Has (w.alloc o) g t cs := (Below.heap_alloc w o g h.lt).trans h
theorem Has.drew (h : Has w g t cs) : Has w.drew g t cs := h
theorem Has.drewN (h : Has w g t cs) (n : Nat) : Has (w.drewN n) g t cs := h
theorem Has.set (h : Has w g t cs) (i : Nat) (u : Value) : Has (w.setCell ⟨g, i, none⟩ u) g t (cs.setIfInBounds i u) := by
  unfold Has at h ⊢; simp [World.setCell, Array.getElem?_modify, h]
theorem Has.far (h : Has w g t cs) {p : Addr} (hp : g ≠ p.block) (u : Value) : Has (w.setCell p u) g t cs := (Below.heap_setCell w p u g hp).trans h
theorem Has.kept (h : Has w g t cs) (hk : Kept S w w') (hg : ¬ S g) : Has w' g t cs := (hk.block g h.lt hg).trans h
theorem Has.below {B : Nat} (h : Has w g t cs) (hk : Below B w w') (hg : g < B) : Has w' g t cs := (hk.block g hg).trans h
theorem Has.grown {row : Option Nat} (h : Has w g t cs) (hk : w.grownBy w' row) (hg : some g ≠ row) : Has w' g t cs := (hk.block g h.lt hg).trans h
theorem Has.ne {g' : Nat} {t' : TypeId} {cs' : Array Value} (h : Has w g t cs) (h' : Has w g' t' cs') (ht : t ≠ t') : g ≠ g' := by
  rintro rfl
  unfold Has at h h'
  rw [h] at h'
  injection h' with h'
  injection h' with _ e
  exact ht e
theorem Has.same {cs' : Array Value} {t' : TypeId} (h : Has w g t cs) (h' : Has w g t' cs') : cs = cs' := by
  unfold Has at h h'
  rw [h] at h'
  injection h' with h'
  injection h' with e _

theorem Kept.refl (S : Nat → Prop) (w : World) : Kept S w w := ⟨rfl, rfl, rfl, Nat.le_refl _, fun _ _ _ => rfl⟩
theorem Kept.trans (h : Kept S w w1) (k : Kept S w1 w') : Kept S w w' :=
  ⟨k.os.trans h.os, k.tape.trans h.tape, k.output.trans h.output, Nat.le_trans h.size k.size,
   fun i hi hs => (k.block i (Nat.lt_of_lt_of_le hi h.size) hs).trans (h.block i hi hs)⟩
theorem Kept.mono {S' : Nat → Prop} (h : Kept S w w') (hs : ∀ k, k < w.heap.size → S k → S' k) : Kept S' w w' :=
  ⟨h.os, h.tape, h.output, h.size, fun k hk hn => h.block k hk (fun e => hn (hs k hk e))⟩
/-- behind a step that turns what is new alone -/
theorem Kept.step {S' : Nat → Prop} (h : Kept S w w1) (k : Kept S' w1 w') (hs : ∀ k, S' k → S k ∨ w.heap.size ≤ k) : Kept S w w' :=
  ⟨k.os.trans h.os, k.tape.trans h.tape, k.output.trans h.output, Nat.le_trans h.size k.size,
   fun i hi hn => (k.block i (Nat.lt_of_lt_of_le hi h.size) (fun e => (hs i e).elim hn (fun e' => by omega))).trans (h.block i hi hn)⟩
theorem Kept.drew (h : Kept S w w') : Kept S w w'.drew := ⟨h.os, h.tape, h.output, h.size, h.block⟩
theorem Kept.drewN (h : Kept S w w') (n : Nat) : Kept S w (w'.drewN n) := ⟨h.os, h.tape, h.output, h.size, h.block⟩
theorem Kept.alloc (h : Kept S w w') (o : Obj) : Kept S w (w'.alloc o) :=
  ⟨h.os, h.tape, h.output, by simp; have := h.size; omega, fun k hk hs => (Below.heap_alloc _ _ _ (Nat.lt_of_lt_of_le hk h.size)).trans (h.block k hk hs)⟩
theorem Kept.set (h : Kept S w w') {p : Addr} (hp : S p.block ∨ w.heap.size ≤ p.block) (u : Value) : Kept S w (w'.setCell p u) :=
  ⟨h.os, h.tape, h.output, by simpa [World.setCell] using h.size, fun k hk hs => (Below.heap_setCell _ p u k (fun e => hp.elim (fun e' => hs (by rw [e]; exact e')) (fun e' => by omega))).trans (h.block k hk hs)⟩
theorem Kept.grown {row : Option Nat} (h : Kept S w w') (hg : w'.grownBy w1 row) (hr : ∀ k, row = some k → S k ∨ w.heap.size ≤ k) : Kept S w w1 :=
  ⟨hg.os.trans h.os, hg.tape.trans h.tape, hg.output.trans h.output, Nat.le_trans h.size hg.size,
   fun k hk hs => (hg.block k (Nat.lt_of_lt_of_le hk h.size) (fun e => (hr k e.symm).elim hs (fun e' => by omega))).trans (h.block k hk hs)⟩
theorem Kept.below {B : Nat} (h : Kept S w w') (hb : B ≤ w.heap.size) (hs : ∀ k, S k → B ≤ k) : Below B w w' :=
  ⟨h.os, h.tape, h.output, h.size, fun k hk => h.block k (by omega) (fun e => by have := hs k e; omega)⟩
theorem Kept.of_below (h : Below w.heap.size w w') : Kept S w w' := ⟨h.os, h.tape, h.output, h.size, fun k hk _ => h.block k hk⟩
theorem Kept.of_grown {row : Option Nat} (h : w.grownBy w' row) : Kept (fun k => some k = row) w w' := ⟨h.os, h.tape, h.output, h.size, fun k hk hs => h.block k hk hs⟩

theorem grown_undrew {row : Option Nat} (h : w.drew.grownBy w' row) : w.grownBy w' row := ⟨h.os, h.tape, h.output, h.size, h.block⟩
theorem below_undrew {B : Nat} (h : Below B w.drew w') : Below B w w' := ⟨h.os, h.tape, h.output, h.size, h.block⟩
theorem below_undrewN {B n : Nat} (h : Below B (w.drewN n) w') : Below B w w' := ⟨h.os, h.tape, h.output, h.size, h.block⟩
theorem Kept.undrew (h : Kept S w.drew w') : Kept S w w' := ⟨h.os, h.tape, h.output, h.size, h.block⟩
theorem Kept.undrewN {n : Nat} (h : Kept S (w.drewN n) w') : Kept S w w' := ⟨h.os, h.tape, h.output, h.size, h.block⟩
theorem cell_far {a p : Addr} {v u : Value} (h : w.cell? a = some v) (hne : a.block ≠ p.block) : (w.setCell p u).cell? a = some v :=
  (World.cell?_setCell_other w p a u (fun e => hne (by rw [e]))).trans h
/-- a row that is owned stays so where its block is kept. -/
theorem own_kept {base : Nat} {e : TypeId} {size n : Nat} {v : Value} {xs : List Value} (h : w.ownsRow base e size v n xs) (hk : Kept S w w') (hs : ∀ k, v.ownBlock = some k → ¬ S k) : w'.ownsRow base e size v n xs := by
  refine ⟨h.1, ?_⟩
  rcases h.2 with h2 | ⟨g, cap, cur, rfl, hg, hh, r⟩
  · exact .inl h2
  · exact .inr ⟨g, cap, cur, rfl, hg, by rw [hk.block g (Array.getElem?_eq_some_iff.1 hh).1 (hs g rfl)]; exact hh, r⟩
/-- two rows of different element types lie in different blocks. -/
theorem own_has_ne {base : Nat} {e : TypeId} {size n : Nat} {v : Value} {xs : List Value} (h : w.ownsRow base e size v n xs) (hg : Has w g t cs) (ht : e ≠ t) : ∀ k, v.ownBlock = some k → k ≠ g := by
  intro k hk
  rcases h.2 with ⟨rfl, _⟩ | ⟨g', cap, cur, rfl, _, hh, _⟩
  · simp [Value.ownBlock] at hk
  · simp [Value.ownBlock] at hk
    subst hk
    exact Has.ne (t := e) hh hg ht
theorem own_own_ne {base base' : Nat} {e e' : TypeId} {size size' n n' : Nat} {v v' : Value} {xs xs' : List Value} (h : w.ownsRow base e size v n xs) (h' : w.ownsRow base' e' size' v' n' xs') (ht : e ≠ e') :
    ∀ k, v.ownBlock = some k → v'.ownBlock ≠ some k := by
  intro k hk hk'
  rcases h'.2 with ⟨rfl, _⟩ | ⟨g', cap, cur, rfl, _, hh, _⟩
  · simp [Value.ownBlock] at hk'
  · simp [Value.ownBlock] at hk'
    subst hk'
    exact own_has_ne h (t := e') hh ht _ hk rfl
theorem own_base {base base' : Nat} {e : TypeId} {size n : Nat} {v : Value} {xs : List Value} (h : w.ownsRow base e size v n xs) (hb : base' ≤ base) : w.ownsRow base' e size v n xs := by
  refine ⟨h.1, ?_⟩
  rcases h.2 with h2 | ⟨g, cap, cur, rfl, hg, r⟩
  · exact .inl h2
  · exact .inr ⟨g, cap, cur, rfl, by omega, r⟩
/-- an owned row that is not empty, laid open. -/
theorem own_open {base : Nat} {e : TypeId} {size n : Nat} {v : Value} {xs : List Value} (h : w.ownsRow base e size v n xs) (hn : 0 < n) :
    ∃ g cap cur, v = .slice (some ⟨g, 0, none⟩) n cap ∧ base ≤ g ∧ Has w g e cur ∧ n ≤ cap ∧ cap ≤ maxLen ∧ cur.size = cap * size ∧ ∀ j, j < n * size → cur[j]? = xs[j]? := by
  rcases h.2 with ⟨_, h2⟩ | ⟨g, cap, cur, rfl, hg, hh, h1, h2, h3, h4⟩
  · omega
  · refine ⟨g, cap, cur, rfl, hg, hh, h1, h2, h3, fun j hj => ?_⟩
    rw [← h4, List.getElem?_take, if_pos hj]; simp
end
theorem cell_held {S : Nat → Prop} {w w' : World} (hk : Kept S w w') {a : Addr} {v : Value} (h : w.cell? a = some v) (hs : ¬ S a.block) : w'.cell? a = some v := by
  have := World.block_lt_of_cell? w _ h
  unfold World.cell? at h ⊢
  rw [hk.block _ this hs]; exact h
theorem rangeAt_kept {S : Nat → Prop} {w w' : World} {g o : Nat} {cs : List Value} (h : w.rangeAt g o cs) (hk : Kept S w w') (hs : ¬ S g) : w'.rangeAt g o cs := fun j v hv => cell_held hk (h j v hv) hs
theorem bcells_oneC (bs : List Nat) : ∀ u ∈ bcells bs, u.oneCell' = true := by
  intro u hu; obtain ⟨n, _, rfl⟩ := List.mem_map.1 hu; rfl
end Go.Proofs.YtngmpcmeebcdmaaDoor
