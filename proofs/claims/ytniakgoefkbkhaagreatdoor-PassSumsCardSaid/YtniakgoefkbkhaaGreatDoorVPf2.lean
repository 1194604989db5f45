/- What a proof leads to, in plain lists. -/
import Derived.Test.YtniakgoefkbkhaaGreatDoorWs
import Derived.Test.YtniakgoefkbkhaaGreatDoorVBes1
import Derived.Test.YtniakgoefkbkhaaGreatDoorVTree7
import Derived.Test.YtniakgoefkbkhaaGreatDoorVMem
import Derived.Deep.WholeRow
import Derived.Deep.Cut
import Derived.Deep.CutRange
namespace Go.Proofs.YtniakgoefkbkhaaGreatDoor
set_option linter.unusedVariables false
set_option linter.unusedSimpArgs false
open Go.ChangeShapes Go.WideShapes Go.ChangeAt Go.RowKit Go.Maps

def ndSame (x y : Nd) : Bool := decide (x.h = y.h ∧ x.s = y.s)
section
variable {K s0 : List Wd} {bare bare' : Nat → Bool} {key : List Nat} {nodes : List Nd} {n0 : Nd}
end
def bareF (K s0 : List Wd) (f : Nat → Nd) (h : Nat) : Bool := ndSame (f h) (emptyNd K s0 h)
def nodesF (K s0 : List Wd) (f : Nat → Nd) (h : Nat) : List Nd := ((List.range h).filter fun j => !bareF K s0 f j).map f
section
variable {K s0 : List Wd} {f : Nat → Nd} {bare : Nat → Bool} {key : List Nat} {n0 : Nd}
end
end Go.Proofs.YtniakgoefkbkhaaGreatDoor

/- The walk of msum.Empty. -/
namespace Go.Proofs.YtniakgoefkbkhaaGreatDoor
set_option linter.unusedVariables false
set_option linter.unusedSimpArgs false
open Go.ChangeShapes Go.WideShapes Go.ChangeAt Go.RowKit Go.Maps

end Go.Proofs.YtniakgoefkbkhaaGreatDoor

/- A proof in memory: which heights are bare, the other nodes. -/
namespace Go.Proofs.YtniakgoefkbkhaaGreatDoor
set_option linter.unusedVariables false
set_option linter.unusedSimpArgs false
open Go.ChangeShapes Go.WideShapes Go.ChangeAt Go.RowKit Go.Maps

def pcells (bb : List Nat) (a : Option Addr) (n c : Nat) : List Value := bcells bb ++ [.slice a n c]
def bareB (bb : List Nat) (h : Nat) : Bool := decide (bb.getD (h / 8) 0 / 2 ^ (h % 8) % 2 = 1)
end Go.Proofs.YtniakgoefkbkhaaGreatDoor

/- The walk of Root: the root that a leaf has by a proof. -/
namespace Go.Proofs.YtniakgoefkbkhaaGreatDoor
set_option linter.unusedVariables false
set_option linter.unusedSimpArgs false
open Go.ChangeShapes Go.WideShapes Go.ChangeAt Go.RowKit Go.Maps

structure NodesAt (w : World) (a : Option Addr) (n : Nat) (xs : List Nd) : Prop where
 len : xs.length = n
 hash : ∀ x ∈ xs, IsHash x.h
 fits : ∀ x ∈ xs, x.s < 18446744073709551616
 at_ : 0 < n → ∃ b o, a = some ⟨b, o, none⟩ ∧ b < w.heap.size ∧ ∀ (i : Nat) x, xs[i]? = some x → w.rangeAt b (o + i * 33) (ndV x)
theorem NodesAt.kept {S : Nat → Prop} {w w' : World} {a : Option Addr} {n : Nat} {xs : List Nd} (h : NodesAt w a n xs) (hk : Kept S w w') (hs : ∀ A, a = some A → ¬ S A.block) : NodesAt w' a n xs := by
 refine ⟨h.len, h.hash, h.fits, fun hn => ?_⟩
 obtain ⟨b, o, e, hb, hr⟩ := h.at_ hn
 exact ⟨b, o, e, by have := hk.size; omega, fun i x hx => rangeAt_kept (hr i x hx) hk (hs _ e)⟩
theorem NodesAt.below {w w' : World} {a : Option Addr} {n : Nat} {xs : List Nd} (h : NodesAt w a n xs) (hb : Below w.heap.size w w') : NodesAt w' a n xs :=
 h.kept (S := fun _ => False) (Kept.of_below hb) (fun _ _ e => e)
def zNd : Nd := ⟨List.replicate 32 0, 0⟩
theorem zNd_hash : IsHash zNd.h := ⟨List.length_replicate, fun k hk => by rw [List.eq_of_mem_replicate hk]; decide⟩
structure RootW (w : World) (G3 G4 G6 G9 G10 : Nat) (LP CK : List Value) (Z : Array Value) (ln le : List Value) (wr : World) : Prop where
 p : Has wr G3 107 LP.toArray
 k : Has wr G4 25 CK.toArray
 r : Has wr G6 39 Z
 n : Has wr G9 39 ln.toArray
 e : Has wr G10 39 le.toArray
 bel : Below w.heap.size w wr
section
variable {w : World} {G3 G4 G6 G9 G10 : Nat} {LP CK : List Value} {Z : Array Value} {ln le : List Value} {wr wr' : World}
theorem RootW.below (h : RootW w G3 G4 G6 G9 G10 LP CK Z ln le wr) (hb : Below wr.heap.size wr wr') : RootW w G3 G4 G6 G9 G10 LP CK Z ln le wr' :=
 ⟨h.p.below hb h.p.lt, h.k.below hb h.k.lt, h.r.below hb h.r.lt, h.n.below hb h.n.lt, h.e.below hb h.e.lt, h.bel.trans (hb.mono h.bel.size)⟩
structure RootG (w : World) (G3 G4 G6 G9 G10 : Nat) : Prop where
 base : w.heap.size ≤ G3 ∧ G3 < G4 ∧ G4 < G6 ∧ G6 < G9 ∧ G9 < G10
theorem RootW.setN (h : RootW w G3 G4 G6 G9 G10 LP CK Z ln le wr) (g : RootG w G3 G4 G6 G9 G10) (l : List Value) : RootW w G3 G4 G6 G9 G10 LP CK Z l le (wr.setRow G9 l.toArray) := by
 have hk := kept_setRow (g := G9) wr l.toArray
 have hg := g.base
 exact ⟨h.p.kept hk (by show ¬ G3 = G9; omega), h.k.kept hk (by show ¬ G4 = G9; omega), h.r.kept hk (by show ¬ G6 = G9; omega), h.n.setRow, h.e.kept hk (by show ¬ G10 = G9; omega), h.bel.trans (hk.below h.bel.size (fun k e => by have e' : k = G9 := e; omega))⟩
theorem RootW.box (h : RootW w G3 G4 G6 G9 G10 LP CK Z ln le wr) (Z' : Array Value) (l : List Value) : RootW w G3 G4 G6 G9 G10 LP CK Z ln le ((wr.alloc (.cells Z' 39)).setRow wr.heap.size l.toArray) ∧ Has ((wr.alloc (.cells Z' 39)).setRow wr.heap.size l.toArray) wr.heap.size 39 l.toArray := by
 rw [World.setRow_alloc_new]
 exact ⟨h.below ((Below.refl _ _).alloc (Nat.le_refl _) _), Has.new _ _ _⟩
end
end Go.Proofs.YtniakgoefkbkhaaGreatDoor

