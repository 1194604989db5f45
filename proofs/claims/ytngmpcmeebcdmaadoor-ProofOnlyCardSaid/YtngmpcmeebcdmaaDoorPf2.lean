/- The walk of Root: the root that a leaf has by a proof. -/
import Derived.Test.YtngmpcmeebcdmaaDoorPf1
import Derived.Deep.Cut
import Derived.Deep.CutRange
namespace Go.Proofs.YtngmpcmeebcdmaaDoor
set_option linter.unusedVariables false
set_option linter.unusedSimpArgs false
open Go.ChangeShapes Go.WideShapes Go.ChangeAt Go.RowKit Go.Maps

/-- nodes that lie in a row. -/
structure NodesAt (w : World) (a : Option Addr) (n : Nat) (xs : List Nd) : Prop where
  len : xs.length = n
  hash : ∀ x ∈ xs, IsHash x.h
  fits : ∀ x ∈ xs, x.s < 18446744073709551616
  at_ : 0 < n → ∃ b o, a = some ⟨b, o, none⟩ ∧ b < w.heap.size ∧ ∀ (i : Nat) x, xs[i]? = some x → w.rangeAt b (o + i * 33) (ndV x)
theorem NodesAt.kept {S : Nat → Prop} {w w' : World} {a : Option Addr} {n : Nat} {xs : List Nd} (h : NodesAt w a n xs) (hk : Kept S w w') (hs : ∀ A, a = some A → ¬ S A.block) : NodesAt w' a n xs := by
  refine ⟨h.len, h.hash, h.fits, fun hn => ?_⟩
  obtain ⟨b, o, e, hb, hr⟩ := h.at_ hn
  exact ⟨b, o, e, by have := hk.size; omega, fun i x hx => rangeAt_kept (hr i x hx) hk (hs _ e)⟩
theorem NodesAt.below {w w' : World} {a : Option Addr} {n : Nat} {xs : List Nd} (h : NodesAt w a n xs) (hb : Below w.heap.size w w') : NodesAt w' a n xs :=
  h.kept (S := fun _ => False) (Kept.of_below hb) (fun _ _ e => e)
theorem nodes_nil (w : World) (a : Option Addr) : NodesAt w a 0 [] := ⟨rfl, fun x hx => (by cases hx), fun x hx => (by cases hx), fun h => absurd h (Nat.lt_irrefl _)⟩
theorem br_fits (K s0 : List Wd) (w : World) (x y : Nd) (hT : Tabs K s0 w) (hx : IsHash x.h) (hy : IsHash y.h) (hf : x.s + y.s < 18446744073709551616) :
    Calls Tryd.prog 36 #[.agg (ndV x).toArray, .agg (ndV y).toArray] w fun e w' => e = .returned (.tuple #[.agg (ndV (brNd K s0 x y)).toArray, .int .i64 0]) ∧ Below w.heap.size w w' :=
  branch_fits K s0 w x.h y.h x.s y.s hT hx hy hf
def zNd : Nd := ⟨List.replicate 32 0, 0⟩
theorem zNd_hash : IsHash zNd.h := ⟨List.length_replicate, fun k hk => by rw [List.eq_of_mem_replicate hk]; decide⟩
theorem br_over (w : World) (x y : Nd) (hx : IsHash x.h) (hy : IsHash y.h) (ho : 18446744073709551616 ≤ x.s + y.s) (h1 : x.s < 18446744073709551616) (h2 : y.s < 18446744073709551616) :
    Calls Tryd.prog 36 #[.agg (ndV x).toArray, .agg (ndV y).toArray] w fun e w' => e = .returned (.tuple #[.agg (ndV zNd).toArray, .int .i64 10]) ∧ Below w.heap.size w w' :=
  branch_over w x.h y.h x.s y.s hx.1 hy.1 ho (by omega)
theorem br_empty (K s0 : List Wd) (w : World) (h : Nat) (hT : Tabs K s0 w) :
    Calls Tryd.prog 36 #[.agg (ndV (emptyNd K s0 h)).toArray, .agg (ndV (emptyNd K s0 h)).toArray] w fun e w' => e = .returned (.tuple #[.agg (ndV (emptyNd K s0 (h + 1))).toArray, .int .i64 0]) ∧ Below w.heap.size w w' :=
  br_fits K s0 w _ _ hT (empty_hash K s0 hT.len h) (empty_hash K s0 hT.len h) (by rw [empty_sum]; decide)
theorem at_nodeo (b o n c k : Nat) (hk : k < n) (w : World) : (Instr.indexAt 54 (.slice (some ⟨b, o, none⟩) n c) (.int .i64 (k : Int))).run Tryd.prog w = .ok (.pointer (some ⟨b, o + k * 33, none⟩)) w := by
  have hu : Tryd.prog.underlying 54 = some (.slice (Tryd.prog.elem 54)) := by kernel_rfl
  have he : Tryd.prog.elem 54 = 58 := by kernel_rfl
  have hz : ∀ w, (sizeOf 58).run Tryd.prog w = .ok 33 w := fun w => by kernel_rfl
  rw [run_indexAt_slice w 54 ⟨b, o, none⟩ n c .i64 (k : Int) hu, if_pos ⟨by omega, by omega⟩, he, hz]
  simp only [Result.andThen, Int.toNat_natCast, Addr.add_mid]
/-- the world of Root's way. -/
structure RootW (w : World) (G3 G4 G6 G9 G10 : Nat) (LP CK : List Value) (Z : Array Value) (ln le : List Value) (wr : World) : Prop where
  p : Has wr G3 56 LP.toArray
  k : Has wr G4 28 CK.toArray
  r : Has wr G6 58 Z
  n : Has wr G9 58 ln.toArray
  e : Has wr G10 58 le.toArray
  bel : Below w.heap.size w wr
section
variable {w : World} {G3 G4 G6 G9 G10 : Nat} {LP CK : List Value} {Z : Array Value} {ln le : List Value} {wr wr' : World}
theorem RootW.below (h : RootW w G3 G4 G6 G9 G10 LP CK Z ln le wr) (hb : Below wr.heap.size wr wr') : RootW w G3 G4 G6 G9 G10 LP CK Z ln le wr' :=
  ⟨h.p.below hb h.p.lt, h.k.below hb h.k.lt, h.r.below hb h.r.lt, h.n.below hb h.n.lt, h.e.below hb h.e.lt, h.bel.trans (hb.mono h.bel.size)⟩
structure RootG (w : World) (G3 G4 G6 G9 G10 : Nat) : Prop where
  base : w.heap.size ≤ G3 ∧ G3 < G4 ∧ G4 < G6 ∧ G6 < G9 ∧ G9 < G10
theorem RootW.setN (h : RootW w G3 G4 G6 G9 G10 LP CK Z ln le wr) (g : RootG w G3 G4 G6 G9 G10) (l : List Value) : RootW w G3 G4 G6 G9 G10 LP CK Z l le (wr.setRow G9 l.toArray) := by
  have hk := kept_setRow (g := G9) wr l.toArray
  have hg := g.base
  exact ⟨h.p.kept hk (by show ¬ G3 = G9; omega), h.k.kept hk (by show ¬ G4 = G9; omega), h.r.kept hk (by show ¬ G6 = G9; omega), h.n.setRow, h.e.kept hk (by show ¬ G10 = G9; omega), h.bel.trans (hk.below h.bel.size (fun k e => by have e' : k = G9 := e; omega))⟩
theorem RootW.setE (h : RootW w G3 G4 G6 G9 G10 LP CK Z ln le wr) (g : RootG w G3 G4 G6 G9 G10) (l : List Value) : RootW w G3 G4 G6 G9 G10 LP CK Z ln l (wr.setRow G10 l.toArray) := by
  have hk := kept_setRow (g := G10) wr l.toArray
  have hg := g.base
  exact ⟨h.p.kept hk (by show ¬ G3 = G10; omega), h.k.kept hk (by show ¬ G4 = G10; omega), h.r.kept hk (by show ¬ G6 = G10; omega), h.n.kept hk (by show ¬ G9 = G10; omega), h.e.setRow, h.bel.trans (hk.below h.bel.size (fun k e => by have e' : k = G10 := e; omega))⟩
/-- a new node's box beside them. -/
theorem RootW.box (h : RootW w G3 G4 G6 G9 G10 LP CK Z ln le wr) (Z' : Array Value) (l : List Value) : RootW w G3 G4 G6 G9 G10 LP CK Z ln le ((wr.alloc (.cells Z' 58)).setRow wr.heap.size l.toArray) ∧ Has ((wr.alloc (.cells Z' 58)).setRow wr.heap.size l.toArray) wr.heap.size 58 l.toArray := by
  rw [World.setRow_alloc_new]
  exact ⟨h.below ((Below.refl _ _).alloc (Nat.le_refl _) _), Has.new _ _ _⟩
end
end Go.Proofs.YtngmpcmeebcdmaaDoor
