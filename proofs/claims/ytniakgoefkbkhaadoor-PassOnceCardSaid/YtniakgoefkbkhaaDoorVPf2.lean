/- What a proof leads to, in plain lists. -/
import Derived.Test.YtniakgoefkbkhaaDoorWs
import Derived.Test.YtniakgoefkbkhaaDoorVBes1
import Derived.Test.YtniakgoefkbkhaaDoorVTree7
import Derived.Test.YtniakgoefkbkhaaDoorVMem
import Derived.Deep.WholeRow
import Derived.Deep.Cut
import Derived.Deep.CutRange
namespace Go.Proofs.YtniakgoefkbkhaaDoor
set_option linter.unusedVariables false
set_option linter.unusedSimpArgs false
open Go.ChangeShapes Go.WideShapes Go.ChangeAt Go.RowKit Go.Maps

section
variable {K s0 : List Wd} {bare bare' : Nat → Bool} {key : List Nat} {nodes : List Nd} {n0 : Nd}
end
section
variable {K s0 : List Wd} {f : Nat → Nd} {bare : Nat → Bool} {key : List Nat} {n0 : Nd}
end
end Go.Proofs.YtniakgoefkbkhaaDoor

/- The walk of msum.Empty. -/
namespace Go.Proofs.YtniakgoefkbkhaaDoor
set_option linter.unusedVariables false
set_option linter.unusedSimpArgs false
open Go.ChangeShapes Go.WideShapes Go.ChangeAt Go.RowKit Go.Maps

end Go.Proofs.YtniakgoefkbkhaaDoor

/- A proof in memory: which heights are bare, the other nodes. -/
namespace Go.Proofs.YtniakgoefkbkhaaDoor
set_option linter.unusedVariables false
set_option linter.unusedSimpArgs false
open Go.ChangeShapes Go.WideShapes Go.ChangeAt Go.RowKit Go.Maps

end Go.Proofs.YtniakgoefkbkhaaDoor

/- The walk of Root: the root that a leaf has by a proof. -/
namespace Go.Proofs.YtniakgoefkbkhaaDoor
set_option linter.unusedVariables false
set_option linter.unusedSimpArgs false
open Go.ChangeShapes Go.WideShapes Go.ChangeAt Go.RowKit Go.Maps

structure NodesAt (w : World) (a : Option Addr) (n : Nat) (xs : List Nd) : Prop where
 len : xs.length = n
 hash : ∀ x ∈ xs, IsHash x.h
 fits : ∀ x ∈ xs, x.s < 18446744073709551616
 at_ : 0 < n → ∃ b o, a = some ⟨b, o, none⟩ ∧ b < w.heap.size ∧ ∀ (i : Nat) x, xs[i]? = some x → w.rangeAt b (o + i * 33) (ndV x)
theorem NodesAt.kept {S : Nat → Prop} {w w' : World} {a : Option Addr} {n : Nat} {xs : List Nd} (h : NodesAt w a n xs) (hk : Kept S w w') (hs : ∀ A, a = some A → ¬ S A.block) : NodesAt w' a n xs := by
 refine ⟨h.len, h.hash, h.fits, fun hn => ?_⟩
 obtain ⟨b, o, e, hb, hr⟩ := h.at_ hn
 exact ⟨b, o, e, by have := hk.size; omega, fun i x hx => rangeAt_kept (hr i x hx) hk (hs _ e)⟩
theorem NodesAt.below {w w' : World} {a : Option Addr} {n : Nat} {xs : List Nd} (h : NodesAt w a n xs) (hb : Below w.heap.size w w') : NodesAt w' a n xs :=
 h.kept (S := fun _ => False) (Kept.of_below hb) (fun _ _ e => e)
def zNd : Nd := ⟨List.replicate 32 0, 0⟩
theorem zNd_hash : IsHash zNd.h := ⟨List.length_replicate, fun k hk => by rw [List.eq_of_mem_replicate hk]; decide⟩
section
variable {w : World} {G3 G4 G6 G9 G10 : Nat} {LP CK : List Value} {Z : Array Value} {ln le : List Value} {wr wr' : World}
end
end Go.Proofs.YtniakgoefkbkhaaDoor

