/- Get and Drop of a tree, for callers. -/
import Derived.Test.YtniakgoefkbkhaaDoorWs
import Derived.Test.YtniakgoefkbkhaaDoorVTree15
import Derived.Test.YtniakgoefkbkhaaDoorVRnEq
import Derived.Deep.WholeRow
import Derived.Deep.CutBlock
import Derived.DeepKeys
import Derived.ChangeKeysEq
import Derived.Laws.StructEq
namespace Go.Proofs.YtniakgoefkbkhaaDoor
set_option linter.unusedVariables false
set_option linter.unusedSimpArgs false
open Go.ChangeShapes Go.WideShapes Go.ChangeAt Go.RowKit Go.Maps

section
variable {K s0 : List Wd} {S : Nat → Prop} {w : World} {g : Nat} {T : List Lf}
end
end Go.Proofs.YtniakgoefkbkhaaDoor

/- The plain law of MsumSwaps: a leaf put in the place of another one, and taken away again. -/
namespace Go.Proofs.YtniakgoefkbkhaaDoor
set_option linter.unusedVariables false
set_option linter.unusedSimpArgs false
open Go.ChangeShapes Go.WideShapes Go.ChangeAt Go.RowKit Go.Maps

theorem Tr.short {K s0 : List Wd} {S : Nat → Prop} {w : World} {g : Nat} {T : List Lf} (h : Tr K s0 S w g T) : ∀ t ∈ T, t.v.length ≤ 65536 := by obtain ⟨m, es, h⟩ := h; exact h.short
end Go.Proofs.YtniakgoefkbkhaaDoor

/- The plain law of MsumClimbs: a key's leaf with what stands beside its way makes the root. -/
namespace Go.Proofs.YtniakgoefkbkhaaDoor
set_option linter.unusedVariables false
set_option linter.unusedSimpArgs false
open Go.ChangeShapes Go.WideShapes Go.ChangeAt Go.RowKit Go.Maps

end Go.Proofs.YtniakgoefkbkhaaDoor

/- The keys of a key's way, and those beside it, as Beside parts them. -/
namespace Go.Proofs.YtniakgoefkbkhaaDoor
set_option linter.unusedVariables false
set_option linter.unusedSimpArgs false
open Go.ChangeShapes Go.WideShapes Go.ChangeAt Go.RowKit Go.Maps

section
variable {ks : List (List Nat)} {key : List Nat}
end
end Go.Proofs.YtniakgoefkbkhaaDoor

/- Nodes compared. -/
namespace Go.Proofs.YtniakgoefkbkhaaDoor
set_option linter.unusedVariables false
set_option linter.unusedSimpArgs false
open Go.ChangeShapes Go.WideShapes Go.ChangeAt Go.RowKit Go.Maps

end Go.Proofs.YtniakgoefkbkhaaDoor

/- What stands beside the way from a key to the root: the walk of Beside. -/
namespace Go.Proofs.YtniakgoefkbkhaaDoor
set_option linter.unusedVariables false
set_option linter.unusedSimpArgs false
open Go.ChangeShapes Go.WideShapes Go.ChangeAt Go.RowKit Go.Maps

theorem node_put {w : World} {g : Nat} {t : TypeId} {cs : Array Value} (h : Has w g t cs) (o : Nat) (n : Nd) (hn : IsHash n.h) (ho : o + 33 ≤ cs.size) :
   ∃ cs', Has (w.setCells g o (ndV n)) g t cs' ∧ cs'.size = cs.size ∧ (∀ i, i < o ∨ o + 33 ≤ i → cs'[i]? = cs[i]?) ∧ NodeAt cs' o n ∧ Kept (· = g) w (w.setCells g o (ndV n)) := by
 obtain ⟨cur, h1, h2, h3, h4⟩ := Has.setCells (ndV n) o w cs h
 have hl := ndV_len hn
 refine ⟨cur, h1, h2, fun i hi => ?_, fun j v hv => ?_, h4⟩
 · by_cases hlt : i < cs.size
   · rw [h3 i hlt, if_neg (by rw [hl]; omega)]
   · rw [Array.getElem?_eq_none (by omega), Array.getElem?_eq_none (by omega)]
 · have hj := (List.getElem?_eq_some_iff.1 hv).1
   change j < (ndV n).length at hj
   rw [hl] at hj
   rw [h3 _ (by omega), if_pos (by rw [hl]; omega), Nat.add_sub_cancel_left]
   exact hv
def OutAt (w : World) (B k : Nat) (f : Nat → Nd) : Prop := ∃ cs, Has w B 79 cs ∧ cs.size = 8448 ∧ ∀ h, k ≤ h → h < 256 → NodeAt cs (h * 33) (f h)
section
variable {w w' : World} {B k : Nat} {f : Nat → Nd}
theorem OutAt.kept {S : Nat → Prop} (h : OutAt w B k f) (hk : Kept S w w') (hs : ¬ S B) : OutAt w' B k f := by
 obtain ⟨cs, h1, h2, h3⟩ := h
 exact ⟨cs, h1.kept hk hs, h2, h3⟩
theorem OutAt.there (h : OutAt w B k f) (i : Nat) (hi : i < 256) : w.there B (i * 33) 33 := by
 obtain ⟨cs, h1, h2, h3⟩ := h
 exact h1.there _ _ (by omega)
theorem OutAt.range (h : OutAt w B k f) (i : Nat) (h1 : k ≤ i) (h2 : i < 256) : w.rangeAt B (i * 33) (ndV (f i)) := by
 obtain ⟨cs, h3, h4, h5⟩ := h
 exact nodeAt_range h3 (h5 i h1 h2)
theorem OutAt.put (h : OutAt w B (k + 1) f) (hk : k < 256) (hf : ∀ i, IsHash (f i).h) : OutAt (w.setCells B (k * 33) (ndV (f k))) B k f ∧ Kept (· = B) w (w.setCells B (k * 33) (ndV (f k))) := by
 obtain ⟨cs, h1, h2, h3⟩ := h
 obtain ⟨cs', p1, p2, p3, p4, p5⟩ := node_put h1 (k * 33) (f k) (hf k) (by omega)
 refine ⟨⟨cs', p1, by rw [p2, h2], fun i hi1 hi2 => ?_⟩, p5⟩
 rcases Nat.lt_or_ge k i with e | e
 · intro j v hv
   have hj : j < 33 := by
    have h1 := (List.getElem?_eq_some_iff.1 hv).1
    change j < (ndV (f i)).length at h1
    rwa [ndV_len (hf i)] at h1
   rw [p3 _ (.inr (by omega))]
   exact h3 i (by omega) hi2 j v hv
 · have e' : i = k := by omega
   rw [e']; exact p4
end
section
variable {w : World} {a : Option Addr} {n : Nat} {ks : List (List Nat)}
theorem KeysAt.hi2 (h : KeysAt w a n ks) (c p : Nat) (hc : n ≤ c) (hp : p ≤ n) (g B : Nat) (hg : FarK a g) (hB : FarK a B) :
  ∃ a1 c1, (∀ w', (Instr.slice 40 (.slice a n c) (some (.int .i64 (p : Int))) none none).run Tryd.prog w' = .ok (.slice a1 (n - p) c1) w') ∧ KeysAt w a1 (n - p) (ks.drop p) ∧ n - p ≤ c1 ∧ FarK a1 g ∧ FarK a1 B := by
 obtain ⟨a1, c1, r1, k1, h1, f1⟩ := h.hi c p hc hp g hg
 obtain ⟨a2, c2, r2, _, _, f2⟩ := h.hi c p hc hp B hB
 have e := (r1 w).symm.trans (r2 w)
 injection e with e
 injection e with e
 exact ⟨a1, c1, r1, k1, h1, f1, by rw [e]; exact f2⟩
end
section
variable (K s0 : List Wd) (S : Nat → Prop) (g m : Nat) (es : List Ent) (T : List Lf) (hlow : 2 + 1 ≤ g)
include hlow
end
end Go.Proofs.YtniakgoefkbkhaaDoor

/- The walk of MsumClimbs. -/
namespace Go.Proofs.YtniakgoefkbkhaaDoor
set_option linter.unusedVariables false
set_option linter.unusedSimpArgs false
open Go.ChangeShapes Go.WideShapes Go.ChangeAt Go.RowKit Go.Maps

theorem step_load_mid {P : Program} {ops : Array Oper} {op : Oper} {a : Act} {w : World} {K : Act → World → Prop} {Q : Exit → Act → World → Prop} (hw : Region.wanted op (yielded ops a.tmps) = true) (ty : TypeId) (x : Operand) (ho : op.op = .load ty x)
  (b o : Nat) (hx : a.eval x = .pointer (some ⟨b, o, none⟩)) (cs : List Value) (d : TypeDesc) (hc : w.rangeAt b o cs)
  (hu : P.underlying ty = some d) (hd : d.isRow = true) (hi : (P.info? ty).map (·.size) = some cs.length)
  (h : K (a.put op.dst (.agg cs.toArray)) w) : if Region.wanted op (yielded ops a.tmps) = true then Oper.wp P op a w K Q else K (a.put op.dst undef) w := by
 rw [if_pos hw]
 exact wp_load_mid ty x ho b o hx cs d hc hu hd hi h
theorem Tr.zg {K s0 : List Wd} {S : Nat → Prop} {w : World} {g : Nat} {T : List Lf} (h : Tr K s0 S w g T) : S g := by obtain ⟨m, es, h⟩ := h; exact h.zg
section
variable {K s0 : List Wd} {w v v' : World} {lo hi g B Bk Bn h : Nat} {T : List Lf} {key : List Nat} {CK : List Value}
end
end Go.Proofs.YtniakgoefkbkhaaDoor

