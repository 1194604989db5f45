/- A tree for a caller: Put, Root, Keys; what a nil tree answers. -/
import Derived.Test.YtniakgoefkbkhaaDoorWs
import Derived.Test.YtniakgoefkbkhaaDoorVTree12
import Derived.Lib.SlBytesConst
namespace Go.Proofs.YtniakgoefkbkhaaDoor
set_option linter.unusedVariables false
set_option linter.unusedSimpArgs false
open Go.ChangeShapes Go.WideShapes Go.ChangeAt Go.RowKit Go.Maps

section
variable {K s0 : List Wd} {S : Nat → Prop} {w : World} {g : Nat} {T : List Lf}
theorem tr_put (h : Tr K s0 S w g T) (hl8 : s0.length = 8) (hn : ∀ k, w.heap.size ≤ k → S k) (l : Lf) (hk : IsHash l.k) (v : Value) (hv : Bytes w w.heap.size v l.v) (hs : l.s < 18446744073709551616) (hlen : l.v.length ≤ 1000000) :
  Calls Tryd.prog 82 #[.pointer (some ⟨g, 0, none⟩), arr l.k, leafV v l.s] w fun e w' => e = .returned (.int .i64 (putE T l)) ∧ Tr K s0 S w' g (putN T l) ∧ Kept S w w' := by
 obtain ⟨m, es, h⟩ := h
 exact (putT_is K s0 hl8 S w g m es T h hn l hk v hv hs hlen).mono fun e w' ⟨h1, ⟨es', h2⟩, h3⟩ => ⟨h1, ⟨m, es', h2⟩, h3.mono fun k _ e => e.elim (fun e => e ▸ h.zg) (fun e => e ▸ h.zm)⟩
theorem tr_root (h : Tr K s0 S w g T) (hT : Tabs K s0 w) (hlow : 2 + 1 ≤ g) :
  Calls Tryd.prog 56 #[.pointer (some ⟨g, 0, none⟩)] w fun e w' => e = .returned (.agg (ndV (partNd K s0 256 T)).toArray) ∧ Tr K s0 S w' g T ∧ Kept S w w' := by
 obtain ⟨m, es, h⟩ := h
 exact (root_at K s0 S hlow w hT h).mono fun e w' ⟨h1, h2, h3⟩ => ⟨h1, ⟨m, es, h2⟩, h3.mono fun k _ e => by rw [show k = g from e]; exact h.zg⟩
theorem Tr.keyed (h : Tr K s0 S w g T) : Keyed (T.map (·.k)) := by obtain ⟨m, es, h⟩ := h; exact h.keyed
theorem Tr.sum (h : Tr K s0 S w g T) : sumT T < 18446744073709551616 := by obtain ⟨m, es, h⟩ := h; exact h.fit
theorem root_sum (h : Tr K s0 S w g T) : (partNd K s0 256 T).s = sumT T := part_sum K s0 256 T h.keyed (coh_top _)
end
end Go.Proofs.YtniakgoefkbkhaaDoor

/- The laws' head: one leaf in a tree. -/
namespace Go.Proofs.YtniakgoefkbkhaaDoor
set_option linter.unusedVariables false
set_option linter.unusedSimpArgs false
open Go.ChangeShapes Go.WideShapes Go.ChangeAt Go.RowKit Go.Maps

end Go.Proofs.YtniakgoefkbkhaaDoor

/- The walks of Get and Drop. -/
namespace Go.Proofs.YtniakgoefkbkhaaDoor
set_option linter.unusedVariables false
set_option linter.unusedSimpArgs false
open Go.ChangeShapes Go.WideShapes Go.ChangeAt Go.RowKit Go.Maps

def valT (T : List Lf) (k : List Nat) : List Nat := match findT T k with | some l => l.v | none => []
theorem Leaves.ask2 {S : Nat → Prop} {w : World} {es : List Ent} {T : List Lf} (h : Leaves S w es T) (k : List Nat) :
  ∃ (a0 : Option Addr) (n0 c0 ws : Nat) (kn : Bool), (look es k).getD (leafV (.slice none 0 0) 0) = .agg #[.slice a0 n0 c0, .int .u64 (ws : Int)] ∧ (look es k).isSome = kn ∧ ws = wasS T k ∧ kn = (findT T k).isSome ∧ RowB S w (.slice a0 n0 c0) (valT T k) := by
 obtain ⟨a0, n0, c0, ws, kn, h1, h2, h3, h4, h5⟩ := h.ask k
 cases hf : findT T k with
 | some l =>
  refine ⟨a0, n0, c0, ws, kn, h1, h2, h3, by rw [h4, hf], ?_⟩
  unfold valT
  rw [hf]
  exact (h5 l hf).1
 | none =>
  refine ⟨none, 0, 0, 0, false, ?_, ?_, ?_, by rfl, ?_⟩
  · rcases h.look_ k with ⟨e1, e2⟩ | ⟨v, l, e1, e2, e3⟩
    · rw [e1]; rfl
    · rw [e2] at hf; cases hf
  · rcases h.look_ k with ⟨e1, e2⟩ | ⟨v, l, e1, e2, e3⟩
    · rw [e1]; rfl
    · rw [e2] at hf; cases hf
  · unfold wasS; rw [hf]
  · unfold valT; rw [hf]; exact RowB.nil _ _ _ _

section
variable {K s0 : List Wd} {S : Nat → Prop} {g m : Nat} {es : List Ent} {T : List Lf}
structure Asked (K s0 : List Wd) (S : Nat → Prop) (g m : Nat) (T : List Lf) (k : List Nat) (w : World) (LK : List Value) (a0 : Option Addr) (n0 c0 ws st : Nat) (kn : Bool) : Prop where
 lk : ∀ w', Below w.heap.size w w' → (Instr.lookup 211 (.map (some m)) (.agg LK.toArray) true).run Tryd.prog w' = .ok (.tuple #[.agg #[.slice a0 n0 c0, .int .u64 (ws : Int)], .bool kn]) w'
 gl : ∀ w', Below w.heap.size w w' → w'.cell? ⟨g, 8484, none⟩ = some (.map (some m)) ∧ w'.cell? ⟨g, 8485, none⟩ = some (.int .u64 (st : Int))
 ws : ws = wasS T k
 st : st = sumT T
 kn : kn = (findT T k).isSome
 row : RowB S w (.slice a0 n0 c0) (valT T k)
theorem asked (w : World) (htr : TreeAt K s0 S w g m es T) (k : List Nat) (hk : IsHash k) (LK : List Value) (hLK : LK = bcells k) : ∃ a0 n0 c0 ws st kn, Asked K s0 S g m T k w LK a0 n0 c0 ws st kn := by
 obtain ⟨a0, n0, c0, ws, kn, hlook, hsome, hws, hkn, hrow⟩ := htr.leaves.ask2 k
 obtain ⟨cs, hf⟩ := htr.frame
 refine ⟨a0, n0, c0, ws, sumT T, kn, fun w' hb => ?_, fun w' hb => ⟨(hf.obj.below hb hf.obj.lt).cell_is hf.lv, (hf.obj.below hb hf.obj.lt).cell_is hf.sm⟩, hws, rfl, hkn, hrow⟩
 have := lookup_ok_is (T := 211) Tryd.underlying211 zero_leaf (htr.map.kept (Kept.of_below (S := fun _ => False) hb) (fun h => h)) hk
 rw [hlook, hsome] at this
 rw [hLK]; exact this

end
end Go.Proofs.YtniakgoefkbkhaaDoor

