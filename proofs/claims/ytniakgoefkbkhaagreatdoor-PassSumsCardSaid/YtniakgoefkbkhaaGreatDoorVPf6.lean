/- The walk of Make: the proof of what stands at a key, or that nothing does. -/
import Derived.Test.YtniakgoefkbkhaaGreatDoorWs
import Derived.Test.YtniakgoefkbkhaaGreatDoorVPf2
import Derived.Deep.AppendLies
import Derived.StillTailTactics
namespace Go.Proofs.YtniakgoefkbkhaaGreatDoor
set_option linter.unusedVariables false
set_option linter.unusedSimpArgs false
open Go.ChangeShapes Go.WideShapes Go.ChangeAt Go.RowKit Go.Maps

structure MakeW (K s0 : List Wd) (S : Nat → Prop) (w : World) (g : Nat) (T : List Lf) (f : Nat → Nd) (B B4 B5 B6 : Nat) (Zp : Array Value) (k : Nat) (bb : List Nat) (a : Option Addr) (n c : Nat) (wr : World) : Prop where
 p : Has wr B5 107 (pcells bb a n c).toArray
 own : wr.ownsRow w.heap.size 39 33 (.slice a n c) n ((nodesF K s0 f k).flatMap ndV)
 len : (nodesF K s0 f k).length = n
 hash : IsHash bb
 bits : ∀ h, h < 256 → bareB bb h = (decide (h < k) && bareF K s0 f h)
 e : Has wr B6 39 (ndV (emptyNd K s0 k)).toArray
 r : Has wr B4 107 Zp
 out : OutAt wr B 0 f
 tr : Tr K s0 S wr g T
 kept : Kept (fun j => j = g) w wr
 far : ∀ j, (Value.slice a n c).ownBlock = some j → j ≠ B6 ∧ j ≠ B
structure MakeG (S : Nat → Prop) (w : World) (B B4 B5 B6 : Nat) : Prop where
 pl : w.heap.size ≤ B4 ∧ B4 < B5 ∧ B5 < B6 ∧ B6 < B
 zone : ∀ j, S j → j < w.heap.size
section
variable {K s0 : List Wd} {S : Nat → Prop} {w : World} {g : Nat} {T : List Lf} {f : Nat → Nd} {B B4 B5 B6 : Nat} {Zp : Array Value} {k : Nat} {bb : List Nat} {a : Option Addr} {n c : Nat} {wr wr' : World}
theorem MakeW.below (h : MakeW K s0 S w g T f B B4 B5 B6 Zp k bb a n c wr) (hb : Below wr.heap.size wr wr') : MakeW K s0 S w g T f B B4 B5 B6 Zp k bb a n c wr' :=
 have hk : Kept (fun _ => False) wr wr' := Kept.of_below hb
 ⟨h.p.kept hk (fun e => e), own_kept h.own hk (fun _ _ e => e), h.len, h.hash, h.bits, h.e.kept hk (fun e => e), h.r.kept hk (fun e => e), h.out.kept hk (fun e => e), h.tr.kept hk (fun _ _ _ e => e), h.kept.step hk (fun _ e => e.elim), h.far⟩
theorem MakeW.next (h : MakeW K s0 S w g T f B B4 B5 B6 Zp k bb a n c wr) (hg : MakeG S w B B4 B5 B6) {bb' : List Nat} {a' : Option Addr} {n' c' : Nat} {wx : World} (hp : Has wx B5 107 (pcells bb' a' n' c').toArray)
  (ho : wx.ownsRow w.heap.size 39 33 (.slice a' n' c') n' ((nodesF K s0 f (k + 1)).flatMap ndV)) (hl : (nodesF K s0 f (k + 1)).length = n') (hb : IsHash bb') (hbits : ∀ h, h < 256 → bareB bb' h = (decide (h < k + 1) && bareF K s0 f h))
  {Q : Nat → Prop} (hk : Kept Q wr wx) (hQ : ∀ j, Q j → j = B5 ∨ (Value.slice a n c).ownBlock = some j) (hf : ∀ j, (Value.slice a' n' c').ownBlock = some j → j ≠ B6 ∧ j ≠ B)
  {wz : World} (hb2 : Below wx.heap.size wx wz) : MakeW K s0 S w g T f B B4 B5 B6 Zp (k + 1) bb' a' n' c' (wz.setRow B6 (ndV (emptyNd K s0 (k + 1))).toArray) := by
 have hq : ∀ j, Q j → w.heap.size ≤ j ∧ j ≠ B6 ∧ j ≠ B ∧ j ≠ B4 := fun j hj => by
  have hpl := hg.pl
  rcases hQ j hj with e | e
  · omega
  · have h1 := (h.own.lt j e).1
    have h2 := h.far j e
    have h3 := own_has_ne h.own h.r (by decide) j e
    exact ⟨h1, h2.1, h2.2, h3⟩
 have hk2 : Kept (fun _ => False) wx wz := Kept.of_below hb2
 have hk3 := kept_setRow (g := B6) wz (ndV (emptyNd K s0 (k + 1))).toArray
 have hpl := hg.pl
 have hk4 : Kept (fun j => j = B6) wx (wz.setRow B6 (ndV (emptyNd K s0 (k + 1))).toArray) := (hk2.mono (fun _ _ e => e.elim)).trans hk3
 have hk5 : Kept (fun j => Q j ∨ j = B6) wr (wz.setRow B6 (ndV (emptyNd K s0 (k + 1))).toArray) := (hk.mono (fun _ _ e => .inl e)).step hk4 (fun j e => .inl (.inr e))
 have hz : ∀ j, S j → ¬ (Q j ∨ j = B6) := fun j hs e => by
  have h1 := hg.zone j hs
  rcases e with e | e
  · have := (hq j e).1; omega
  · omega
 have he6 : Has wz B6 39 (ndV (emptyNd K s0 k)).toArray := (h.e.kept hk (fun e => (hq B6 e).2.1 rfl)).kept hk2 (fun e => e)
 refine ⟨hp.kept hk4 (by show ¬ B5 = B6; omega), own_kept ho hk4 (fun j e1 e2 => (hf j e1).1 e2), hl, hb, hbits, he6.setRow, h.r.kept hk5 (fun e => e.elim (fun e => (hq B4 e).2.2.2 rfl) (fun e => by omega)), h.out.kept hk5 (fun e => e.elim (fun e => (hq B e).2.2.1 rfl) (fun e => by omega)), h.tr.kept hk5 (fun j _ hs e => hz j hs e), ?_, hf⟩
 exact h.kept.step hk5 (fun j e => by
  rcases e with e | e
  · exact .inr (hq j e).1
  · right; omega)
end
end Go.Proofs.YtniakgoefkbkhaaGreatDoor

