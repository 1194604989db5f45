/- The walk of tlv's Decode. -/
import Derived.Test.YtknfbccbdiidjaaGreatDoorWs
import Derived.Test.YtknfbccbdiidjaaGreatDoorUTagM
namespace Go.Proofs.YtknfbccbdiidjaaGreatDoor
set_option linter.unusedVariables false
set_option linter.unusedSimpArgs false
open Go.ChangeShapes Go.WideShapes Go.ChangeAt Go.RowKit Go.Maps

structure TdW (w : World) (b0 : List Nat) (f : Nat) (rest : List Nat) (ms : List RecM) (ra : Option Addr) (rc : Nat) (oa : Option Addr) (oc : Nat) (wr : World) : Prop where
 go : tdec b0 = decF f (ms.map RecM.r) rest
 lt : rest.length < f
 src : Bytes w w.heap.size (.slice ra rest.length rc) rest
 own : wr.ownsRow w.heap.size 139 2 (.slice oa ms.length oc) ms.length (ms.flatMap RecM.cells)
 vals : ∀ x ∈ ms, x.t < 18446744073709551616 ∧ wr.ownsRow w.heap.size 5 1 (.slice x.a x.v.length x.c) x.v.length (bcells x.v) ∧ (∀ y ∈ x.v, y < 256) ∧ x.v.length ≤ 65536
 few : ms.length ≤ 256
 bel : Below w.heap.size w wr
theorem vals_kept {w w' : World} {base b2 : Nat} {v : Value} {n m : Nat} {xs cs : List Value} {vo : Value} (h : w.ownsRow base 5 1 v n xs) (ho : w.ownsRow b2 139 2 vo m cs) (hg : w.grownBy w' vo.ownBlock) : w'.ownsRow base 5 1 v n xs :=
 own_kept h (Kept.of_grown hg) (fun k e e2 => own_own_ne h ho (by decide) k e e2.symm)
theorem TdW.step {w wr w1 w2 : World} {b0 : List Nat} {f f' : Nat} {rest rest' : List Nat} {ms : List RecM} {ra ra' : Option Addr} {rc rc' : Nat} {oa oa' xa : Option Addr} {oc oc' xc tv : Nat} {bs : List Nat} (h : TdW w b0 f rest ms ra rc oa oc wr)
   (hx : w1.ownsRow w.heap.size 5 1 (.slice xa bs.length xc) bs.length (bcells bs)) (hg1 : wr.grownBy w1 none) (hbs : ∀ y ∈ bs, y < 256) (hbl : bs.length ≤ 65536) (htv : tv < 18446744073709551616)
   (ho : w2.ownsRow w.heap.size 139 2 (.slice oa' (ms.length + 1) oc') (ms.length + 1) (ms.flatMap RecM.cells ++ RecM.cells ⟨tv, xa, bs, xc⟩)) (C : Obj) (hg2 : (w1.alloc C).grownBy w2 (Value.slice oa ms.length oc).ownBlock)
   (hgo : tdec b0 = decF f' ((ms ++ [(⟨tv, xa, bs, xc⟩ : RecM)]).map RecM.r) rest') (hlt : rest'.length < f') (hfew : ms.length + 1 ≤ 256) (hsrc : Bytes w w.heap.size (.slice ra' rest'.length rc') rest') :
   TdW w b0 f' rest' (ms ++ [(⟨tv, xa, bs, xc⟩ : RecM)]) ra' rc' oa' oc' w2 := by
 have hk1 : Kept (fun k => some k = (none : Option Nat)) wr w1 := Kept.of_grown hg1
 have hb1 : Below w.heap.size w w1 := h.bel.grown hg1 h.bel.size (fun k e => by cases e)
 have hb1a : Below w.heap.size w (w1.alloc C) := hb1.alloc (by exact hb1.size) C
 have hown1 : (w1.alloc C).ownsRow w.heap.size 139 2 (.slice oa ms.length oc) ms.length (ms.flatMap RecM.cells) := (own_kept h.own hk1 (fun k _ e => by cases e)).alloc C
 refine ⟨hgo, hlt, hsrc, ?_, ?_, by rw [List.length_append]; exact hfew, hb1a.grown hg2 (by exact hb1a.size) (own_blk hown1)⟩
 · rw [List.flatMap_append, List.length_append]
   simpa using ho
 · intro x hx'
   rcases List.mem_append.1 hx' with h1 | h1
   · obtain ⟨p1, p2, p3, p4⟩ := h.vals x h1
     exact ⟨p1, vals_kept ((own_kept p2 hk1 (fun k _ e => by cases e)).alloc C) hown1 hg2, p3, p4⟩
   · rw [List.mem_singleton.1 h1]
     exact ⟨htv, vals_kept (hx.alloc C) hown1 hg2, hbs, hbl⟩
def TdP (w : World) (R : Except Nat (List Rec)) (e : Ending) (w' : World) : Prop :=
 match R with
  | .ok rs => ∃ ms a c, e = .returned (.tuple #[.slice a ms.length c, .int .i64 0]) ∧ ms.map RecM.r = rs ∧ RecsAt w' a ms.length ms ∧ (∀ A, a = some A → w.heap.size ≤ A.block) ∧ ms.length ≤ 256 ∧ Below w.heap.size w w'
  | .error x => e = .returned (.tuple #[.slice none 0 0, .int .i64 (x : Int)]) ∧ Below w.heap.size w w'
theorem TdW.done {w wr : World} {b0 : List Nat} {f : Nat} {ms : List RecM} {ra : Option Addr} {rc : Nat} {oa : Option Addr} {oc : Nat} (h : TdW w b0 f [] ms ra rc oa oc wr) : TdP w (tdec b0) (.returned (.tuple #[.slice oa ms.length oc, .int .i64 0])) wr := by
 obtain ⟨f', rfl⟩ : ∃ f', f = f' + 1 := ⟨f - 1, by have := h.lt; omega⟩
 rw [h.go, decF_stop rfl]
 obtain ⟨p1, p2⟩ := own_rows h.own rfl (fun x _ => rfl)
 exact ⟨ms, oa, oc, rfl, rfl, ⟨p1, fun x hx => ⟨(h.vals x hx).1, by have := (h.vals x hx).2.2.2; omega, own_bytes (h.vals x hx).2.1 rfl (h.vals x hx).2.2.1 (Nat.le_refl _)⟩⟩, fun A e => (p2 A e).1, h.few, h.bel⟩
theorem info_rec : (Tryz.prog.info? 139).map (fun i => (i.zero, i.size, i.bytes)) = some (some (.agg (RecM.cells ⟨0, none, [], 0⟩).toArray), 2, 32) := by kernel_rfl
end Go.Proofs.YtknfbccbdiidjaaGreatDoor

