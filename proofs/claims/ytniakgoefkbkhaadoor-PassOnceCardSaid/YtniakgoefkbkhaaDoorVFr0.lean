/- What a transfer takes and gives, as plain functions: leaves that are handed on, what their owners allow, what is wrong with a transfer. -/
import Derived.Test.YtniakgoefkbkhaaDoorWs
import Derived.Test.YtniakgoefkbkhaaDoorVPp1
import Derived.Test.YtniakgoefkbkhaaDoorVTk1
import Derived.Test.YtniakgoefkbkhaaDoorVLh
import Derived.Test.YtniakgoefkbkhaaDoorVLeq
namespace Go.Proofs.YtniakgoefkbkhaaDoor
set_option linter.unusedVariables false
set_option linter.unusedSimpArgs false
open Go.ChangeShapes Go.WideShapes Go.ChangeAt Go.RowKit Go.Maps

structure FromT where
 tx : List Nat
 out : Int
 l : LeafT
 tok : List Nat
def FromT.cells (f : FromT) : List Value := ptCells f.tx f.out ++ (f.l.cells ++ bcells f.tok)
structure FromT.ok (f : FromT) : Prop where
 tx : IsHash f.tx
 lo : -9223372036854775808 ≤ f.out
 hi : f.out ≤ 9223372036854775807
 l : f.l.ok
 tok : IsHash f.tok
theorem pt_len {tx : List Nat} (h : IsHash tx) (out : Int) : (ptCells tx out).length = 33 := by rw [ptCells, List.length_append, bcells_length, h.1]; rfl
theorem FromT.len {f : FromT} (h : f.ok) : f.cells.length = 164 := by
 rw [FromT.cells, List.length_append, List.length_append, pt_len h.tx, LeafT.len h.l, bcells_length, h.tok.1]
theorem FromT.at_pt {f : FromT} (h : f.ok) (i : Nat) (hi : i < 33) : f.cells[i]? = (ptCells f.tx f.out)[i]? := by
 rw [FromT.cells, List.getElem?_append_left (by rw [pt_len h.tx]; exact hi)]
theorem FromT.at_leaf {f : FromT} (h : f.ok) (i : Nat) (hi : i < 99) : f.cells[33 + i]? = f.l.cells[i]? := by
 rw [FromT.cells, List.getElem?_append_right (by rw [pt_len h.tx]; omega), pt_len h.tx, Nat.add_sub_cancel_left, List.getElem?_append_left (by rw [LeafT.len h.l]; exact hi)]
theorem FromT.at_tok {f : FromT} (h : f.ok) (i : Nat) (hi : i < 32) : f.cells[132 + i]? = (bcells f.tok)[i]? := by
 rw [FromT.cells, List.getElem?_append_right (by rw [pt_len h.tx]; omega), pt_len h.tx, List.getElem?_append_right (by rw [LeafT.len h.l]; omega), LeafT.len h.l, show 132 + i - 33 - 99 = i by omega]
theorem FromT.one (f : FromT) : f.cells.toArray.all (·.oneCell') = true := by
 have h1 := LeafT.one f.l
 have h2 := all_oneCell_toArray (bcells_one f.tx)
 have h3 := all_oneCell_toArray (bcells_one f.tok)
 rw [Array.all_eq_true'] at *
 intro x hx
 rw [FromT.cells, ptCells] at hx
 simp only [List.mem_toArray, List.mem_append, List.mem_singleton] at hx
 rcases hx with (hx | rfl) | hx | hx
 · exact h2 x (by simpa using hx)
 · rfl
 · exact h1 x (by simpa using hx)
 · exact h3 x (by simpa using hx)
def passS : ByteArray := { data := #[109, 111, 110, 101, 121, 101, 114, 47, 112, 97, 115, 115] }
def tokS : ByteArray := { data := #[109, 111, 110, 101, 121, 101, 114, 47, 116, 111, 107, 101, 110] }
def whatB (K s0 : List Wd) (f : FromT) : List Nat := pointB f.tx f.out ++ keyK K s0 f.l
def whatK (K s0 : List Wd) (fs : List FromT) (sp : Nd) : List Nat := tagD K s0 passS (fs.flatMap (whatB K s0) ++ (eight sp.s ++ sp.h))
abbrev Gave := List Nat × List Nat × List Nat
def findG (gs : List Gave) (t : List Nat) : Option (List Nat × List Nat) :=
 match gs with
 | [] => none
 | g :: gs => if g.1 = t then some g.2 else findG gs t
def tokenK (K s0 : List Wd) (s wh : List Nat) : List Nat := tagD K s0 tokS (s ++ wh)
def allowG (K s0 : List Wd) (gs : List Gave) (s wh : List Nat) : List Gave :=
 if (findG gs (tokenK K s0 s wh)).isSome then gs else gs ++ [(tokenK K s0 s wh, ownerK K s0 s, wh)]
def allowedG (gs : List Gave) (ow wh t : List Nat) : Bool := decide (findG gs t = some (ow, wh))
def twice (K s0 : List Wd) (done : List FromT) (f : FromT) : Bool := done.any fun o => decide ((o.tx = f.tx ∧ o.out = f.out) ∧ keyK K s0 o.l = keyK K s0 f.l)
def cameStep (K s0 : List Wd) (al : FromT → Bool) (id : List Nat) (done : List FromT) (f : FromT) (s : Nat) : Except Int Nat :=
 if leafBad f.l = true then .error 1
 else if f.l.id ≠ id then .error 21
 else if twice K s0 done f = true then .error 6
 else if al f = false then .error 31
 else if s + f.l.am < 18446744073709551616 then .ok (s + f.l.am) else .error 10
def cameAt (K s0 : List Wd) (al : FromT → Bool) (id : List Nat) (fs : List FromT) : Nat → Except Int Nat
 | 0 => .ok 0
 | k + 1 => match cameAt K s0 al id fs k with
  | .error e => .error e
  | .ok s => match fs[k]? with
   | none => .ok s
   | some f => cameStep K s0 al id (fs.take k) f s
def cameEnd (sp : Nd) : Except Int Nat → Int
 | .error e => e
 | .ok s => if s = sp.s then 0 else 34
def cameE (K s0 : List Wd) (al : FromT → Bool) (id : List Nat) (fs : List FromT) (sp : Nd) : Int :=
 if fs.length = 0 then 1 else if 256 < fs.length then 4 else cameEnd sp (cameAt K s0 al id fs fs.length)
theorem cameAt_up {K s0 : List Wd} {al : FromT → Bool} {id : List Nat} {fs : List FromT} {k : Nat} {e : Int} (h : cameAt K s0 al id fs k = .error e) : cameAt K s0 al id fs (k + 1) = .error e := by
 rw [cameAt, h]
theorem cameAt_err {K s0 : List Wd} {al : FromT → Bool} {id : List Nat} {fs : List FromT} {k : Nat} {e : Int} (h : cameAt K s0 al id fs k = .error e) : ∀ j, k ≤ j → cameAt K s0 al id fs j = .error e := by
 intro j hj
 induction hj with
 | refl => exact h
 | step _ ih => exact cameAt_up ih
theorem cameAt_succ {K s0 : List Wd} {al : FromT → Bool} {id : List Nat} {fs : List FromT} {k s : Nat} {f : FromT} (h : cameAt K s0 al id fs k = .ok s) (hf : fs[k]? = some f) : cameAt K s0 al id fs (k + 1) = cameStep K s0 al id (fs.take k) f s := by
 rw [cameAt, h]
 simp only [hf]
theorem cameStep_ok {K s0 : List Wd} {al : FromT → Bool} {id : List Nat} {done : List FromT} {f : FromT} {s t : Nat} (h : cameStep K s0 al id done f s = .ok t) :
   leafBad f.l = false ∧ f.l.id = id ∧ twice K s0 done f = false ∧ al f = true ∧ t = s + f.l.am := by
 unfold cameStep at h
 split at h
 · cases h
 · rename_i h1
   split at h
   · cases h
   · rename_i h2
     split at h
     · cases h
     · rename_i h3
       split at h
       · cases h
       · rename_i h4
         split at h
         · injection h with h
           refine ⟨by simpa using h1, by simpa using h2, by simpa using h3, by simpa using h4, h.symm⟩
         · cases h
theorem cameStep_nz {K s0 : List Wd} {al : FromT → Bool} {id : List Nat} {done : List FromT} {f : FromT} {s : Nat} : ¬ cameStep K s0 al id done f s = .error 0 := by
 intro e
 unfold cameStep at e
 repeat' split at e
 all_goals cases e
theorem cameAt_nz {K s0 : List Wd} {al : FromT → Bool} {id : List Nat} (fs : List FromT) : ∀ (k : Nat), ¬ cameAt K s0 al id fs k = .error 0
 | 0 => fun e => by cases e
 | k + 1 => fun e => by
  cases h : cameAt K s0 al id fs k with
  | error x =>
   rw [cameAt_up h] at e
   injection e with e
   subst e
   exact cameAt_nz fs k h
  | ok s =>
   cases hf : fs[k]? with
   | none => rw [cameAt, h] at e; simp only [hf] at e; cases e
   | some f => rw [cameAt_succ h hf] at e; exact cameStep_nz e
def amF' (fs : List FromT) : Nat := (fs.map (·.l.am)).sum
theorem came_sum {K s0 : List Wd} {al : FromT → Bool} {id : List Nat} {fs : List FromT} : ∀ (k s : Nat), k ≤ fs.length → cameAt K s0 al id fs k = .ok s → s = amF' (fs.take k)
 | 0, s, _, h => by
  injection h with h
  rw [← h]; rfl
 | k + 1, s, hk, h => by
  cases e : cameAt K s0 al id fs k with
  | error x => rw [cameAt_up e] at h; cases h
  | ok u =>
   have ih := came_sum k u (by omega) e
   have hf := List.getElem?_eq_getElem (show k < fs.length from hk)
   rw [cameAt_succ e hf] at h
   rw [(cameStep_ok h).2.2.2.2, ih, List.take_add_one, hf, amF', amF', List.map_append, List.sum_append]
   simp
theorem came_none {K s0 : List Wd} {al al' : FromT → Bool} {id : List Nat} {fs : List FromT} {sp sp' : Nd} (hal : ∀ f ∈ fs, al' f = false) (h : cameE K s0 al id fs sp = 0) : cameE K s0 al' id fs sp' = 31 := by
 unfold cameE at h ⊢
 split at h
 · cases h
 · rename_i h0
   split at h
   · cases h
   · rename_i h1
     rw [if_neg h0, if_neg h1]
     have hf := List.getElem?_eq_getElem (show 0 < fs.length by omega)
     have h1 : ∃ t, cameStep K s0 al id (fs.take 0) fs[0] 0 = .ok t := by
      cases e : cameAt K s0 al id fs 1 with
      | error x =>
       rw [cameAt_err e fs.length (by omega)] at h
       rw [cameAt_succ (s := 0) rfl hf] at e
       have hx : x = 0 := h
       subst hx
       unfold cameStep at e
       repeat' split at e
       all_goals cases e
      | ok t => rw [cameAt_succ (s := 0) rfl hf] at e; exact ⟨t, e⟩
     obtain ⟨t, h1⟩ := h1
     obtain ⟨q1, q2, q3, -, -⟩ := cameStep_ok h1
     have h2 : cameAt K s0 al' id fs 1 = .error 31 := by
      rw [cameAt_succ (s := 0) rfl hf, cameStep, if_neg (by rw [q1]; decide), if_neg (by rw [q2]; simp), if_neg (by rw [q3]; decide), if_pos (hal _ (List.getElem_mem _))]
     rw [cameAt_err h2 fs.length (by omega)]
     rfl
theorem came_right {K s0 : List Wd} {al : FromT → Bool} {id : List Nat} {fs : List FromT} {sp : Nd} (h : cameE K s0 al id fs sp = 0) : fs.length ≤ 256 ∧ 0 < fs.length ∧ amF' fs = sp.s := by
 unfold cameE at h
 split at h
 · cases h
 · rename_i h0
   split at h
   · cases h
   · rename_i h1
     refine ⟨by omega, by omega, ?_⟩
     cases e : cameAt K s0 al id fs fs.length with
     | error x =>
      rw [e] at h
      have hx : x = 0 := h
      subst hx
      exact absurd e (cameAt_nz _ _)
     | ok s =>
      rw [e] at h
      have hs := came_sum _ s (Nat.le_refl _) e
      rw [List.take_length] at hs
      have : (if s = sp.s then (0 : Int) else 34) = 0 := h
      split at this
      · rename_i q; rw [← hs]; exact q
      · cases this
def wholeAt (id : List Nat) (ls ws : List LeafT) : Nat → Int
 | 0 => 0
 | k + 1 => if wholeAt id ls ws k ≠ 0 then wholeAt id ls ws k else match ls[k]?, ws[k]? with
  | some l, some v => if l.id ≠ id then 21 else if l ≠ v then 30 else 0
  | _, _ => 0
def wholeEnd (K s0 : List Wd) (id : List Nat) (ls : List LeafT) : Except Int (List Lf) → Int
 | .error e => e
 | .ok T => wholeAt id ls (splitL (partNd K s0 256 T) (placed ls)) ls.length
def wholeE (K s0 : List Wd) (id : List Nat) (ls : List LeafT) : Int :=
 if ls.length = 0 then 1 else if 256 < ls.length then 4 else wholeEnd K s0 id ls (tlAt K s0 (placed ls) ls.length)
def passE (K s0 : List Wd) (al : FromT → Bool) (fs : List FromT) (ls : List LeafT) : Int :=
 match ls with
 | [] => 1
 | l :: ls' => if wholeE K s0 l.id (l :: ls') ≠ 0 then wholeE K s0 l.id (l :: ls') else cameE K s0 al l.id fs l.sp
end Go.Proofs.YtniakgoefkbkhaaDoor

