/- Short spellings for a region that draws, walked by hand. -/
import Derived.OrdersHeld
import Derived.Deep.RegionHeld
import Derived.Test.YtknfbccbdiidjaaGreatDoorProg
import Derived.WalkKit
import Derived.ProofKit
import Derived.RegionTactic
import Derived.BigQuiet
namespace Go.Proofs.YtknfbccbdiidjaaGreatDoor
set_option linter.unusedVariables false
set_option linter.unusedSimpArgs false

/-- a fact that no tactic looks into. -/
def Hd (p : Prop) : Prop := p
theorem Hh {p : Prop} (h : p) : Hd p := h
theorem Hd.o {p : Prop} (h : Hd p) : p := h
/-- what a frame that was written reads as. -/
theorem qa {α : Type} : (∀ (xs : List α) (i : Nat) (h : i < xs.toArray.size), xs.toArray[i]'h = xs[i]'(by simpa using h)) ∧ (∀ (a : α) (l : List α) (h : 0 < (a :: l).length), (a :: l)[0]'h = a) ∧
    (∀ (a : α) (l : List α) (i : Nat) (h : i + 1 < (a :: l).length), (a :: l)[i + 1]'h = l[i]'(by simpa using h)) ∧ (∀ (xs : List α) (i : Nat) (v : α), xs.toArray.setIfInBounds i v = (xs.set i v).toArray) ∧
    (∀ (a : α) (l : List α) (b : α), (a :: l).set 0 b = b :: l) ∧ (∀ (a : α) (l : List α) (n : Nat) (b : α), (a :: l).set (n + 1) b = a :: l.set n b) :=
  ⟨fun _ _ _ => List.getElem_toArray .., fun _ _ _ => rfl, fun _ _ _ _ => rfl, fun _ _ _ => List.setIfInBounds_toArray .., fun _ _ _ => rfl, fun _ _ _ _ => rfl⟩
/-- all that a walk by hand wants of it. -/
theorem qc : (∀ (a : Act) (v : Value), a.put none v = a) ∧ (∀ (a : Act) (d : Tmp) (v : Value), a.put (some d) v = { a with tmps := a.tmps.setIfInBounds d v }) ∧
    ((∀ (xs : List Value) (i : Nat) (h : i < xs.toArray.size), xs.toArray[i]'h = xs[i]'(by simpa using h)) ∧ (∀ (a : Value) (l : List Value) (h : 0 < (a :: l).length), (a :: l)[0]'h = a) ∧ (∀ (a : Value) (l : List Value) (i : Nat) (h : i + 1 < (a :: l).length), (a :: l)[i + 1]'h = l[i]'(by simpa using h)) ∧
      (∀ (xs : List Value) (i : Nat) (v : Value), xs.toArray.setIfInBounds i v = (xs.set i v).toArray) ∧ (∀ (a : Value) (l : List Value) (b : Value), (a :: l).set 0 b = b :: l) ∧ (∀ (a : Value) (l : List Value) (n : Nat) (b : Value), (a :: l).set (n + 1) b = a :: l.set n b)) ∧
    ((∀ (xs : List Oper) (i : Nat) (h : i < xs.toArray.size), xs.toArray[i]'h = xs[i]'(by simpa using h)) ∧ (∀ (a : Oper) (l : List Oper) (h : 0 < (a :: l).length), (a :: l)[0]'h = a) ∧ (∀ (a : Oper) (l : List Oper) (i : Nat) (h : i + 1 < (a :: l).length), (a :: l)[i + 1]'h = l[i]'(by simpa using h)) ∧
      (∀ (xs : List Oper) (i : Nat) (v : Oper), xs.toArray.setIfInBounds i v = (xs.set i v).toArray) ∧ (∀ (a : Oper) (l : List Oper) (b : Oper), (a :: l).set 0 b = b :: l) ∧ (∀ (a : Oper) (l : List Oper) (n : Nat) (b : Oper), (a :: l).set (n + 1) b = a :: l.set n b)) ∧
    ((∀ (xs : List Bool) (i : Nat) (h : i < xs.toArray.size), xs.toArray[i]'h = xs[i]'(by simpa using h)) ∧ (∀ (a : Bool) (l : List Bool) (h : 0 < (a :: l).length), (a :: l)[0]'h = a) ∧ (∀ (a : Bool) (l : List Bool) (i : Nat) (h : i + 1 < (a :: l).length), (a :: l)[i + 1]'h = l[i]'(by simpa using h)) ∧
      (∀ (xs : List Bool) (i : Nat) (v : Bool), xs.toArray.setIfInBounds i v = (xs.set i v).toArray) ∧ (∀ (a : Bool) (l : List Bool) (b : Bool), (a :: l).set 0 b = b :: l) ∧ (∀ (a : Bool) (l : List Bool) (n : Nat) (b : Bool), (a :: l).set (n + 1) b = a :: l.set n b)) :=
  ⟨fun _ _ => rfl, fun _ _ _ => rfl, qa, qa, qa⟩
section
variable {P : Program} {md : Region.Mode} {ops : Array Oper} {Q : Exit → Act → World → Prop} {S : World → Prop}
/-- a plain step. -/
theorem tk (i : Nat) {oi : Oper} {v : Value} {fuel : Nat} {listed : Array Bool} {a : Act} {w : World} (hi : ops[i]? = some oi) (hy : YieldsIf P ops S oi v a) (hS : S w)
    (h : wpAnyH P md ops Q S fuel (listed.setIfInBounds i true) (a.put oi.dst v) w)
    (hs : Region.noSelect ops = true := by kernel_rfl) (hf : Region.free md ops listed i = true := by kernel_rfl) (hr : (Region.ready md ops listed).contains i = true := by kernel_rfl)
    (hQ : ∀ c a w, Q (.panic c) (a.put oi.dst v) w → Q (.panic c) a w := by exact fun _ _ _ h => h) : wpAnyH P md ops Q S (fuel + 1) listed a w :=
  wpAnyH_take hi hs hf hr hQ hy hS h
/-- a plain step that is wanted. -/
theorem tl (i : Nat) {oi : Oper} {v : Value} {fuel : Nat} {listed : Array Bool} {a : Act} {w : World} (hi : ops[i]? = some oi) (hv : ∀ w, S w → (execOp a.eval oi).run P w = .ok (.value v) w) (hS : S w)
    (h : wpAnyH P md ops Q S fuel (listed.setIfInBounds i true) (a.put oi.dst v) w) (hw : Region.wanted oi (yielded ops a.tmps) = true := by kernel_rfl)
    (hs : Region.noSelect ops = true := by kernel_rfl) (hf : Region.free md ops listed i = true := by kernel_rfl) (hr : (Region.ready md ops listed).contains i = true := by kernel_rfl)
    (hQ : ∀ c a w, Q (.panic c) (a.put oi.dst v) w → Q (.panic c) a w := by exact fun _ _ _ h => h) : wpAnyH P md ops Q S (fuel + 1) listed a w :=
  wpAnyH_take hi hs hf hr hQ (.inl ⟨hw, hv⟩) hS h
/-- those that are ready. -/
theorem rdy (rs : List Nat) {fuel : Nat} {listed : Array Bool} {a : Act} {w : World} (h : AllReadyH P md ops Q S fuel listed a w rs) (hr : Region.ready md ops listed = rs := by kernel_rfl) (hne : rs ≠ [] := by simp) : wpAnyH P md ops Q S (fuel + 1) listed a w :=
  wpAnyH_ready hr hne h
theorem ar1 {fuel : Nat} {listed : Array Bool} {a : Act} {w : World} {i : Nat} {o : Oper} (ho : ops[i]? = some o)
    (h : ∀ K' : Act → World → Prop, Shut (∀ a w, S w → (S w → wpAnyH P md ops Q S fuel (listed.setIfInBounds i true) a w) → K' a w) → if Region.wanted o (yielded ops a.tmps) = true then Oper.wp P o a w K' Q else K' (a.put o.dst undef) w) : AllReadyH P md ops Q S fuel listed a w [i] :=
  AllReadyH.cons ho h AllReadyH.nil
end
end Go.Proofs.YtknfbccbdiidjaaGreatDoor
