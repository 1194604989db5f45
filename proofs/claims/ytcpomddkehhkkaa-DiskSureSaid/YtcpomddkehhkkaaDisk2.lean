/- The walks of the disk's step. -/
import Derived.Test.YtcpomddkehhkkaaDisk1
namespace Go.Proofs.Ytcpomddkehhkkaa
open Go.ChangeShapes Go.WideShapes Go.ChangeAt Go.RowKit

/-- the cells of a disk -/
def dcs (sv qv : Value) (fuse : Int) (down : Bool) : Array Value := #[sv, qv, .int .i64 fuse, .bool down]
/-- the disk's own block. -/
def DObj (w : World) (g : Nat) (sv qv : Value) (fuse : Int) (down : Bool) : Prop := Has w g 49 (dcs sv qv fuse down)

theorem DObj.facts {w : World} {g : Nat} {sv qv : Value} {fuse : Int} {down : Bool} (h : DObj w g sv qv fuse down) :
    w.cell? ⟨g, 0, none⟩ = some sv ∧ w.cell? ⟨g, 1, none⟩ = some qv ∧ w.cell? ⟨g, 2, none⟩ = some (.int .i64 fuse) ∧ w.cell? ⟨g, 3, none⟩ = some (.bool down) :=
  ⟨Has.cell_is h rfl, Has.cell_is h rfl, Has.cell_is h rfl, Has.cell_is h rfl⟩
theorem DObj.free {w : World} {g : Nat} {sv qv : Value} {fuse : Int} {down : Bool} (h : DObj w g sv qv fuse down) (i : Nat) : w.frozen? ⟨g, i, none⟩ = false := Has.free h i

/-- what the disk's own block holds behind a call; all else is as it was. -/
def Turned (w : World) (g : Nat) (v : Value) (sv qv : Value) (fuse : Int) (down : Bool) (e : Ending) (w' : World) : Prop :=
  e = .returned v ∧ DObj w' g sv qv fuse down ∧ Kept (· = g) w w'

theorem step_down (w : World) (g : Nat) (sv qv : Value) (fuse : Int) (h : DObj w g sv qv fuse true) :
    Calls Try.prog 18 #[.pointer (some ⟨g, 0, none⟩)] w (Turned w g (.int .i64 40) sv qv fuse true) := by
  obtain ⟨c0, c1, c2, c3⟩ := h.facts
  have H := Lib.hid h
  clear h
  go_enter Try.func18, Try.ntmps18
  go_wp2
  go_ret
  exact ⟨rfl, H.out, Kept.refl _ _⟩

theorem step_idle (w : World) (g : Nat) (sv qv : Value) (fuse : Int) (h : DObj w g sv qv fuse false) (hf : fuse ≤ 0) :
    Calls Try.prog 18 #[.pointer (some ⟨g, 0, none⟩)] w (Turned w g (.int .i64 0) sv qv fuse false) := by
  obtain ⟨c0, c1, c2, c3⟩ := h.facts
  have H := Lib.hid h
  clear h
  go_enter Try.func18, Try.ntmps18
  go_wp2
  go_ret
  exact ⟨rfl, H.out, Kept.refl _ _⟩

theorem step_burn (w : World) (g : Nat) (sv qv : Value) (fuse : Int) (h : DObj w g sv qv fuse false) (hf : 1 < fuse) (hm : fuse ≤ 9223372036854775807) :
    Calls Try.prog 18 #[.pointer (some ⟨g, 0, none⟩)] w (Turned w g (.int .i64 0) sv qv (fuse - 1) false) := by
  obtain ⟨c0, c1, c2, c3⟩ := h.facts
  have f2 := h.free 2
  have H := Lib.hid h
  clear h
  go_enter Try.func18, Try.ntmps18
  go_wp2
  go_ret
  exact ⟨rfl, Has.set H.out 2 _, (Kept.refl (· = g) _).set (.inl rfl) _⟩

theorem step_last (w : World) (g : Nat) (sv qv : Value) (h : DObj w g sv qv 1 false) :
    Calls Try.prog 18 #[.pointer (some ⟨g, 0, none⟩)] w (Turned w g (.int .i64 0) sv qv 0 true) := by
  obtain ⟨c0, c1, c2, c3⟩ := h.facts
  have f2 := h.free 2
  have f3 := h.free 3
  have H := Lib.hid h
  clear h
  go_enter Try.func18, Try.ntmps18
  go_wp2
  go_ret
  exact ⟨rfl, Has.set (Has.set H.out 2 _) 3 _, ((Kept.refl (· = g) _).set (.inl rfl) _).set (.inl rfl) _⟩

/-- what a step makes of the fuse, and of the power. -/
def burnt (fuse : Int) : Int := if 0 < fuse then fuse - 1 else fuse
def blown (fuse : Int) : Bool := decide (fuse = 1)

theorem step_up (w : World) (g : Nat) (sv qv : Value) (fuse : Int) (h : DObj w g sv qv fuse false) (hm : fuse ≤ 9223372036854775807) :
    Calls Try.prog 18 #[.pointer (some ⟨g, 0, none⟩)] w (Turned w g (.int .i64 0) sv qv (burnt fuse) (blown fuse)) := by
  unfold burnt blown
  by_cases h0 : fuse ≤ 0
  · rw [if_neg (by omega), decide_eq_false (by omega)]
    exact step_idle w g sv qv fuse h h0
  · by_cases h1 : fuse = 1
    · subst h1
      exact step_last w g sv qv h
    · rw [if_pos (by omega), decide_eq_false h1]
      exact step_burn w g sv qv fuse h (by omega) hm
end Go.Proofs.Ytcpomddkehhkkaa
