/- sha.Sum at one part that lies somewhere. -/
import Derived.Test.YtnddejgglbdkmaaDoorSha7
namespace Go.Proofs.YtnddejgglbdkmaaDoor
set_option linter.unusedVariables false
set_option linter.unusedSimpArgs false
open Go.ChangeShapes Go.WideShapes Go.ChangeAt Go.RowKit

/-- the digest of one part: the caller has just laid the slice of parts. -/
theorem sum_one (K s0 : List Wd) (W : World) (G o n c : Nat) (m : List Nat) (hT : Tabs K s0 W) (hm : m.length = n) (hm2 : n ≤ c) (hc : c ≤ 1000000000) (hb : ∀ x ∈ m, x < 256) (hG : G < W.heap.size) (hr : ∀ i, i < n → W.cell? ⟨G, o + i, none⟩ = some (.int .u8 ((m.getD i 0 : Nat) : Int))) :
    Calls Tryd.prog 17 #[.slice (some ⟨W.heap.size, 0, none⟩) 1 1] (W.alloc (.cells #[.slice (some ⟨G, o, none⟩) n c] 45)) fun e w' => e = .returned (arr (digest K s0 m)) ∧ Below W.heap.size W w' := by
  have hk := (Kept.refl (fun _ => False) W).alloc (.cells #[.slice (some ⟨G, o, none⟩) n c] 45)
  have hp : Parts (W.alloc (.cells #[.slice (some ⟨G, o, none⟩) n c] 45)) (.slice (some ⟨W.heap.size, 0, none⟩) 1 1) [m] := by
    refine ⟨_, _, rfl, fun _ => ⟨W.heap.size, 0, rfl, fun i hi => ?_⟩⟩
    have hi0 : i = 0 := by simpa using hi
    subst hi0
    refine ⟨.slice (some ⟨G, o, none⟩) n c, (Has.new W 45 #[.slice (some ⟨G, o, none⟩) n c]).cell_is rfl, ?_⟩
    change Bytes _ _ _ m
    refine ⟨some ⟨G, o, none⟩, c, by rw [hm], by omega, hb, fun _ => ⟨G, o, rfl, by simp; omega, fun i hi => ?_⟩⟩
    rw [World.cell?_alloc_lt W _ _ hG]
    exact hr i (by omega)
  have hs := sum_is K s0 _ _ [m] (hT.kept hk (fun _ h => h.elim)) hp (by simp; omega) (by simp)
  rw [show [m].flatten = m by simp] at hs
  exact hs.mono fun e w' he => ⟨he.1, ((Below.refl W.heap.size W).alloc (Nat.le_refl _) _).trans (he.2.mono (by simp))⟩
end Go.Proofs.YtnddejgglbdkmaaDoor
