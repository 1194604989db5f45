/- Maps keyed by 32 bytes: the key's law; what a key reads as. -/
import Derived.Test.YtngmpcmeebcdmaaDoorMem
import Derived.DeepKeys4
import Derived.WideKeyArr
import Derived.Maps.Keyed
import Derived.MapKept
namespace Go.Proofs.YtngmpcmeebcdmaaDoor
set_option linter.unusedVariables false
set_option linter.unusedSimpArgs false
open Go.ChangeShapes Go.WideShapes Go.ChangeAt Go.RowKit Go.Maps

theorem laidOutM : laidOutB Tryd.prog = true := by kernel_rfl
theorem hashKey : WideMaps.KeyLaw Tryd.prog 28 := deep_law_laid laidOutM (m := 2) (by omega) (of_decide_eq_true (by kernel_rfl)) (by kernel_rfl) (by rw [Tryd.underlying28])
theorem mapM_some {α β : Type} (f : α → Option β) (g : α → β) : ∀ l : List α, (∀ x ∈ l, f x = some (g x)) → l.mapM f = some (l.map g)
  | [], _ => rfl
  | x :: l, h => by
    rw [List.mapM_cons, h x List.mem_cons_self, mapM_some f g l (fun y hy => h y (List.mem_cons_of_mem _ hy))]
    rfl
theorem key_some (ks : List Nat) (h : IsHash ks) : ∃ kl, keyOf Tryd.prog 28 (arr ks) = some kl := by
  unfold keyOf
  rw [Tryd.underlying28]
  have h1 : Tryd.prog.keyType 28 = true := by kernel_rfl
  have h2 : (arr ks).formed Tryd.prog 28 = true := by
    have hc : Tryd.prog.cellsOf 28 = 32 := by kernel_rfl
    unfold arr
    simp [Value.formed, Tryd.underlying28, hc, bcells_length, h.1]
  have h3 : ∃ ls, Tryd.prog.keyLits (Tryd.prog.types.size + 1) 28 (arr ks).cells.toList = some ls := by
    have hc : Tryd.prog.cellsOf 28 = 32 := by kernel_rfl
    have hc1 : Tryd.prog.cellsOf 5 = 1 := by kernel_rfl
    obtain ⟨d, hd⟩ : ∃ d, Tryd.prog.types.size = d + 1 := ⟨Tryd.prog.types.size - 1, by have : 0 < Tryd.prog.types.size := of_decide_eq_true (by kernel_rfl); omega⟩
    rw [hd]
    unfold Program.keyLits
    rw [Tryd.underlying28]
    have hcs : (arr ks).cells.toList = bcells ks := by simp [arr, Value.cells]
    rw [hcs]
    simp only []
    rw [if_pos (by rw [hc, bcells_length, h.1]), hc1, mapM_some _ (fun i => [Lit.int .u8 ((ks.getD i 0 : Nat) : Int)]) (List.range 32) (fun i hi => ?_)]
    · exact ⟨_, rfl⟩
    · have hi2 : i < 32 := List.mem_range.1 hi
      have hlt : ks.getD i 0 < 256 := by
        rw [List.getD_eq_getElem?_getD, List.getElem?_eq_getElem (by rw [h.1]; exact hi2)]
        exact h.2 _ (List.getElem_mem _)
      have hone : ((bcells ks).drop (i * 1)).take 1 = [.int .u8 ((ks.getD i 0 : Nat) : Int)] := by
        rw [Nat.mul_one, List.take_one, List.head?_drop, bcells_get _ _ (by rw [h.1]; exact hi2)]
        rfl
      rw [hone]
      unfold Program.keyLits
      rw [Tryd.underlying5]
      simp only []
      generalize ks.getD i 0 = n at hlt
      have m0 : IntKind.u8.min = 0 := by decide
      have m1 : IntKind.u8.max = 255 := by decide
      have hw : (Lit.int .u8 (n : Int)).wf = true := by simp [Lit.wf, m0, m1]; omega
      rw [if_pos ⟨trivial, hw⟩]
  obtain ⟨ls, h3⟩ := h3
  rw [h1, h2, h3]
  exact ⟨_, rfl⟩
end Go.Proofs.YtngmpcmeebcdmaaDoor
