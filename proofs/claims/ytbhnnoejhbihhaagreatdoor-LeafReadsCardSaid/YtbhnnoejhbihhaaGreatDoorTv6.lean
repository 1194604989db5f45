/- The walk of tlv's Decode. -/
import Derived.Test.YtbhnnoejhbihhaaGreatDoorTv5
namespace Go.Proofs.YtbhnnoejhbihhaaGreatDoor
set_option linter.unusedVariables false
set_option linter.unusedSimpArgs false
open Go.ChangeShapes Go.WideShapes Go.ChangeAt Go.RowKit Go.Maps

theorem decF_stop {f : Nat} {acc : List Rec} {b : List Nat} (h : b = []) : decF (f + 1) acc b = .ok acc := by
  unfold decF
  rw [if_pos h]
theorem decF_err {f e : Nat} {acc : List Rec} {b : List Nat} (h : b ≠ []) (hs : decS acc b = .error e) : decF (f + 1) acc b = .error e := by
  unfold decF
  rw [if_neg h, hs]
theorem decF_step {f : Nat} {acc : List Rec} {b : List Nat} {p : List Rec × List Nat} (h : b ≠ []) (hs : decS acc b = .ok p) : decF (f + 1) acc b = decF f p.1 p.2 := by
  conv => lhs; unfold decF
  rw [if_neg h, hs]
/-- cuts of bytes that lie somewhere. -/
theorem bytes_from {w : World} {a : Option Addr} {n c k : Nat} {l : List Nat} (h : Bytes w w.heap.size (.slice a n c) l) (hk : k ≤ n) : ∃ a', (∀ v : World, (Instr.slice 22 (.slice a n c) (some (.int .i64 (k : Int))) none none).run Tryz.prog v = .ok (.slice a' (n - k) (c - k)) v) ∧ Bytes w w.heap.size (.slice a' (n - k) (c - k)) (l.drop k) := by
  obtain ⟨h1, h2, h3, h4⟩ := h.openT
  have hu : Tryz.prog.underlying 22 = some (.slice (Tryz.prog.elem 22)) := by kernel_rfl
  have he : Tryz.prog.elem 22 = 5 := by kernel_rfl
  have hz : ∀ w, (sizeOf 5).run Tryz.prog w = .ok 1 w := fun w => by kernel_rfl
  refine ⟨if c = k then a else a.map fun x => x.add (k * 1), fun v => ?_, ?_⟩
  · rw [run_slice_l v 22 a n c hu .i64 (k : Int) (by omega) (by omega), he, hz]
    simp only [Result.andThen, sliced, Int.toNat_natCast]
  · refine ⟨_, _, by rw [List.length_drop, ← h1], by rw [List.length_drop, ← h1]; omega, fun x hx => h3 x (List.mem_of_mem_drop hx), fun hpos => ?_⟩
    rw [List.length_drop, ← h1] at hpos
    obtain ⟨bg, bo, rfl, hbg, hc⟩ := h4 (by omega)
    refine ⟨bg, bo + k, by rw [if_neg (by omega)]; simp [Addr.add_mid], by omega, fun i hi => ?_⟩
    rw [List.length_drop, ← h1] at hi
    have := hc (k + i) (by omega)
    rw [Nat.add_assoc, this]
    simp [List.getD_eq_getElem?_getD, List.getElem?_drop]
theorem bytes_upto {w : World} {a : Option Addr} {n c k : Nat} {l : List Nat} (h : Bytes w w.heap.size (.slice a n c) l) (hk : k ≤ n) : ∃ a', (∀ v : World, (Instr.slice 22 (.slice a n c) none (some (.int .u64 (k : Int))) none).run Tryz.prog v = .ok (.slice a' k c) v) ∧ Bytes w w.heap.size (.slice a' k c) (l.take k) := by
  obtain ⟨h1, h2, h3, h4⟩ := h.openT
  have hu : Tryz.prog.underlying 22 = some (.slice (Tryz.prog.elem 22)) := by kernel_rfl
  have he : Tryz.prog.elem 22 = 5 := by kernel_rfl
  have hz : ∀ w, (sizeOf 5).run Tryz.prog w = .ok 1 w := fun w => by kernel_rfl
  have hlt : (l.take k).length = k := by rw [List.length_take]; omega
  refine ⟨if c - 0 = 0 then a else a.map fun x => x.add (0 * 1), fun v => ?_, ?_⟩
  · rw [run_slice_h v 22 a n c hu .u64 (k : Int) (by omega) (by omega), he, hz]
    simp only [Result.andThen, sliced, Int.toNat_natCast, Nat.sub_zero]
  · refine ⟨_, _, by rw [hlt], by rw [hlt]; omega, fun x hx => h3 x (List.mem_of_mem_take hx), fun hpos => ?_⟩
    rw [hlt] at hpos
    obtain ⟨bg, bo, rfl, hbg, hc⟩ := h4 (by omega)
    refine ⟨bg, bo, by rw [if_neg (by omega)]; simp [Addr.add_mid], by omega, fun i hi => ?_⟩
    rw [hlt] at hi
    rw [hc i (by omega)]
    simp [List.getD_eq_getElem?_getD, List.getElem?_take, hi]
end Go.Proofs.YtbhnnoejhbihhaaGreatDoor
