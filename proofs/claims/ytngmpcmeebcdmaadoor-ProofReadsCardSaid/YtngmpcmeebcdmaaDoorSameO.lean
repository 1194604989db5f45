/- The walk of the reference's Same. -/
import Derived.Test.YtngmpcmeebcdmaaDoorSha7
import Derived.Laws.BytesArg
namespace Go.Proofs.YtngmpcmeebcdmaaDoor
set_option linter.unusedVariables false
set_option linter.unusedSimpArgs false
open Go.ChangeShapes Go.WideShapes Go.ChangeAt Go.RowKit Go.Maps

def strOf (bs : List Nat) : ByteArray := strOfNums (bs.map fun (n : Nat) => (n : Int))
theorem strOf_inj {a b : List Nat} (ha : ∀ x ∈ a, x < 256) (hb : ∀ x ∈ b, x < 256) (h : strOf a = strOf b) : a = b := by
  have e := congrArg (fun s : ByteArray => s.data.toList.map UInt8.toNat) h
  simp only [strOf, strOfNums_data, List.map_map] at e
  have go : ∀ l : List Nat, (∀ x ∈ l, x < 256) → l.map (UInt8.toNat ∘ (fun n : Int => UInt8.ofNat n.toNat) ∘ fun (n : Nat) => (n : Int)) = l := fun l hl => by
    conv => rhs; rw [← List.map_id l]
    refine List.map_congr_left fun x hx => ?_
    have := hl x hx
    simp
    omega
  rw [go a ha, go b hb] at e
  exact e
theorem conv_zero (w : World) (p : Option Addr) (c : Nat) : (convert 29 9 (.slice p 0 c)).run Tryd.prog w = .ok (.string ByteArray.empty) w := by
  rw [run_convert_bytes_string w 29 9 5 p 0 c Tryd.underlying29 Tryd.underlying5 Tryd.underlying9]
  cases p <;> simp [Conv.bytesToString, loadCells, loadCellsFrom]
theorem conv_bytes {w : World} {g : Nat} {v : Value} {bs : List Nat} (h : Bytes w g v bs) : (convert 29 9 v).run Tryd.prog w = .ok (.string (strOf bs)) w := by
  obtain ⟨a, c, rfl, h1, h2, h3⟩ := h
  rcases Nat.eq_zero_or_pos bs.length with h0 | h0
  · obtain rfl : bs = [] := List.eq_nil_of_length_eq_zero h0
    exact conv_zero w a c
  · obtain ⟨bg, bo, rfl, _, hc⟩ := h3 h0
    exact run_convert_bytes_arg w 29 5 Tryd.underlying29 Tryd.underlying5 bg bo bs.length c (bs.map fun (n : Nat) => (n : Int)) (by simp) (fun i hi => by
      rw [hc i hi]
      congr 2
      rw [List.getD_eq_getElem?_getD, List.getD_eq_getElem?_getD, List.getElem?_map, List.getElem?_eq_getElem hi]
      rfl) 9 Tryd.underlying9
set_option maxRecDepth 100000 in
theorem same_is (w : World) (va vb : Value) (a b : List Nat) (ha : Bytes w w.heap.size va a) (hb : Bytes w w.heap.size vb b) :
    Calls Tryd.prog 23 #[va, vb] w fun e w' => e = .returned (.bool (decide (a = b))) ∧ w' = w := by
  have h1 := conv_bytes ha
  have h2 := conv_bytes hb
  have ht : ((strOf a).toList == (strOf b).toList) = decide (a = b) := by
    obtain ⟨_, _, _, _, la, _⟩ := ha
    obtain ⟨_, _, _, _, lb, _⟩ := hb
    rw [Bool.eq_iff_iff, beq_iff_eq, decide_eq_true_eq]
    refine ⟨fun e => strOf_inj la lb ?_, fun e => by rw [e]⟩
    rw [ByteArray.toList_eq, ByteArray.toList_eq] at e
    exact ByteArray.ext (Array.toList_inj.1 e)
  have HT := Lib.hid ht
  clear ha hb ht
  go_enter Tryd.func23, Tryd.ntmps23
  go_wp2
  go_ret
  refine ⟨?_, rfl⟩
  rw [← HT.out]
  rfl
end Go.Proofs.YtngmpcmeebcdmaaDoor
