/- The walks of leaf's eight and number. -/
import Derived.Test.YtbhnnoejhbihhaaGreatDoorLb0
namespace Go.Proofs.YtbhnnoejhbihhaaGreatDoor
set_option linter.unusedVariables false
set_option linter.unusedSimpArgs false
open Go.ChangeShapes Go.WideShapes Go.ChangeAt Go.RowKit Go.Maps

theorem zero_eight : ∃ Z : Array Value, (∀ w, (zeroValue 195).run Tryz.prog w = .ok (.agg Z) w) ∧ Z = (bcells (List.replicate 8 0)).toArray ∧ Z.size = 8 ∧ ¬ Z = #[] := ⟨(bcells (List.replicate 8 0)).toArray, fun w => by kernel_rfl, rfl, by simp [bcells], by decide⟩
set_option maxRecDepth 100000 in
set_option maxHeartbeats 4000000 in
theorem lfEight_is (w : World) (x : Nat) (hx : x < 18446744073709551616) :
    Calls Tryz.prog 65 #[.int .u64 (x : Int)] w fun e w' => ∃ a, e = .returned (.slice a 8 8) ∧ Bytes w' w'.heap.size (.slice a 8 8) (eight x) ∧ Below w.heap.size w w' := by
  obtain ⟨Z, hz, hZ, hZs, hZn⟩ := zero_eight
  have HZ := Lib.hid hZ
  clear hZ hZs
  obtain ⟨G, hG⟩ : ∃ g, g = w.heap.size := ⟨_, rfl⟩
  have HG := Lib.hid hG
  have hal : Has (w.alloc (.cells Z 195)) w.heap.size 195 Z := Has.new _ _ _
  have hbl : Below w.heap.size w (w.alloc (.cells Z 195)) := (Below.refl _ _).alloc (Nat.le_refl _) _
  obtain ⟨W1, hW1⟩ : ∃ v, v = w.alloc (.cells Z 195) := ⟨_, rfl⟩
  rw [← hW1, ← hG] at hal hbl
  have HAL := Lib.hid hal
  have HBL := Lib.hid hbl
  have EW1 := Lib.hid hW1
  clear hG hal hbl hW1
  go_enter Tryz.func65, Tryz.ntmps65
  go_upto_region 2 with (fail)
  rw [← HG.out, ← EW1.out]
  go_wp2_with fail
  go_loopw [5] (fun i wr => ∃ k : Nat, k ≤ 8 ∧ i = .int .i64 k ∧ Has wr G 195 (splice (bcells (List.replicate 8 0)) 0 ((bcells (eight x)).take k)).toArray ∧ Below G w wr) (fun i _ => 8 - (intOf i).toNat)
  case atStart => exact ⟨0, by omega, rfl, by rw [List.take_zero, splice_nil, ← HZ.out]; exact HAL.out, HBL.out⟩
  case round =>
    obtain ⟨k, hk, rfl, hW, hK⟩ := hrel
    have HW := Lib.hid hW
    have HKR := Lib.hid hK
    clear hW hK
    by_cases hlt : k < 8
    · have hf := HW.out.free k
      obtain ⟨v0, hv0⟩ : ∃ v, wr.cell? ⟨G, k, none⟩ = some v := by
        refine ⟨_, HW.out.cell_is (by rw [List.getElem?_toArray]; exact List.getElem?_eq_getElem (by rw [splice_len _ _ _ (by rw [List.length_take, bcells_length, bcells_length, eight_length]; simp; omega)]; rw [bcells_length]; simpa using hlt))⟩
      have hset := HW.out.set (0 + k) (.int .u8 ((x / 2 ^ (8 * (7 - k)) % 256 : Nat) : Int))
      rw [List.setIfInBounds_toArray, splice_take_set _ _ _ _ _ (by rw [bcells_length, bcells_length, eight_length]; simp) (eight_get x k hlt), Nat.zero_add] at hset
      have hv : ((x : Int) / 2 ^ (56 - 8 * k) % 256) = ((x / 2 ^ (8 * (7 - k)) % 256 : Nat) : Int) := by
        rw [show 56 - 8 * k = 8 * (7 - k) by omega, show (2 : Int) ^ (8 * (7 - k)) = ((2 ^ (8 * (7 - k)) : Nat) : Int) by simp]
        rfl
      have HV := Lib.hid hv
      have HSET := Lib.hid hset
      have HGW := Lib.hid (show w.heap.size ≤ G by rw [HG.out]; exact Nat.le_refl _)
      clear hset hv
      go_wp2
      go_roundw
      case rel => exact ⟨k + 1, by omega, by go_num, by rw [HV.out]; exact HSET.out, HKR.out.setCell (by exact Nat.le_refl _) _⟩
      case measure => simp [intOf]; omega
    · obtain rfl : k = 8 := by omega
      have hfin : Has wr G 195 (bcells (eight x)).toArray := by
        have h1 := HW.out
        rw [List.take_of_length_le (by rw [bcells_length, eight_length]; exact Nat.le_refl _), splice_all _ _ (by rw [bcells_length, bcells_length, eight_length]; simp)] at h1
        exact h1
      have HF := Lib.hid hfin
      clear hfin
      go_wp2
      go_ret
      exact ⟨_, rfl, ⟨_, _, by rw [eight_length], by rw [eight_length]; exact Nat.le_refl _, eight_lt' x, fun _ => ⟨G, 0, rfl, Nat.ne_of_lt HF.out.lt, fun i hi => by rw [Nat.zero_add]; exact HF.out.cell_is (by rw [List.getElem?_toArray]; exact bcells_get _ i hi)⟩⟩, by have := HKR.out; rwa [HG.out] at this⟩
/-- bytes' number. -/
theorem shl_or (x c : Nat) (hc : c < 256) (hx : x * 256 + c < 18446744073709551616) : bits BinOp.or .u64 ((x : Int) * 256) (c : Int) = ((x * 256 + c : Nat) : Int) := or_byteT x c hc hx
set_option maxRecDepth 100000 in
set_option maxHeartbeats 4000000 in
theorem lfNumber_is (w : World) (a : Option Addr) (L cv : Nat) (b : List Nat) (hb : Bytes w w.heap.size (.slice a L cv) b) (h8 : b.length ≤ 8) :
    Calls Tryz.prog 61 #[.slice a L cv] w fun e w' => e = .returned (.int .u64 (numB b : Int)) ∧ w' = w := by
  obtain ⟨hl, hlc, hlt, hop⟩ := hb.openT
  have HLT := Lib.hid hlt
  have HOP := Lib.hid hop
  have hL8 : L ≤ 8 := by omega
  have EL := Lib.hid hl
  clear hb hlt hop hl h8
  go_enter Tryz.func61, Tryz.ntmps61
  go_wp2_with fail
  go_loop [3, 8] (fun xv iv => ∃ j : Nat, iv = .int .i64 (j : Int) ∧ j ≤ L ∧ xv = .int .u64 (numB (b.take j) : Int)) (fun _ iv => L - (intOf iv).toNat)
  case atStart => exact ⟨0, rfl, Nat.zero_le _, rfl⟩
  case round =>
    obtain ⟨j, rfl, hj, rfl⟩ := hrel
    by_cases hjL : j < L
    · have hjL' : (j : Int) < (L : Int) := by omega
      obtain ⟨bg, bo, rfl, _, hc⟩ := HOP.out (by omega)
      have hjb : j < b.length := by rw [← EL.out]; exact hjL
      have cb := hc j hjL
      have hct := HLT.out (b.getD j 0) (by rw [List.getD_eq_getElem?_getD, List.getElem?_eq_getElem hjb]; exact List.getElem_mem _)
      obtain ⟨ct, hce⟩ : ∃ z, z = b.getD j 0 := ⟨_, rfl⟩
      rw [← hce] at cb hct
      obtain ⟨x, hxe⟩ : ∃ z, z = numB (b.take j) := ⟨_, rfl⟩
      have hx7 : x < 72057594037927936 := by rw [hxe]; exact numB_take HLT.out j (by omega)
      have HNX := Lib.hid (show numB (b.take (j + 1)) = x * 256 + ct by rw [List.take_add_one, List.getElem?_eq_getElem hjb]; show numB (b.take j ++ [b[j]]) = _; rw [numB_snoc, ← hxe, hce, List.getD_eq_getElem?_getD, List.getElem?_eq_getElem hjb]; rfl)
      rw [← hxe]
      obtain ⟨y, hy⟩ : ∃ y, y = x * 256 + ct := ⟨_, rfl⟩
      have hor := or_byteT x ct hct (by omega)
      rw [← hy] at hor HNX
      have hat : ∀ v, (Instr.indexAt 22 (.slice (some ⟨bg, bo, none⟩) L cv) (.int .i64 (j : Int))).run Tryz.prog v = .ok (.pointer (some ⟨bg, bo + j, none⟩)) v := fun v => at_byte bg bo L cv j hjL v
      clear hce hxe hy hjb hc
      go_wp2_with fail
      go_round
      case rel => exact ⟨j + 1, by go_num, by omega, by rw [HNX.out]⟩
      case measure => simp [intOf]; omega
    · obtain rfl : j = L := by omega
      have hjL' : ¬ (j : Int) < (j : Int) := by omega
      have HE := Lib.hid (show numB (b.take j) = numB b by rw [EL.out, List.take_length])
      go_wp2_with fail
      go_ret
      rw [HE.out]
      exact ⟨rfl, rfl⟩
end Go.Proofs.YtbhnnoejhbihhaaGreatDoor
