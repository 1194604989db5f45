/- The walk of msum.Bit. -/
import Derived.Test.YtbhnnoejhbihhaaGreatDoorMem
namespace Go.Proofs.YtbhnnoejhbihhaaGreatDoor
set_option linter.unusedVariables false
set_option linter.unusedSimpArgs false
open Go.ChangeShapes Go.WideShapes Go.ChangeAt Go.RowKit


theorem wrap_bit (a : Nat) : wrap64 (bits BinOp.and .u8 (a : Int) 1) = ((a % 2 : Nat) : Int) := by
  have h : bits BinOp.and .u8 (a : Int) 1 = ((a % 2 : Nat) : Int) := by
    unfold bits
    have e : (BitVec.ofInt IntKind.u8.bits (a : Int) &&& BitVec.ofInt IntKind.u8.bits 1).toNat = a % 2 := by
      show (BitVec.ofInt 8 (a : Int) &&& BitVec.ofInt 8 1).toNat = a % 2
      rw [BitVec.toNat_and, BitVec.toNat_ofInt, BitVec.toNat_ofInt]
      have : ((1 : Int) % ((2 ^ 8 : Nat) : Int)).toNat = 1 := by decide
      rw [this, Nat.and_one_is_mod]
      omega
    simp only [e]
    have hw : ∀ b : Int, 0 ≤ b → b < 256 → IntKind.u8.wrap b = b := fun b h0 h1 => by
      simp [IntKind.wrap, IntKind.bits, IntKind.signed]; omega
    exact hw _ (by omega) (by omega)
  rw [h]
  unfold wrap64
  omega

theorem bit_num (ks : List Nat) (h : Int) (h0 : 0 ≤ h) (h1 : h < 256) :
    wrap64 (bits BinOp.and .u8 (((ks[((255 - h) / 8).toNat]?.getD 0 : Nat) : Int) / 2 ^ (7 - (255 - h) % 8).toNat) 1) = (bitAt ks h.toNat : Nat) := by
  have e1 : ((255 - h) / 8).toNat = 31 - h.toNat / 8 := by omega
  have e2 : (7 - (255 - h) % 8).toNat = h.toNat % 8 := by omega
  rw [e1, e2]
  have e3 : (((ks[31 - h.toNat / 8]?.getD 0 : Nat) : Int) / 2 ^ (h.toNat % 8)) = ((ks[31 - h.toNat / 8]?.getD 0 / 2 ^ (h.toNat % 8) : Nat) : Int) := by
    rw [Int.natCast_ediv, Int.natCast_pow]; rfl
  rw [e3, wrap_bit]
  unfold bitAt
  rw [List.getD_eq_getElem?_getD]

theorem bit_out (ks : List Nat) (h : Int) (w : World) (h0 : h < 0 ∨ 256 ≤ h) :
    Calls Tryz.prog 88 #[arr ks, .int .i64 h] w fun e w' => e = .returned (.int .i64 0) ∧ w' = w.alloc (.cells (bcells ks).toArray 26) := by
  unfold arr
  rcases h0 with h0 | h0
  · go_enter Tryz.func88, Tryz.ntmps88
    go_wp2
    go_ret
    exact ⟨rfl, rfl⟩
  · have h1 : ¬ h < 0 := by omega
    go_enter Tryz.func88, Tryz.ntmps88
    go_wp2
    go_ret
    exact ⟨rfl, rfl⟩

theorem bit_in (ks : List Nat) (h : Int) (w : World) (hk : ks.length = 32) (h0 : 0 ≤ h) (h1 : h < 256) :
    Calls Tryz.prog 88 #[arr ks, .int .i64 h] w fun e w' => e = .returned (.int .i64 (bitAt ks h.toNat : Nat)) ∧ w' = w.alloc (.cells (bcells ks).toArray 26) := by
  unfold arr
  have hc := cell_bcells (w := w) (ks := ks) (i := ((255 - h) / 8).toNat) (t := 26) (by omega)
  have hlen : (bcells ks).length = 32 := by rw [bcells_length, hk]
  have HN := Lib.hid (bit_num ks h h0 h1)
  clear hk
  go_enter Tryz.func88, Tryz.ntmps88
  go_wp2
  go_ret
  exact ⟨ret_int HN.out, rfl⟩
end Go.Proofs.YtbhnnoejhbihhaaGreatDoor

/- The walk of the reference's Bit. -/
namespace Go.Proofs.YtbhnnoejhbihhaaGreatDoor
set_option linter.unusedVariables false
set_option linter.unusedSimpArgs false
open Go.ChangeShapes Go.WideShapes Go.ChangeAt Go.RowKit


theorem ref_num (x : Nat) (k : Nat) : ((x : Int) / 2 ^ k) / 2 = (x : Int) / 2 ^ (k + 1) := by
  rw [Int.ediv_ediv_of_nonneg (Int.pow_nonneg (by decide)), Int.pow_succ]

theorem ref_le (x : Nat) (k : Nat) : 0 ≤ (x : Int) / 2 ^ k ∧ (x : Int) / 2 ^ k ≤ x := by
  have hp : (0 : Int) < 2 ^ k := Int.pow_pos (by decide)
  exact ⟨Int.ediv_nonneg (by omega) (by omega), Int.ediv_le_self _ (by omega)⟩

theorem refBit_in (ks : List Nat) (h : Int) (w : World) (hk : IsHash ks) (h0 : 0 ≤ h) (h1 : h < 256) :
    Calls Tryz.prog 124 #[arr ks, .int .i64 h] w fun e w' => e = .returned (.int .i64 (bitAt ks h.toNat : Nat)) ∧ w' = w.alloc (.cells (bcells ks).toArray 25) := by
  unfold arr
  have hc := cell_bcells (w := w) (ks := ks) (i := (31 - h / 8).toNat) (t := 25) (by have := hk.1; omega)
  have hlen : (bcells ks).length = 32 := by rw [bcells_length, hk.1]
  obtain ⟨x, hx⟩ : ∃ x, x = ks.getD (31 - h / 8).toNat 0 := ⟨_, rfl⟩
  have hlt : x < 256 := by
    rw [hx, List.getD_eq_getElem?_getD, List.getElem?_eq_getElem (by have := hk.1; omega)]
    exact hk.2 _ (by simp)
  rw [← hx] at hc
  have HX := Lib.hid hx
  clear hx hk
  have HF : Hid (((x : Int) / 2 ^ (h % 8).toNat) % 2 = (bitAt ks h.toNat : Nat)) := by
    refine Lib.hid ?_
    unfold bitAt
    have e1 : (31 - h / 8).toNat = 31 - h.toNat / 8 := by omega
    have e2 : (h % 8).toNat = h.toNat % 8 := by omega
    rw [HX.out, e1, e2]
    push_cast
    rfl
  clear HX
  go_enter Tryz.func124, Tryz.ntmps124
  go_wp2
  go_loop [5, 6] (fun b i => ∃ k : Nat, (k : Int) ≤ h % 8 ∧ i = .int .i64 k ∧ b = .int .i64 ((x : Int) / 2 ^ k)) (fun _ i => 8 - (intOf i).toNat)
  case atStart => exact ⟨0, by omega, rfl, by simp⟩
  case round =>
    obtain ⟨k, hk, rfl, rfl⟩ := hrel
    have hr := ref_num x k
    have hl := ref_le x k
    have HR := Lib.hid hr
    clear hr
    by_cases hlt2 : (k : Int) < h % 8
    · go_wp2
      go_round
      case rel => exact ⟨k + 1, by omega, by go_num, by rw [← HR.out]⟩
      case measure => simp [intOf]; omega
    · go_wp2
      go_ret
      have : k = (h % 8).toNat := by omega
      subst this
      exact ⟨ret_int HF.out, rfl⟩
end Go.Proofs.YtbhnnoejhbihhaaGreatDoor
