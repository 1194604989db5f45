/- The walk of msum.Bit. -/
import Derived.Test.YtknfbccbdiidjaaGreatDoorWs
import Derived.Test.YtknfbccbdiidjaaGreatDoorRMem
namespace Go.Proofs.YtknfbccbdiidjaaGreatDoor
set_option linter.unusedVariables false
set_option linter.unusedSimpArgs false
open Go.ChangeShapes Go.WideShapes Go.ChangeAt Go.RowKit


theorem wrap_bit (a : Nat) : wrap64 (bits BinOp.and .u8 (a : Int) 1) = ((a % 2 : Nat) : Int) := by
 have h : bits BinOp.and .u8 (a : Int) 1 = ((a % 2 : Nat) : Int) := by
  unfold bits
  have e : (BitVec.ofInt IntKind.u8.bits (a : Int) &&& BitVec.ofInt IntKind.u8.bits 1).toNat = a % 2 := by
   show (BitVec.ofInt 8 (a : Int) &&& BitVec.ofInt 8 1).toNat = a % 2
   rw [BitVec.toNat_and, BitVec.toNat_ofInt, BitVec.toNat_ofInt]
   have : ((1 : Int) % ((2 ^ 8 : Nat) : Int)).toNat = 1 := by decide
   rw [this, Nat.and_one_is_mod]
   omega
  simp only [e]
  have hw : ∀ b : Int, 0 ≤ b → b < 256 → IntKind.u8.wrap b = b := fun b h0 h1 => by
   simp [IntKind.wrap, IntKind.bits, IntKind.signed]; omega
  exact hw _ (by omega) (by omega)
 rw [h]
 unfold wrap64
 omega

theorem bit_num (ks : List Nat) (h : Int) (h0 : 0 ≤ h) (h1 : h < 256) :
  wrap64 (bits BinOp.and .u8 (((ks[((255 - h) / 8).toNat]?.getD 0 : Nat) : Int) / 2 ^ (7 - (255 - h) % 8).toNat) 1) = (bitAt ks h.toNat : Nat) := by
 have e1 : ((255 - h) / 8).toNat = 31 - h.toNat / 8 := by omega
 have e2 : (7 - (255 - h) % 8).toNat = h.toNat % 8 := by omega
 rw [e1, e2]
 have e3 : (((ks[31 - h.toNat / 8]?.getD 0 : Nat) : Int) / 2 ^ (h.toNat % 8)) = ((ks[31 - h.toNat / 8]?.getD 0 / 2 ^ (h.toNat % 8) : Nat) : Int) := by
  rw [Int.natCast_ediv, Int.natCast_pow]; rfl
 rw [e3, wrap_bit]
 unfold bitAt
 rw [List.getD_eq_getElem?_getD]

theorem bit_in (ks : List Nat) (h : Int) (w : World) (hk : ks.length = 32) (h0 : 0 ≤ h) (h1 : h < 256) :
  Calls Tryz.prog 51 #[arr ks, .int .i64 h] w fun e w' => e = .returned (.int .i64 (bitAt ks h.toNat : Nat)) ∧ w' = w.alloc (.cells (bcells ks).toArray 27) := by
 unfold arr
 have hc := cell_bcells (w := w) (ks := ks) (i := ((255 - h) / 8).toNat) (t := 27) (by omega)
 have hlen : (bcells ks).length = 32 := by rw [bcells_length, hk]
 have HN := Lib.hid (bit_num ks h h0 h1)
 clear hk
 go_enter Tryz.func51, Tryz.ntmps51
 go_wp2
 go_ret
 exact ⟨ret_int HN.out, rfl⟩
end Go.Proofs.YtknfbccbdiidjaaGreatDoor

/- The walk of the reference's Bit. -/
namespace Go.Proofs.YtknfbccbdiidjaaGreatDoor
set_option linter.unusedVariables false
set_option linter.unusedSimpArgs false
open Go.ChangeShapes Go.WideShapes Go.ChangeAt Go.RowKit


end Go.Proofs.YtknfbccbdiidjaaGreatDoor

