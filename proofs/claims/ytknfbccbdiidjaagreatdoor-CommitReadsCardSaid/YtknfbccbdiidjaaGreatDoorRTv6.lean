/- The walk of tlv's Read. -/
import Derived.Test.YtknfbccbdiidjaaGreatDoorWs
import Derived.Test.YtknfbccbdiidjaaGreatDoorRTv2
namespace Go.Proofs.YtknfbccbdiidjaaGreatDoor
set_option linter.unusedVariables false
set_option linter.unusedSimpArgs false
open Go.ChangeShapes Go.WideShapes Go.ChangeAt Go.RowKit Go.Maps

def rdW (c : Nat) : Nat := if c = 253 then 2 else if c = 254 then 4 else if c = 255 then 8 else 0
def rdL (n : Nat) : Nat := if n = 2 then 253 else if n = 4 then 65536 else 4294967296
def rdB (b : List Nat) : Except Nat (Nat × Nat) :=
 match b with
 | [] => .error 20
 | c :: r => if rdW c = 0 then .ok (c, 1) else if r.length < rdW c then .error 20 else if numB (r.take (rdW c)) < rdL (rdW c) then .error 21 else .ok (numB (r.take (rdW c)), rdW c + 1)
def rdX : Except Nat (Nat × Nat) → Nat × Nat × Nat
 | .error e => (0, 0, e)
 | .ok p => (p.1, p.2, 0)
set_option maxRecDepth 100000 in
theorem or_byteT (x c : Nat) (hc : c < 256) (hx : x * 256 + c < 18446744073709551616) : bits BinOp.or .u64 ((x : Int) * 256) (c : Int) = ((x * 256 + c : Nat) : Int) := by
 rw [show ((x : Int) * 256) = ((x * 256 : Nat) : Int) by omega]
 have h1 : x * 256 ||| c = x * 256 + c := by
  have := Nat.shiftLeft_add_eq_or_of_lt (i := 8) (b := c) (by omega) x
  rw [Nat.shiftLeft_eq] at this
  exact this.symm
 unfold bits
 have e : (BitVec.ofInt IntKind.u64.bits ((x * 256 : Nat) : Int) ||| BitVec.ofInt IntKind.u64.bits (c : Int)).toNat = x * 256 + c := by
  show (BitVec.ofInt 64 ((x * 256 : Nat) : Int) ||| BitVec.ofInt 64 (c : Int)).toNat = x * 256 + c
  rw [BitVec.ofInt_natCast, BitVec.ofInt_natCast, BitVec.toNat_or, BitVec.toNat_ofNat, BitVec.toNat_ofNat, Nat.mod_eq_of_lt (by omega), Nat.mod_eq_of_lt (by omega), h1]
 simp only [e]
 rw [IntKind.wrap_u64]; omega
theorem Bytes.openT {w : World} {a : Option Addr} {n c : Nat} {l : List Nat} (h : Bytes w w.heap.size (.slice a n c) l) : n = l.length ∧ n ≤ c ∧ (∀ x ∈ l, x < 256) ∧
  (0 < n → ∃ bg bo, a = some ⟨bg, bo, none⟩ ∧ bg < w.heap.size ∧ ∀ i, i < n → w.cell? ⟨bg, bo + i, none⟩ = some (.int .u8 (l.getD i 0 : Nat))) := by
 obtain ⟨a', c', e, h1, h2, h3⟩ := h
 injection e with e1 e2 e3
 subst e1 e2 e3
 refine ⟨rfl, h1, h2, fun h0 => ?_⟩
 obtain ⟨bg, bo, e, _, hc⟩ := h3 h0
 exact ⟨bg, bo, e, World.block_lt_of_cell? w _ (hc 0 h0), hc⟩
theorem slice_one (bg bo L cv n : Nat) (h1 : n < L) (h2 : L ≤ cv) (hn : 0 < n) (w : World) : (Instr.slice 48 (.slice (some ⟨bg, bo, none⟩) L cv) (some (.int .i64 1)) (some (.int .i64 ((n : Int) + 1))) none).run Tryz.prog w = .ok (.slice (some ⟨bg, bo + 1, none⟩) n (cv - 1)) w := by
 have hu : Tryz.prog.underlying 48 = some (.slice (Tryz.prog.elem 48)) := by kernel_rfl
 have he : Tryz.prog.elem 48 = 5 := by kernel_rfl
 have hz : ∀ w, (sizeOf 5).run Tryz.prog w = .ok 1 w := fun w => by kernel_rfl
 rw [run_slice_lh w 48 _ L cv hu .i64 .i64 1 ((n : Int) + 1) (by omega) (by omega) (by omega), he, hz]
 have e2 : ((n : Int) + 1).toNat = n + 1 := by omega
 simp only [Result.andThen, sliced, e2]
 rw [if_neg (by simp; omega), Option.map_some, Addr.add_mid]
 simp
theorem at_byte (b o n c k : Nat) (hk : k < n) (w : World) : (Instr.indexAt 48 (.slice (some ⟨b, o, none⟩) n c) (.int .i64 (k : Int))).run Tryz.prog w = .ok (.pointer (some ⟨b, o + k, none⟩)) w := by
 have hu : Tryz.prog.underlying 48 = some (.slice (Tryz.prog.elem 48)) := by kernel_rfl
 have he : Tryz.prog.elem 48 = 5 := by kernel_rfl
 have hz : ∀ w, (sizeOf 5).run Tryz.prog w = .ok 1 w := fun w => by kernel_rfl
 rw [run_indexAt_slice w 48 ⟨b, o, none⟩ n c .i64 (k : Int) hu, if_pos ⟨by omega, by omega⟩, he, hz]
 simp only [Result.andThen, Int.toNat_natCast, Nat.mul_one, Addr.add_mid]
theorem numB_take {l : List Nat} (hl : ∀ y ∈ l, y < 256) (j : Nat) (hj : j ≤ 7) : numB (l.take j) < 72057594037927936 := by
 have h1 := numB_lt (l.take j) (fun y hy => hl y (List.mem_of_mem_take hy))
 have h2 : (l.take j).length ≤ 7 := by rw [List.length_take]; omega
 have h3 : 256 ^ (l.take j).length ≤ 256 ^ 7 := Nat.pow_le_pow_right (by decide) h2
 exact Nat.lt_of_lt_of_le h1 h3
set_option maxRecDepth 100000 in
set_option maxHeartbeats 2000000 in
theorem read_is (w : World) (a : Option Addr) (L cv : Nat) (b : List Nat) (hb : Bytes w w.heap.size (.slice a L cv) b) (hL : L ≤ 9223372036854775807) (R : Nat × Nat × Nat) (hR : R = rdX (rdB b)) :
   Calls Tryz.prog 96 #[.slice a L cv] w fun e w' => e = .returned (.tuple #[.int .u64 (R.1 : Int), .int .i64 (R.2.1 : Int), .int .i64 (R.2.2 : Int)]) ∧ w' = w := by
 obtain ⟨hl, hlc, hlt, hop⟩ := hb.openT
 have ER := Lib.hid hR
 clear hb hR
 cases b with
 | nil =>
   have h0 : ((L : Int) == 0) = true := by rw [beq_iff_eq]; have h1 : L = 0 := hl; omega
   clear hl hlc
   have HE := Lib.hid (show R = (0, 0, 20) from ER.out)
   clear ER hop
   go_enter Tryz.func96, Tryz.ntmps96
   go_wp2_with fail
   go_ret3
   rw [HE.out]
   exact ⟨rfl, rfl⟩
 | cons c r =>
 have hl1 : L = r.length + 1 := hl
 obtain ⟨bg, bo, rfl, hbg, hc⟩ := hop (by omega)
 have hL0 : ((L : Int) == 0) = false := by rw [beq_eq_false_iff_ne]; omega
 have c0 : w.cell? ⟨bg, bo, none⟩ = some (.int .u8 (c : Int)) := hc 0 (by omega)
 have hc256 : c < 256 := hlt c (List.mem_cons_self ..)
 have hi0 : ∀ v, (Instr.indexAt 48 (.slice (some ⟨bg, bo, none⟩) L cv) (.int .i64 0)).run Tryz.prog v = .ok (.pointer (some ⟨bg, bo, none⟩)) v := fun v => by
   have hu : Tryz.prog.underlying 48 = some (.slice (Tryz.prog.elem 48)) := by kernel_rfl
   have he : Tryz.prog.elem 48 = 5 := by kernel_rfl
   have hz : ∀ w, (sizeOf 5).run Tryz.prog w = .ok 1 w := fun w => by kernel_rfl
   rw [run_indexAt_slice v 48 ⟨bg, bo, none⟩ L cv .i64 0 hu, if_pos ⟨by omega, by omega⟩, he, hz]
   simp [Result.andThen, Addr.add_mid]
 have HCR := Lib.hid (show ∀ j, j < r.length → w.cell? ⟨bg, bo + 1 + j, none⟩ = some (.int .u8 (r.getD j 0 : Nat)) from fun j hj => by
   have := hc (j + 1) (by omega)
   rw [show bo + 1 + j = bo + (j + 1) by omega]
   exact this)
 have HRT := Lib.hid (show ∀ y ∈ r, y < 256 from fun y hy => hlt y (List.mem_cons_of_mem _ hy))
 clear hc hop hlt hl
 by_cases hs : c < 253
 · have d1 : ((c : Int) == 253) = false := by rw [beq_eq_false_iff_ne]; omega
   have d2 : ((c : Int) == 254) = false := by rw [beq_eq_false_iff_ne]; omega
   have d3 : ((c : Int) == 255) = false := by rw [beq_eq_false_iff_ne]; omega
   have HE := Lib.hid (show R = (c, 1, 0) by
     have hw0 : rdW c = 0 := by unfold rdW; rw [if_neg (by omega), if_neg (by omega), if_neg (by omega)]
     rw [ER.out]
     simp [rdB, hw0, rdX])
   have hw : IntKind.u64.wrap (c : Int) = (c : Int) := by rw [IntKind.wrap_u64]; omega
   clear ER hs
   go_enter Tryz.func96, Tryz.ntmps96
   go_wp2_with fail
   go_ret3
   rw [HE.out]
   exact ⟨rfl, rfl⟩
 by_cases hs253 : c = 253
 · subst hs253
   have hrd : rdB (253 :: r) = if r.length < 2 then .error 20 else if numB (r.take 2) < 253 then .error 21 else .ok (numB (r.take 2), 3) := rfl
   rw [hrd] at ER
   clear hrd
   by_cases hsh : r.length < 2
   · have HE := Lib.hid (show R = (0, 0, 20) by rw [ER.out, if_pos hsh]; rfl)
     have hle : (L : Int) ≤ 2 := by omega
     clear ER hsh
     go_enter Tryz.func96, Tryz.ntmps96
     go_wp2_with fail
     go_ret3
     rw [HE.out]
     exact ⟨rfl, rfl⟩
   · have hle : ¬ (L : Int) ≤ 2 := by omega
     have hsl := slice_one bg bo L cv 2 (by omega) hlc (by decide)
     have HX := Lib.hid (show R = rdX (if numB (r.take 2) < 253 then .error 21 else .ok (numB (r.take 2), 3)) by rw [ER.out, if_neg hsh])
     have HLN := Lib.hid (show 2 ≤ r.length by omega)
     clear ER hsh
     go_enter Tryz.func96, Tryz.ntmps96
     go_wp2_with fail
     go_loop [7, 35] (fun xv iv => ∃ j : Nat, iv = .int .i64 (j : Int) ∧ j ≤ 2 ∧ xv = .int .u64 (numB (r.take j) : Int)) (fun _ iv => 2 - (intOf iv).toNat)
     case atStart => exact ⟨0, rfl, by decide, rfl⟩
     case round =>
       obtain ⟨j, rfl, hj, rfl⟩ := hrel
       by_cases hj8 : j < 2
       · have hj8' : (j : Int) < 2 := by omega
         have hjr : j < r.length := by have := HLN.out; omega
         have cb := HCR.out j hjr
         have hct := HRT.out (r.getD j 0) (by rw [List.getD_eq_getElem?_getD, List.getElem?_eq_getElem hjr]; exact List.getElem_mem _)
         obtain ⟨ct, hce⟩ : ∃ z, z = r.getD j 0 := ⟨_, rfl⟩
         rw [← hce] at cb hct
         obtain ⟨x, hxe⟩ : ∃ z, z = numB (r.take j) := ⟨_, rfl⟩
         have hx7 : x < 72057594037927936 := by rw [hxe]; exact numB_take HRT.out j (by omega)
         have HNX := Lib.hid (show numB (r.take (j + 1)) = x * 256 + ct by rw [List.take_add_one, List.getElem?_eq_getElem hjr]; show numB (r.take j ++ [r[j]]) = _; rw [numB_snoc, ← hxe, hce, List.getD_eq_getElem?_getD, List.getElem?_eq_getElem hjr]; rfl)
         rw [← hxe]
         obtain ⟨y, hy⟩ : ∃ y, y = x * 256 + ct := ⟨_, rfl⟩
         have hor := or_byteT x ct hct (by omega)
         rw [← hy] at hor HNX
         have hat : ∀ v, (Instr.indexAt 48 (.slice (some ⟨bg, bo + 1, none⟩) 2 (cv - 1)) (.int .i64 (j : Int))).run Tryz.prog v = .ok (.pointer (some ⟨bg, bo + 1 + j, none⟩)) v := fun v => at_byte bg (bo + 1) 2 (cv - 1) j hj8 v
         clear hce hxe hy
         go_wp2_with fail
         go_round
         case rel => exact ⟨j + 1, by go_num, by omega, by rw [HNX.out]⟩
         case measure => simp [intOf]; omega
       · obtain rfl : j = 2 := by omega
         obtain ⟨x, hxe⟩ : ∃ z, z = numB (r.take 2) := ⟨_, rfl⟩
         rw [← hxe] at HX ⊢
         clear hxe
         by_cases hlt2 : x < 253
         · have hlt2' : (x : Int) < 253 := by omega
           have HE := Lib.hid (show R = (0, 0, 21) by rw [HX.out, if_pos hlt2]; rfl)
           clear HX hlt2
           go_wp2_with fail
           go_ret3
           rw [HE.out]
           exact ⟨rfl, rfl⟩
         · have hlt2' : ¬ (x : Int) < 253 := by omega
           have HE := Lib.hid (show R = (x, 3, 0) by rw [HX.out, if_neg hlt2]; rfl)
           clear HX hlt2
           go_wp2_with fail
           go_ret3
           rw [HE.out]
           exact ⟨rfl, rfl⟩
 by_cases hs254 : c = 254
 · subst hs254
   have hrd : rdB (254 :: r) = if r.length < 4 then .error 20 else if numB (r.take 4) < 65536 then .error 21 else .ok (numB (r.take 4), 5) := rfl
   rw [hrd] at ER
   clear hrd
   by_cases hsh : r.length < 4
   · have HE := Lib.hid (show R = (0, 0, 20) by rw [ER.out, if_pos hsh]; rfl)
     have hle : (L : Int) ≤ 4 := by omega
     clear ER hsh
     go_enter Tryz.func96, Tryz.ntmps96
     go_wp2_with fail
     go_ret3
     rw [HE.out]
     exact ⟨rfl, rfl⟩
   · have hle : ¬ (L : Int) ≤ 4 := by omega
     have hsl := slice_one bg bo L cv 4 (by omega) hlc (by decide)
     have HX := Lib.hid (show R = rdX (if numB (r.take 4) < 65536 then .error 21 else .ok (numB (r.take 4), 5)) by rw [ER.out, if_neg hsh])
     have HLN := Lib.hid (show 4 ≤ r.length by omega)
     clear ER hsh
     go_enter Tryz.func96, Tryz.ntmps96
     go_wp2_with fail
     go_loop [7, 35] (fun xv iv => ∃ j : Nat, iv = .int .i64 (j : Int) ∧ j ≤ 4 ∧ xv = .int .u64 (numB (r.take j) : Int)) (fun _ iv => 4 - (intOf iv).toNat)
     case atStart => exact ⟨0, rfl, by decide, rfl⟩
     case round =>
       obtain ⟨j, rfl, hj, rfl⟩ := hrel
       by_cases hj8 : j < 4
       · have hj8' : (j : Int) < 4 := by omega
         have hjr : j < r.length := by have := HLN.out; omega
         have cb := HCR.out j hjr
         have hct := HRT.out (r.getD j 0) (by rw [List.getD_eq_getElem?_getD, List.getElem?_eq_getElem hjr]; exact List.getElem_mem _)
         obtain ⟨ct, hce⟩ : ∃ z, z = r.getD j 0 := ⟨_, rfl⟩
         rw [← hce] at cb hct
         obtain ⟨x, hxe⟩ : ∃ z, z = numB (r.take j) := ⟨_, rfl⟩
         have hx7 : x < 72057594037927936 := by rw [hxe]; exact numB_take HRT.out j (by omega)
         have HNX := Lib.hid (show numB (r.take (j + 1)) = x * 256 + ct by rw [List.take_add_one, List.getElem?_eq_getElem hjr]; show numB (r.take j ++ [r[j]]) = _; rw [numB_snoc, ← hxe, hce, List.getD_eq_getElem?_getD, List.getElem?_eq_getElem hjr]; rfl)
         rw [← hxe]
         obtain ⟨y, hy⟩ : ∃ y, y = x * 256 + ct := ⟨_, rfl⟩
         have hor := or_byteT x ct hct (by omega)
         rw [← hy] at hor HNX
         have hat : ∀ v, (Instr.indexAt 48 (.slice (some ⟨bg, bo + 1, none⟩) 4 (cv - 1)) (.int .i64 (j : Int))).run Tryz.prog v = .ok (.pointer (some ⟨bg, bo + 1 + j, none⟩)) v := fun v => at_byte bg (bo + 1) 4 (cv - 1) j hj8 v
         clear hce hxe hy
         go_wp2_with fail
         go_round
         case rel => exact ⟨j + 1, by go_num, by omega, by rw [HNX.out]⟩
         case measure => simp [intOf]; omega
       · obtain rfl : j = 4 := by omega
         obtain ⟨x, hxe⟩ : ∃ z, z = numB (r.take 4) := ⟨_, rfl⟩
         rw [← hxe] at HX ⊢
         clear hxe
         by_cases hlt2 : x < 65536
         · have hlt2' : (x : Int) < 65536 := by omega
           have HE := Lib.hid (show R = (0, 0, 21) by rw [HX.out, if_pos hlt2]; rfl)
           clear HX hlt2
           go_wp2_with fail
           go_ret3
           rw [HE.out]
           exact ⟨rfl, rfl⟩
         · have hlt2' : ¬ (x : Int) < 65536 := by omega
           have HE := Lib.hid (show R = (x, 5, 0) by rw [HX.out, if_neg hlt2]; rfl)
           clear HX hlt2
           go_wp2_with fail
           go_ret3
           rw [HE.out]
           exact ⟨rfl, rfl⟩
 have hs255 : c = 255 := by omega
 subst hs255
 have hrd : rdB (255 :: r) = if r.length < 8 then .error 20 else if numB (r.take 8) < 4294967296 then .error 21 else .ok (numB (r.take 8), 9) := rfl
 rw [hrd] at ER
 clear hrd
 by_cases hsh : r.length < 8
 · have HE := Lib.hid (show R = (0, 0, 20) by rw [ER.out, if_pos hsh]; rfl)
   have hle : (L : Int) ≤ 8 := by omega
   clear ER hsh
   go_enter Tryz.func96, Tryz.ntmps96
   go_wp2_with fail
   go_ret3
   rw [HE.out]
   exact ⟨rfl, rfl⟩
 · have hle : ¬ (L : Int) ≤ 8 := by omega
   have hsl := slice_one bg bo L cv 8 (by omega) hlc (by decide)
   have HX := Lib.hid (show R = rdX (if numB (r.take 8) < 4294967296 then .error 21 else .ok (numB (r.take 8), 9)) by rw [ER.out, if_neg hsh])
   have HLN := Lib.hid (show 8 ≤ r.length by omega)
   clear ER hsh
   go_enter Tryz.func96, Tryz.ntmps96
   go_wp2_with fail
   go_loop [7, 35] (fun xv iv => ∃ j : Nat, iv = .int .i64 (j : Int) ∧ j ≤ 8 ∧ xv = .int .u64 (numB (r.take j) : Int)) (fun _ iv => 8 - (intOf iv).toNat)
   case atStart => exact ⟨0, rfl, by decide, rfl⟩
   case round =>
     obtain ⟨j, rfl, hj, rfl⟩ := hrel
     by_cases hj8 : j < 8
     · have hj8' : (j : Int) < 8 := by omega
       have hjr : j < r.length := by have := HLN.out; omega
       have cb := HCR.out j hjr
       have hct := HRT.out (r.getD j 0) (by rw [List.getD_eq_getElem?_getD, List.getElem?_eq_getElem hjr]; exact List.getElem_mem _)
       obtain ⟨ct, hce⟩ : ∃ z, z = r.getD j 0 := ⟨_, rfl⟩
       rw [← hce] at cb hct
       obtain ⟨x, hxe⟩ : ∃ z, z = numB (r.take j) := ⟨_, rfl⟩
       have hx7 : x < 72057594037927936 := by rw [hxe]; exact numB_take HRT.out j (by omega)
       have HNX := Lib.hid (show numB (r.take (j + 1)) = x * 256 + ct by rw [List.take_add_one, List.getElem?_eq_getElem hjr]; show numB (r.take j ++ [r[j]]) = _; rw [numB_snoc, ← hxe, hce, List.getD_eq_getElem?_getD, List.getElem?_eq_getElem hjr]; rfl)
       rw [← hxe]
       obtain ⟨y, hy⟩ : ∃ y, y = x * 256 + ct := ⟨_, rfl⟩
       have hor := or_byteT x ct hct (by omega)
       rw [← hy] at hor HNX
       have hat : ∀ v, (Instr.indexAt 48 (.slice (some ⟨bg, bo + 1, none⟩) 8 (cv - 1)) (.int .i64 (j : Int))).run Tryz.prog v = .ok (.pointer (some ⟨bg, bo + 1 + j, none⟩)) v := fun v => at_byte bg (bo + 1) 8 (cv - 1) j hj8 v
       clear hce hxe hy
       go_wp2_with fail
       go_round
       case rel => exact ⟨j + 1, by go_num, by omega, by rw [HNX.out]⟩
       case measure => simp [intOf]; omega
     · obtain rfl : j = 8 := by omega
       obtain ⟨x, hxe⟩ : ∃ z, z = numB (r.take 8) := ⟨_, rfl⟩
       rw [← hxe] at HX ⊢
       clear hxe
       by_cases hlt2 : x < 4294967296
       · have hlt2' : (x : Int) < 4294967296 := by omega
         have HE := Lib.hid (show R = (0, 0, 21) by rw [HX.out, if_pos hlt2]; rfl)
         clear HX hlt2
         go_wp2_with fail
         go_ret3
         rw [HE.out]
         exact ⟨rfl, rfl⟩
       · have hlt2' : ¬ (x : Int) < 4294967296 := by omega
         have HE := Lib.hid (show R = (x, 9, 0) by rw [HX.out, if_neg hlt2]; rfl)
         clear HX hlt2
         go_wp2_with fail
         go_ret3
         rw [HE.out]
         exact ⟨rfl, rfl⟩
end Go.Proofs.YtknfbccbdiidjaaGreatDoor
/- The plain law of decoding: numbers and records, back and forth. -/
namespace Go.Proofs.YtknfbccbdiidjaaGreatDoor
set_option linter.unusedVariables false
set_option linter.unusedSimpArgs false

theorem rdW_vals {c : Nat} (h : rdW c ≠ 0) : (c = 253 ∧ rdW c = 2) ∨ (c = 254 ∧ rdW c = 4) ∨ (c = 255 ∧ rdW c = 8) := by
 unfold rdW at h ⊢
 by_cases h1 : c = 253
 · rw [if_pos h1]; exact .inl ⟨h1, rfl⟩
 · rw [if_neg h1] at h ⊢
   by_cases h2 : c = 254
   · rw [if_pos h2]; exact .inr (.inl ⟨h2, rfl⟩)
   · rw [if_neg h2] at h ⊢
     by_cases h3 : c = 255
     · rw [if_pos h3]; exact .inr (.inr ⟨h3, rfl⟩)
     · rw [if_neg h3] at h; exact absurd rfl h
theorem sz_rd {b : List Nat} (hb : ∀ y ∈ b, y < 256) {x n : Nat} (h : rdB b = .ok (x, n)) : n = (szB x).length ∧ b = szB x ++ b.drop n ∧ x < 18446744073709551616 := by
 cases b with
 | nil => cases h
 | cons c r =>
  have hc := hb c (List.mem_cons_self ..)
  have hr : ∀ y ∈ r, y < 256 := fun y hy => hb y (List.mem_cons_of_mem _ hy)
  unfold rdB at h
  by_cases hw : rdW c = 0
  · simp only [hw, if_true] at h
    cases h
    have hlt : x < 253 := by
      unfold rdW at hw
      split at hw
      · cases hw
      · split at hw
        · cases hw
        · split at hw
          · cases hw
          · omega
    have e : szB x = [x] := by unfold szB; rw [if_pos hlt]
    rw [e]
    exact ⟨rfl, rfl, by omega⟩
  · simp only [hw, if_false] at h
    split at h
    · cases h
    · rename_i hlen
      split at h
      · cases h
      · rename_i hleast
        cases h
        have htl : (r.take (rdW c)).length = rdW c := by rw [List.length_take]; omega
        have hnl := numB_lt (r.take (rdW c)) (fun y hy => hr y (List.mem_of_mem_take hy))
        have hbg := big_numB (r.take (rdW c)) (fun y hy => hr y (List.mem_of_mem_take hy))
        rw [htl] at hnl hbg
        have hsplit : r = r.take (rdW c) ++ r.drop (rdW c) := (List.take_append_drop _ _).symm
        generalize hxx : numB (r.take (rdW c)) = x at hnl hbg hleast ⊢
        rcases rdW_vals hw with ⟨rfl, e⟩ | ⟨rfl, e⟩ | ⟨rfl, e⟩
        · rw [e] at hnl hbg hleast hsplit ⊢
          have h1 : x < 65536 := hnl
          have h2 : ¬ x < 253 := hleast
          have es : szB x = 253 :: bigN x 2 := by unfold szB; rw [if_neg h2, if_pos h1]
          rw [es, hbg]
          refine ⟨by rw [List.length_cons, ← hbg, bigN_len], ?_, by omega⟩
          show 253 :: r = 253 :: (r.take 2 ++ r.drop 2)
          rw [← hsplit]
        · rw [e] at hnl hbg hleast hsplit ⊢
          have h1 : x < 4294967296 := hnl
          have h2 : ¬ x < 65536 := hleast
          have es : szB x = 254 :: bigN x 4 := by unfold szB; rw [if_neg (by omega), if_neg h2, if_pos h1]
          rw [es, hbg]
          refine ⟨by rw [List.length_cons, ← hbg, bigN_len], ?_, by omega⟩
          show 254 :: r = 254 :: (r.take 4 ++ r.drop 4)
          rw [← hsplit]
        · rw [e] at hnl hbg hleast hsplit ⊢
          have h1 : x < 18446744073709551616 := hnl
          have h2 : ¬ x < 4294967296 := hleast
          have es : szB x = 255 :: bigN x 8 := by unfold szB; rw [if_neg (by omega), if_neg (by omega), if_neg h2]
          rw [es, hbg]
          refine ⟨by rw [List.length_cons, ← hbg, bigN_len], ?_, h1⟩
          show 255 :: r = 255 :: (r.take 8 ++ r.drop 8)
          rw [← hsplit]
end Go.Proofs.YtknfbccbdiidjaaGreatDoor
/- The plain law of decoding: records, back and forth. -/
namespace Go.Proofs.YtknfbccbdiidjaaGreatDoor
set_option linter.unusedVariables false
set_option linter.unusedSimpArgs false

def lastT (acc : List Rec) : Nat := (acc[acc.length - 1]?.map (·.t)).getD 0
def decS (acc : List Rec) (b : List Nat) : Except Nat (List Rec × List Nat) :=
 match rdB b with
 | .error e => .error e
 | .ok p => if 0 < acc.length ∧ p.1 ≤ lastT acc then .error 22 else
  match rdB (b.drop p.2) with
  | .error e => .error e
  | .ok q => if 65536 < q.1 then .error 3 else if ((b.drop p.2).drop q.2).length < q.1 then .error 20 else if acc.length = 256 then .error 4
   else .ok (acc ++ [⟨p.1, ((b.drop p.2).drop q.2).take q.1⟩], ((b.drop p.2).drop q.2).drop q.1)
def decF : Nat → List Rec → List Nat → Except Nat (List Rec)
 | 0, _, _ => .error 0
 | f + 1, acc, b => if b = [] then .ok acc else match decS acc b with
  | .error e => .error e
  | .ok p => decF f p.1 p.2
def tdec (b : List Nat) : Except Nat (List Rec) := decF (b.length + 1) [] b
theorem recE_app {acc ys : List Rec} {k : Nat} {r : Rec} (hk : k ≤ acc.length) : recE (acc ++ ys) k r = recE acc k r := by
 unfold recE
 by_cases h : 0 < k
 · rw [List.getElem?_append_left (by omega)]
 · simp only [h, false_and, if_false]
theorem tvAt_app {acc ys : List Rec} : ∀ (k : Nat), k ≤ acc.length → tvAt (acc ++ ys) k = tvAt acc k
 | 0, _ => rfl
 | k + 1, hk => by
  have ih := tvAt_app (acc := acc) (ys := ys) k (by omega)
  cases c : tvAt acc k with
  | error e => rw [tvAt_up c, tvAt_up (ih.trans c)]
  | ok b =>
   have hr : acc[k]? = some acc[k] := List.getElem?_eq_getElem (by omega)
   have hr' : (acc ++ ys)[k]? = some acc[k] := by rw [List.getElem?_append_left (by omega)]; exact hr
   rw [tvAt_succ c hr, tvAt_succ (ih.trans c) hr', recE_app (by omega)]
theorem decS_ok {acc acc' : List Rec} {b b' : List Nat} (hb : ∀ y ∈ b, y < 256) (h : decS acc b = .ok (acc', b')) :
  ∃ r, acc' = acc ++ [r] ∧ b = recB r ++ b' ∧ r.t < 18446744073709551616 ∧ recE acc acc.length r = 0 ∧ ¬ acc.length = 256 := by
 unfold decS at h
 cases h1 : rdB b with
 | error e => rw [h1] at h; cases h
 | ok p =>
  rw [h1] at h
  dsimp only at h
  split at h
  · cases h
  · rename_i hord
    cases h2 : rdB (b.drop p.2) with
    | error e => rw [h2] at h; cases h
    | ok q =>
     rw [h2] at h
     dsimp only at h
     split at h
     · cases h
     · rename_i hlong
       split at h
       · cases h
       · rename_i hshort
         split at h
         · cases h
         · rename_i hmany
           have e := Except.ok.inj h
           injection e with e1 e2
           obtain ⟨a1, a2, a3⟩ := sz_rd hb (x := p.1) (n := p.2) h1
           obtain ⟨c1, c2, c3⟩ := sz_rd (fun y hy => hb y (List.mem_of_mem_drop hy)) (x := q.1) (n := q.2) h2
           have hlv : (((b.drop p.2).drop q.2).take q.1).length = q.1 := by rw [List.length_take]; omega
           refine ⟨_, e1.symm, ?_, a3, ?_, hmany⟩
           · unfold recB
             dsimp only
             rw [hlv, ← e2, List.append_assoc, List.append_assoc, List.take_append_drop, ← c2, ← a2]
           · unfold recE
             dsimp only
             rw [hlv, if_neg, if_neg hlong]
             intro hc
             exact hord ⟨hc.1, hc.2⟩
theorem decF_ok : ∀ (f : Nat) (acc rs : List Rec) (b pre : List Nat), (∀ y ∈ b, y < 256) → tvAt acc acc.length = .ok pre → acc.length ≤ 256 → (∀ r ∈ acc, r.t < 18446744073709551616) → decF f acc b = .ok rs →
  tvAt rs rs.length = .ok (pre ++ b) ∧ rs.length ≤ 256 ∧ ∀ r ∈ rs, r.t < 18446744073709551616
 | 0, acc, rs, b, pre, _, _, _, _, h => by cases h
 | f + 1, acc, rs, b, pre, hb, hp, hl, ht, h => by
  unfold decF at h
  by_cases h0 : b = []
  · rw [if_pos h0] at h
    cases h
    rw [h0, List.append_nil]
    exact ⟨hp, hl, ht⟩
  · rw [if_neg h0] at h
    cases hs : decS acc b with
    | error e => rw [hs] at h; cases h
    | ok p =>
     rw [hs] at h
     dsimp only at h
     obtain ⟨r, e1, e2, e3, e4, e5⟩ := decS_ok hb (acc' := p.1) (b' := p.2) hs
     have hat : tvAt p.1 p.1.length = .ok (pre ++ recB r) := by
      rw [e1, List.length_append]
      show tvAt (acc ++ [r]) (acc.length + 1) = _
      rw [tvAt_succ (b := pre) (r := r) ((tvAt_app acc.length (Nat.le_refl _)).trans hp) (by simp), recE_app (Nat.le_refl _), if_pos e4]
     have := decF_ok f p.1 rs p.2 (pre ++ recB r) (fun y hy => hb y (by rw [e2]; exact List.mem_append_right _ hy)) hat (by rw [e1, List.length_append]; show acc.length + 1 ≤ 256; omega) (fun x hx => by
      rw [e1] at hx
      rcases List.mem_append.1 hx with q | q
      · exact ht x q
      · rw [List.mem_singleton.1 q]; exact e3) h
     rw [List.append_assoc, ← e2] at this
     exact this
theorem enc_dec {b : List Nat} {rs : List Rec} (hb : ∀ y ∈ b, y < 256) (h : tdec b = .ok rs) : tvEnc rs = .ok b ∧ rs.length ≤ 256 ∧ ∀ r ∈ rs, r.t < 18446744073709551616 := by
 obtain ⟨h1, h2, h3⟩ := decF_ok (b.length + 1) [] rs b [] hb rfl (Nat.zero_le _) (fun r hr => by cases hr) h
 exact ⟨by unfold tvEnc; rw [if_neg (by omega)]; exact h1, h2, h3⟩
theorem tvAt_flat {rs : List Rec} : ∀ (k : Nat) b, k ≤ rs.length → tvAt rs k = .ok b → b = (rs.take k).flatMap recB ∧ ∀ (i : Nat) r, i < k → rs[i]? = some r → recE rs i r = 0
 | 0, b, _, h => by cases h; exact ⟨rfl, fun i r hi => absurd hi (Nat.not_lt_zero i)⟩
 | k + 1, b, hk, h => by
  cases c : tvAt rs k with
  | error e => rw [tvAt_up c] at h; cases h
  | ok b0 =>
   obtain ⟨p1, p2⟩ := tvAt_flat k b0 (by omega) c
   have hr : rs[k]? = some rs[k] := List.getElem?_eq_getElem (by omega)
   rw [tvAt_succ c hr] at h
   split at h
   · rename_i h0
     cases h
     refine ⟨by rw [List.take_add_one, hr, List.flatMap_append, ← p1]; simp, fun i r hi hir => ?_⟩
     rcases Nat.lt_succ_iff_lt_or_eq.1 hi with q | q
     · exact p2 i r q hir
     · subst q
       rw [hr] at hir
       cases hir
       exact h0
   · cases h
end Go.Proofs.YtknfbccbdiidjaaGreatDoor
/- The walk of tlv's Decode. -/
namespace Go.Proofs.YtknfbccbdiidjaaGreatDoor
set_option linter.unusedVariables false
set_option linter.unusedSimpArgs false
open Go.ChangeShapes Go.WideShapes Go.ChangeAt Go.RowKit Go.Maps

theorem decF_stop {f : Nat} {acc : List Rec} {b : List Nat} (h : b = []) : decF (f + 1) acc b = .ok acc := by
 unfold decF
 rw [if_pos h]
theorem decF_err {f e : Nat} {acc : List Rec} {b : List Nat} (h : b ≠ []) (hs : decS acc b = .error e) : decF (f + 1) acc b = .error e := by
 unfold decF
 rw [if_neg h, hs]
theorem decF_step {f : Nat} {acc : List Rec} {b : List Nat} {p : List Rec × List Nat} (h : b ≠ []) (hs : decS acc b = .ok p) : decF (f + 1) acc b = decF f p.1 p.2 := by
 conv => lhs; unfold decF
 rw [if_neg h, hs]
theorem bytes_from {w : World} {a : Option Addr} {n c k : Nat} {l : List Nat} (h : Bytes w w.heap.size (.slice a n c) l) (hk : k ≤ n) : ∃ a', (∀ v : World, (Instr.slice 48 (.slice a n c) (some (.int .i64 (k : Int))) none none).run Tryz.prog v = .ok (.slice a' (n - k) (c - k)) v) ∧ Bytes w w.heap.size (.slice a' (n - k) (c - k)) (l.drop k) := by
 obtain ⟨h1, h2, h3, h4⟩ := h.openT
 have hu : Tryz.prog.underlying 48 = some (.slice (Tryz.prog.elem 48)) := by kernel_rfl
 have he : Tryz.prog.elem 48 = 5 := by kernel_rfl
 have hz : ∀ w, (sizeOf 5).run Tryz.prog w = .ok 1 w := fun w => by kernel_rfl
 refine ⟨if c = k then a else a.map fun x => x.add (k * 1), fun v => ?_, ?_⟩
 · rw [run_slice_l v 48 a n c hu .i64 (k : Int) (by omega) (by omega), he, hz]
   simp only [Result.andThen, sliced, Int.toNat_natCast]
 · refine ⟨_, _, by rw [List.length_drop, ← h1], by rw [List.length_drop, ← h1]; omega, fun x hx => h3 x (List.mem_of_mem_drop hx), fun hpos => ?_⟩
   rw [List.length_drop, ← h1] at hpos
   obtain ⟨bg, bo, rfl, hbg, hc⟩ := h4 (by omega)
   refine ⟨bg, bo + k, by rw [if_neg (by omega)]; simp [Addr.add_mid], by omega, fun i hi => ?_⟩
   rw [List.length_drop, ← h1] at hi
   have := hc (k + i) (by omega)
   rw [Nat.add_assoc, this]
   simp [List.getD_eq_getElem?_getD, List.getElem?_drop]
theorem bytes_upto {w : World} {a : Option Addr} {n c k : Nat} {l : List Nat} (h : Bytes w w.heap.size (.slice a n c) l) (hk : k ≤ n) : ∃ a', (∀ v : World, (Instr.slice 48 (.slice a n c) none (some (.int .u64 (k : Int))) none).run Tryz.prog v = .ok (.slice a' k c) v) ∧ Bytes w w.heap.size (.slice a' k c) (l.take k) := by
 obtain ⟨h1, h2, h3, h4⟩ := h.openT
 have hu : Tryz.prog.underlying 48 = some (.slice (Tryz.prog.elem 48)) := by kernel_rfl
 have he : Tryz.prog.elem 48 = 5 := by kernel_rfl
 have hz : ∀ w, (sizeOf 5).run Tryz.prog w = .ok 1 w := fun w => by kernel_rfl
 have hlt : (l.take k).length = k := by rw [List.length_take]; omega
 refine ⟨if c - 0 = 0 then a else a.map fun x => x.add (0 * 1), fun v => ?_, ?_⟩
 · rw [run_slice_h v 48 a n c hu .u64 (k : Int) (by omega) (by omega), he, hz]
   simp only [Result.andThen, sliced, Int.toNat_natCast, Nat.sub_zero]
 · refine ⟨_, _, by rw [hlt], by rw [hlt]; omega, fun x hx => h3 x (List.mem_of_mem_take hx), fun hpos => ?_⟩
   rw [hlt] at hpos
   obtain ⟨bg, bo, rfl, hbg, hc⟩ := h4 (by omega)
   refine ⟨bg, bo, by rw [if_neg (by omega)]; simp [Addr.add_mid], by omega, fun i hi => ?_⟩
   rw [hlt] at hi
   rw [hc i (by omega)]
   simp [List.getD_eq_getElem?_getD, List.getElem?_take, hi]
end Go.Proofs.YtknfbccbdiidjaaGreatDoor
