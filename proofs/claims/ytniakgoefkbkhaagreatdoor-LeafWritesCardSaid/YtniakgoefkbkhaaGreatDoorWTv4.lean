/- The walk of tlv's Read. -/
import Derived.Test.YtniakgoefkbkhaaGreatDoorWs
import Derived.Test.YtniakgoefkbkhaaGreatDoorWTv2
namespace Go.Proofs.YtniakgoefkbkhaaGreatDoor
set_option linter.unusedVariables false
set_option linter.unusedSimpArgs false
open Go.ChangeShapes Go.WideShapes Go.ChangeAt Go.RowKit Go.Maps

def rdW (c : Nat) : Nat := if c = 253 then 2 else if c = 254 then 4 else if c = 255 then 8 else 0
def rdL (n : Nat) : Nat := if n = 2 then 253 else if n = 4 then 65536 else 4294967296
def rdB (b : List Nat) : Except Nat (Nat × Nat) :=
 match b with
 | [] => .error 20
 | c :: r => if rdW c = 0 then .ok (c, 1) else if r.length < rdW c then .error 20 else if numB (r.take (rdW c)) < rdL (rdW c) then .error 21 else .ok (numB (r.take (rdW c)), rdW c + 1)
def rdX : Except Nat (Nat × Nat) → Nat × Nat × Nat
 | .error e => (0, 0, e)
 | .ok p => (p.1, p.2, 0)
set_option maxRecDepth 100000 in
theorem or_byteT (x c : Nat) (hc : c < 256) (hx : x * 256 + c < 18446744073709551616) : bits BinOp.or .u64 ((x : Int) * 256) (c : Int) = ((x * 256 + c : Nat) : Int) := by
 rw [show ((x : Int) * 256) = ((x * 256 : Nat) : Int) by omega]
 have h1 : x * 256 ||| c = x * 256 + c := by
  have := Nat.shiftLeft_add_eq_or_of_lt (i := 8) (b := c) (by omega) x
  rw [Nat.shiftLeft_eq] at this
  exact this.symm
 unfold bits
 have e : (BitVec.ofInt IntKind.u64.bits ((x * 256 : Nat) : Int) ||| BitVec.ofInt IntKind.u64.bits (c : Int)).toNat = x * 256 + c := by
  show (BitVec.ofInt 64 ((x * 256 : Nat) : Int) ||| BitVec.ofInt 64 (c : Int)).toNat = x * 256 + c
  rw [BitVec.ofInt_natCast, BitVec.ofInt_natCast, BitVec.toNat_or, BitVec.toNat_ofNat, BitVec.toNat_ofNat, Nat.mod_eq_of_lt (by omega), Nat.mod_eq_of_lt (by omega), h1]
 simp only [e]
 rw [IntKind.wrap_u64]; omega
theorem Bytes.openT {w : World} {a : Option Addr} {n c : Nat} {l : List Nat} (h : Bytes w w.heap.size (.slice a n c) l) : n = l.length ∧ n ≤ c ∧ (∀ x ∈ l, x < 256) ∧
  (0 < n → ∃ bg bo, a = some ⟨bg, bo, none⟩ ∧ bg < w.heap.size ∧ ∀ i, i < n → w.cell? ⟨bg, bo + i, none⟩ = some (.int .u8 (l.getD i 0 : Nat))) := by
 obtain ⟨a', c', e, h1, h2, h3⟩ := h
 injection e with e1 e2 e3
 subst e1 e2 e3
 refine ⟨rfl, h1, h2, fun h0 => ?_⟩
 obtain ⟨bg, bo, e, _, hc⟩ := h3 h0
 exact ⟨bg, bo, e, World.block_lt_of_cell? w _ (hc 0 h0), hc⟩
theorem slice_one (bg bo L cv n : Nat) (h1 : n < L) (h2 : L ≤ cv) (hn : 0 < n) (w : World) : (Instr.slice 54 (.slice (some ⟨bg, bo, none⟩) L cv) (some (.int .i64 1)) (some (.int .i64 ((n : Int) + 1))) none).run Tryz.prog w = .ok (.slice (some ⟨bg, bo + 1, none⟩) n (cv - 1)) w := by
 have hu : Tryz.prog.underlying 54 = some (.slice (Tryz.prog.elem 54)) := by kernel_rfl
 have he : Tryz.prog.elem 54 = 5 := by kernel_rfl
 have hz : ∀ w, (sizeOf 5).run Tryz.prog w = .ok 1 w := fun w => by kernel_rfl
 rw [run_slice_lh w 54 _ L cv hu .i64 .i64 1 ((n : Int) + 1) (by omega) (by omega) (by omega), he, hz]
 have e2 : ((n : Int) + 1).toNat = n + 1 := by omega
 simp only [Result.andThen, sliced, e2]
 rw [if_neg (by simp; omega), Option.map_some, Addr.add_mid]
 simp
theorem at_byte (b o n c k : Nat) (hk : k < n) (w : World) : (Instr.indexAt 54 (.slice (some ⟨b, o, none⟩) n c) (.int .i64 (k : Int))).run Tryz.prog w = .ok (.pointer (some ⟨b, o + k, none⟩)) w := by
 have hu : Tryz.prog.underlying 54 = some (.slice (Tryz.prog.elem 54)) := by kernel_rfl
 have he : Tryz.prog.elem 54 = 5 := by kernel_rfl
 have hz : ∀ w, (sizeOf 5).run Tryz.prog w = .ok 1 w := fun w => by kernel_rfl
 rw [run_indexAt_slice w 54 ⟨b, o, none⟩ n c .i64 (k : Int) hu, if_pos ⟨by omega, by omega⟩, he, hz]
 simp only [Result.andThen, Int.toNat_natCast, Nat.mul_one, Addr.add_mid]
theorem numB_take {l : List Nat} (hl : ∀ y ∈ l, y < 256) (j : Nat) (hj : j ≤ 7) : numB (l.take j) < 72057594037927936 := by
 have h1 := numB_lt (l.take j) (fun y hy => hl y (List.mem_of_mem_take hy))
 have h2 : (l.take j).length ≤ 7 := by rw [List.length_take]; omega
 have h3 : 256 ^ (l.take j).length ≤ 256 ^ 7 := Nat.pow_le_pow_right (by decide) h2
 exact Nat.lt_of_lt_of_le h1 h3
set_option maxRecDepth 100000 in
set_option maxHeartbeats 2000000 in
theorem read_is (w : World) (a : Option Addr) (L cv : Nat) (b : List Nat) (hb : Bytes w w.heap.size (.slice a L cv) b) (hL : L ≤ 9223372036854775807) (R : Nat × Nat × Nat) (hR : R = rdX (rdB b)) :
   Calls Tryz.prog 70 #[.slice a L cv] w fun e w' => e = .returned (.tuple #[.int .u64 (R.1 : Int), .int .i64 (R.2.1 : Int), .int .i64 (R.2.2 : Int)]) ∧ w' = w := by
 obtain ⟨hl, hlc, hlt, hop⟩ := hb.openT
 have ER := Lib.hid hR
 clear hb hR
 cases b with
 | nil =>
   have h0 : ((L : Int) == 0) = true := by rw [beq_iff_eq]; have h1 : L = 0 := hl; omega
   clear hl hlc
   have HE := Lib.hid (show R = (0, 0, 20) from ER.out)
   clear ER hop
   go_enter Tryz.func70, Tryz.ntmps70
   go_wp2_with fail
   go_ret3
   rw [HE.out]
   exact ⟨rfl, rfl⟩
 | cons c r =>
 have hl1 : L = r.length + 1 := hl
 obtain ⟨bg, bo, rfl, hbg, hc⟩ := hop (by omega)
 have hL0 : ((L : Int) == 0) = false := by rw [beq_eq_false_iff_ne]; omega
 have c0 : w.cell? ⟨bg, bo, none⟩ = some (.int .u8 (c : Int)) := hc 0 (by omega)
 have hc256 : c < 256 := hlt c (List.mem_cons_self ..)
 have hi0 : ∀ v, (Instr.indexAt 54 (.slice (some ⟨bg, bo, none⟩) L cv) (.int .i64 0)).run Tryz.prog v = .ok (.pointer (some ⟨bg, bo, none⟩)) v := fun v => by
   have hu : Tryz.prog.underlying 54 = some (.slice (Tryz.prog.elem 54)) := by kernel_rfl
   have he : Tryz.prog.elem 54 = 5 := by kernel_rfl
   have hz : ∀ w, (sizeOf 5).run Tryz.prog w = .ok 1 w := fun w => by kernel_rfl
   rw [run_indexAt_slice v 54 ⟨bg, bo, none⟩ L cv .i64 0 hu, if_pos ⟨by omega, by omega⟩, he, hz]
   simp [Result.andThen, Addr.add_mid]
 have HCR := Lib.hid (show ∀ j, j < r.length → w.cell? ⟨bg, bo + 1 + j, none⟩ = some (.int .u8 (r.getD j 0 : Nat)) from fun j hj => by
   have := hc (j + 1) (by omega)
   rw [show bo + 1 + j = bo + (j + 1) by omega]
   simpa using this)
 have HRT := Lib.hid (show ∀ y ∈ r, y < 256 from fun y hy => hlt y (List.mem_cons_of_mem _ hy))
 clear hc hop hlt hl
 by_cases hs : c < 253
 · have d1 : ((c : Int) == 253) = false := by rw [beq_eq_false_iff_ne]; omega
   have d2 : ((c : Int) == 254) = false := by rw [beq_eq_false_iff_ne]; omega
   have d3 : ((c : Int) == 255) = false := by rw [beq_eq_false_iff_ne]; omega
   have HE := Lib.hid (show R = (c, 1, 0) by
     have hw0 : rdW c = 0 := by unfold rdW; rw [if_neg (by omega), if_neg (by omega), if_neg (by omega)]
     rw [ER.out]
     simp [rdB, hw0, rdX])
   have hw : IntKind.u64.wrap (c : Int) = (c : Int) := by rw [IntKind.wrap_u64]; omega
   clear ER hs
   go_enter Tryz.func70, Tryz.ntmps70
   go_wp2_with fail
   go_ret3
   rw [HE.out]
   exact ⟨rfl, rfl⟩
 by_cases hs253 : c = 253
 · subst hs253
   have hrd : rdB (253 :: r) = if r.length < 2 then .error 20 else if numB (r.take 2) < 253 then .error 21 else .ok (numB (r.take 2), 3) := rfl
   rw [hrd] at ER
   clear hrd
   by_cases hsh : r.length < 2
   · have HE := Lib.hid (show R = (0, 0, 20) by rw [ER.out, if_pos hsh]; rfl)
     have hle : (L : Int) ≤ 2 := by omega
     clear ER hsh
     go_enter Tryz.func70, Tryz.ntmps70
     go_wp2_with fail
     go_ret3
     rw [HE.out]
     exact ⟨rfl, rfl⟩
   · have hle : ¬ (L : Int) ≤ 2 := by omega
     have hsl := slice_one bg bo L cv 2 (by omega) hlc (by decide)
     have HX := Lib.hid (show R = rdX (if numB (r.take 2) < 253 then .error 21 else .ok (numB (r.take 2), 3)) by rw [ER.out, if_neg hsh])
     have HLN := Lib.hid (show 2 ≤ r.length by omega)
     clear ER hsh
     go_enter Tryz.func70, Tryz.ntmps70
     go_wp2_with fail
     go_loop [7, 35] (fun xv iv => ∃ j : Nat, iv = .int .i64 (j : Int) ∧ j ≤ 2 ∧ xv = .int .u64 (numB (r.take j) : Int)) (fun _ iv => 2 - (intOf iv).toNat)
     case atStart => exact ⟨0, rfl, by decide, rfl⟩
     case round =>
       obtain ⟨j, rfl, hj, rfl⟩ := hrel
       by_cases hj8 : j < 2
       · have hj8' : (j : Int) < 2 := by omega
         have hjr : j < r.length := by have := HLN.out; omega
         have cb := HCR.out j hjr
         have hct := HRT.out (r.getD j 0) (by rw [List.getD_eq_getElem?_getD, List.getElem?_eq_getElem hjr]; exact List.getElem_mem _)
         obtain ⟨ct, hce⟩ : ∃ z, z = r.getD j 0 := ⟨_, rfl⟩
         rw [← hce] at cb hct
         obtain ⟨x, hxe⟩ : ∃ z, z = numB (r.take j) := ⟨_, rfl⟩
         have hx7 : x < 72057594037927936 := by rw [hxe]; exact numB_take HRT.out j (by omega)
         have HNX := Lib.hid (show numB (r.take (j + 1)) = x * 256 + ct by rw [List.take_add_one, List.getElem?_eq_getElem hjr]; show numB (r.take j ++ [r[j]]) = _; rw [numB_snoc, ← hxe, hce, List.getD_eq_getElem?_getD, List.getElem?_eq_getElem hjr]; rfl)
         rw [← hxe]
         obtain ⟨y, hy⟩ : ∃ y, y = x * 256 + ct := ⟨_, rfl⟩
         have hor := or_byteT x ct hct (by omega)
         rw [← hy] at hor HNX
         have hat : ∀ v, (Instr.indexAt 54 (.slice (some ⟨bg, bo + 1, none⟩) 2 (cv - 1)) (.int .i64 (j : Int))).run Tryz.prog v = .ok (.pointer (some ⟨bg, bo + 1 + j, none⟩)) v := fun v => at_byte bg (bo + 1) 2 (cv - 1) j hj8 v
         clear hce hxe hy
         go_wp2_with fail
         go_round
         case rel => exact ⟨j + 1, by go_num, by omega, by rw [HNX.out]⟩
         case measure => simp [intOf]; omega
       · obtain rfl : j = 2 := by omega
         obtain ⟨x, hxe⟩ : ∃ z, z = numB (r.take 2) := ⟨_, rfl⟩
         rw [← hxe] at HX ⊢
         clear hxe
         by_cases hlt2 : x < 253
         · have hlt2' : (x : Int) < 253 := by omega
           have HE := Lib.hid (show R = (0, 0, 21) by rw [HX.out, if_pos hlt2]; rfl)
           clear HX hlt2
           go_wp2_with fail
           go_ret3
           rw [HE.out]
           exact ⟨rfl, rfl⟩
         · have hlt2' : ¬ (x : Int) < 253 := by omega
           have HE := Lib.hid (show R = (x, 3, 0) by rw [HX.out, if_neg hlt2]; rfl)
           clear HX hlt2
           go_wp2_with fail
           go_ret3
           rw [HE.out]
           exact ⟨rfl, rfl⟩
 by_cases hs254 : c = 254
 · subst hs254
   have hrd : rdB (254 :: r) = if r.length < 4 then .error 20 else if numB (r.take 4) < 65536 then .error 21 else .ok (numB (r.take 4), 5) := rfl
   rw [hrd] at ER
   clear hrd
   by_cases hsh : r.length < 4
   · have HE := Lib.hid (show R = (0, 0, 20) by rw [ER.out, if_pos hsh]; rfl)
     have hle : (L : Int) ≤ 4 := by omega
     clear ER hsh
     go_enter Tryz.func70, Tryz.ntmps70
     go_wp2_with fail
     go_ret3
     rw [HE.out]
     exact ⟨rfl, rfl⟩
   · have hle : ¬ (L : Int) ≤ 4 := by omega
     have hsl := slice_one bg bo L cv 4 (by omega) hlc (by decide)
     have HX := Lib.hid (show R = rdX (if numB (r.take 4) < 65536 then .error 21 else .ok (numB (r.take 4), 5)) by rw [ER.out, if_neg hsh])
     have HLN := Lib.hid (show 4 ≤ r.length by omega)
     clear ER hsh
     go_enter Tryz.func70, Tryz.ntmps70
     go_wp2_with fail
     go_loop [7, 35] (fun xv iv => ∃ j : Nat, iv = .int .i64 (j : Int) ∧ j ≤ 4 ∧ xv = .int .u64 (numB (r.take j) : Int)) (fun _ iv => 4 - (intOf iv).toNat)
     case atStart => exact ⟨0, rfl, by decide, rfl⟩
     case round =>
       obtain ⟨j, rfl, hj, rfl⟩ := hrel
       by_cases hj8 : j < 4
       · have hj8' : (j : Int) < 4 := by omega
         have hjr : j < r.length := by have := HLN.out; omega
         have cb := HCR.out j hjr
         have hct := HRT.out (r.getD j 0) (by rw [List.getD_eq_getElem?_getD, List.getElem?_eq_getElem hjr]; exact List.getElem_mem _)
         obtain ⟨ct, hce⟩ : ∃ z, z = r.getD j 0 := ⟨_, rfl⟩
         rw [← hce] at cb hct
         obtain ⟨x, hxe⟩ : ∃ z, z = numB (r.take j) := ⟨_, rfl⟩
         have hx7 : x < 72057594037927936 := by rw [hxe]; exact numB_take HRT.out j (by omega)
         have HNX := Lib.hid (show numB (r.take (j + 1)) = x * 256 + ct by rw [List.take_add_one, List.getElem?_eq_getElem hjr]; show numB (r.take j ++ [r[j]]) = _; rw [numB_snoc, ← hxe, hce, List.getD_eq_getElem?_getD, List.getElem?_eq_getElem hjr]; rfl)
         rw [← hxe]
         obtain ⟨y, hy⟩ : ∃ y, y = x * 256 + ct := ⟨_, rfl⟩
         have hor := or_byteT x ct hct (by omega)
         rw [← hy] at hor HNX
         have hat : ∀ v, (Instr.indexAt 54 (.slice (some ⟨bg, bo + 1, none⟩) 4 (cv - 1)) (.int .i64 (j : Int))).run Tryz.prog v = .ok (.pointer (some ⟨bg, bo + 1 + j, none⟩)) v := fun v => at_byte bg (bo + 1) 4 (cv - 1) j hj8 v
         clear hce hxe hy
         go_wp2_with fail
         go_round
         case rel => exact ⟨j + 1, by go_num, by omega, by rw [HNX.out]⟩
         case measure => simp [intOf]; omega
       · obtain rfl : j = 4 := by omega
         obtain ⟨x, hxe⟩ : ∃ z, z = numB (r.take 4) := ⟨_, rfl⟩
         rw [← hxe] at HX ⊢
         clear hxe
         by_cases hlt2 : x < 65536
         · have hlt2' : (x : Int) < 65536 := by omega
           have HE := Lib.hid (show R = (0, 0, 21) by rw [HX.out, if_pos hlt2]; rfl)
           clear HX hlt2
           go_wp2_with fail
           go_ret3
           rw [HE.out]
           exact ⟨rfl, rfl⟩
         · have hlt2' : ¬ (x : Int) < 65536 := by omega
           have HE := Lib.hid (show R = (x, 5, 0) by rw [HX.out, if_neg hlt2]; rfl)
           clear HX hlt2
           go_wp2_with fail
           go_ret3
           rw [HE.out]
           exact ⟨rfl, rfl⟩
 have hs255 : c = 255 := by omega
 subst hs255
 have hrd : rdB (255 :: r) = if r.length < 8 then .error 20 else if numB (r.take 8) < 4294967296 then .error 21 else .ok (numB (r.take 8), 9) := rfl
 rw [hrd] at ER
 clear hrd
 by_cases hsh : r.length < 8
 · have HE := Lib.hid (show R = (0, 0, 20) by rw [ER.out, if_pos hsh]; rfl)
   have hle : (L : Int) ≤ 8 := by omega
   clear ER hsh
   go_enter Tryz.func70, Tryz.ntmps70
   go_wp2_with fail
   go_ret3
   rw [HE.out]
   exact ⟨rfl, rfl⟩
 · have hle : ¬ (L : Int) ≤ 8 := by omega
   have hsl := slice_one bg bo L cv 8 (by omega) hlc (by decide)
   have HX := Lib.hid (show R = rdX (if numB (r.take 8) < 4294967296 then .error 21 else .ok (numB (r.take 8), 9)) by rw [ER.out, if_neg hsh])
   have HLN := Lib.hid (show 8 ≤ r.length by omega)
   clear ER hsh
   go_enter Tryz.func70, Tryz.ntmps70
   go_wp2_with fail
   go_loop [7, 35] (fun xv iv => ∃ j : Nat, iv = .int .i64 (j : Int) ∧ j ≤ 8 ∧ xv = .int .u64 (numB (r.take j) : Int)) (fun _ iv => 8 - (intOf iv).toNat)
   case atStart => exact ⟨0, rfl, by decide, rfl⟩
   case round =>
     obtain ⟨j, rfl, hj, rfl⟩ := hrel
     by_cases hj8 : j < 8
     · have hj8' : (j : Int) < 8 := by omega
       have hjr : j < r.length := by have := HLN.out; omega
       have cb := HCR.out j hjr
       have hct := HRT.out (r.getD j 0) (by rw [List.getD_eq_getElem?_getD, List.getElem?_eq_getElem hjr]; exact List.getElem_mem _)
       obtain ⟨ct, hce⟩ : ∃ z, z = r.getD j 0 := ⟨_, rfl⟩
       rw [← hce] at cb hct
       obtain ⟨x, hxe⟩ : ∃ z, z = numB (r.take j) := ⟨_, rfl⟩
       have hx7 : x < 72057594037927936 := by rw [hxe]; exact numB_take HRT.out j (by omega)
       have HNX := Lib.hid (show numB (r.take (j + 1)) = x * 256 + ct by rw [List.take_add_one, List.getElem?_eq_getElem hjr]; show numB (r.take j ++ [r[j]]) = _; rw [numB_snoc, ← hxe, hce, List.getD_eq_getElem?_getD, List.getElem?_eq_getElem hjr]; rfl)
       rw [← hxe]
       obtain ⟨y, hy⟩ : ∃ y, y = x * 256 + ct := ⟨_, rfl⟩
       have hor := or_byteT x ct hct (by omega)
       rw [← hy] at hor HNX
       have hat : ∀ v, (Instr.indexAt 54 (.slice (some ⟨bg, bo + 1, none⟩) 8 (cv - 1)) (.int .i64 (j : Int))).run Tryz.prog v = .ok (.pointer (some ⟨bg, bo + 1 + j, none⟩)) v := fun v => at_byte bg (bo + 1) 8 (cv - 1) j hj8 v
       clear hce hxe hy
       go_wp2_with fail
       go_round
       case rel => exact ⟨j + 1, by go_num, by omega, by rw [HNX.out]⟩
       case measure => simp [intOf]; omega
     · obtain rfl : j = 8 := by omega
       obtain ⟨x, hxe⟩ : ∃ z, z = numB (r.take 8) := ⟨_, rfl⟩
       rw [← hxe] at HX ⊢
       clear hxe
       by_cases hlt2 : x < 4294967296
       · have hlt2' : (x : Int) < 4294967296 := by omega
         have HE := Lib.hid (show R = (0, 0, 21) by rw [HX.out, if_pos hlt2]; rfl)
         clear HX hlt2
         go_wp2_with fail
         go_ret3
         rw [HE.out]
         exact ⟨rfl, rfl⟩
       · have hlt2' : ¬ (x : Int) < 4294967296 := by omega
         have HE := Lib.hid (show R = (x, 9, 0) by rw [HX.out, if_neg hlt2]; rfl)
         clear HX hlt2
         go_wp2_with fail
         go_ret3
         rw [HE.out]
         exact ⟨rfl, rfl⟩
end Go.Proofs.YtniakgoefkbkhaaGreatDoor
/- The plain law of decoding: numbers and records, back and forth. -/
namespace Go.Proofs.YtniakgoefkbkhaaGreatDoor
set_option linter.unusedVariables false
set_option linter.unusedSimpArgs false

theorem take_app {l t : List Nat} {n : Nat} (h : l.length = n) : (l ++ t).take n = l := by rw [← h, List.take_left']; rfl
theorem rd_big {x k c : Nat} (t : List Nat) (hc : rdW c = k) (hk : 0 < k) (hx : x < 256 ^ k) (hl : rdL k ≤ x) : rdB (c :: (bigN x k ++ t)) = .ok (x, k + 1) := by
 have e1 : (bigN x k ++ t).take k = bigN x k := take_app (bigN_len x k)
 unfold rdB
 simp only [hc, e1]
 rw [if_neg (by omega), if_neg (by rw [List.length_append, bigN_len]; omega), numB_big' x k hx, if_neg (by omega)]
theorem rd_sz (x : Nat) (hx : x < 18446744073709551616) (t : List Nat) : rdB (szB x ++ t) = .ok (x, (szB x).length) := by
 unfold szB
 by_cases h1 : x < 253
 · rw [if_pos h1]
   have hw : rdW x = 0 := by unfold rdW; rw [if_neg (by omega), if_neg (by omega), if_neg (by omega)]
   show rdB (x :: t) = _
   unfold rdB
   simp only [hw]
   rfl
 · rw [if_neg h1]
   by_cases h2 : x < 65536
   · rw [if_pos h2]
     have := rd_big (x := x) (k := 2) (c := 253) t rfl (by decide) (by show x < 65536; exact h2) (by show 253 ≤ x; omega)
     simpa [bigN_len] using this
   · rw [if_neg h2]
     by_cases h3 : x < 4294967296
     · rw [if_pos h3]
       have := rd_big (x := x) (k := 4) (c := 254) t rfl (by decide) (by show x < 4294967296; exact h3) (by show 65536 ≤ x; omega)
       simpa [bigN_len] using this
     · rw [if_neg h3]
       have := rd_big (x := x) (k := 8) (c := 255) t rfl (by decide) (by show x < 18446744073709551616; exact hx) (by show 4294967296 ≤ x; omega)
       simpa [bigN_len] using this
theorem rdW_vals {c : Nat} (h : rdW c ≠ 0) : (c = 253 ∧ rdW c = 2) ∨ (c = 254 ∧ rdW c = 4) ∨ (c = 255 ∧ rdW c = 8) := by
 unfold rdW at h ⊢
 by_cases h1 : c = 253
 · rw [if_pos h1]; exact .inl ⟨h1, rfl⟩
 · rw [if_neg h1] at h ⊢
   by_cases h2 : c = 254
   · rw [if_pos h2]; exact .inr (.inl ⟨h2, rfl⟩)
   · rw [if_neg h2] at h ⊢
     by_cases h3 : c = 255
     · rw [if_pos h3]; exact .inr (.inr ⟨h3, rfl⟩)
     · rw [if_neg h3] at h; exact absurd rfl h
theorem sz_rd {b : List Nat} (hb : ∀ y ∈ b, y < 256) {x n : Nat} (h : rdB b = .ok (x, n)) : n = (szB x).length ∧ b = szB x ++ b.drop n ∧ x < 18446744073709551616 := by
 cases b with
 | nil => cases h
 | cons c r =>
  have hc := hb c (List.mem_cons_self ..)
  have hr : ∀ y ∈ r, y < 256 := fun y hy => hb y (List.mem_cons_of_mem _ hy)
  unfold rdB at h
  by_cases hw : rdW c = 0
  · simp only [hw, if_true] at h
    cases h
    have hlt : x < 253 := by
      unfold rdW at hw
      split at hw
      · cases hw
      · split at hw
        · cases hw
        · split at hw
          · cases hw
          · omega
    have e : szB x = [x] := by unfold szB; rw [if_pos hlt]
    rw [e]
    exact ⟨rfl, rfl, by omega⟩
  · simp only [hw, if_false] at h
    split at h
    · cases h
    · rename_i hlen
      split at h
      · cases h
      · rename_i hleast
        cases h
        have htl : (r.take (rdW c)).length = rdW c := by rw [List.length_take]; omega
        have hnl := numB_lt (r.take (rdW c)) (fun y hy => hr y (List.mem_of_mem_take hy))
        have hbg := big_numB (r.take (rdW c)) (fun y hy => hr y (List.mem_of_mem_take hy))
        rw [htl] at hnl hbg
        have hsplit : r = r.take (rdW c) ++ r.drop (rdW c) := (List.take_append_drop _ _).symm
        generalize hxx : numB (r.take (rdW c)) = x at hnl hbg hleast ⊢
        rcases rdW_vals hw with ⟨rfl, e⟩ | ⟨rfl, e⟩ | ⟨rfl, e⟩
        · rw [e] at hnl hbg hleast hsplit ⊢
          have h1 : x < 65536 := hnl
          have h2 : ¬ x < 253 := hleast
          have es : szB x = 253 :: bigN x 2 := by unfold szB; rw [if_neg h2, if_pos h1]
          rw [es, hbg]
          refine ⟨by rw [List.length_cons, ← hbg, bigN_len], ?_, by omega⟩
          show 253 :: r = 253 :: (r.take 2 ++ r.drop 2)
          rw [← hsplit]
        · rw [e] at hnl hbg hleast hsplit ⊢
          have h1 : x < 4294967296 := hnl
          have h2 : ¬ x < 65536 := hleast
          have es : szB x = 254 :: bigN x 4 := by unfold szB; rw [if_neg (by omega), if_neg h2, if_pos h1]
          rw [es, hbg]
          refine ⟨by rw [List.length_cons, ← hbg, bigN_len], ?_, by omega⟩
          show 254 :: r = 254 :: (r.take 4 ++ r.drop 4)
          rw [← hsplit]
        · rw [e] at hnl hbg hleast hsplit ⊢
          have h1 : x < 18446744073709551616 := hnl
          have h2 : ¬ x < 4294967296 := hleast
          have es : szB x = 255 :: bigN x 8 := by unfold szB; rw [if_neg (by omega), if_neg (by omega), if_neg h2]
          rw [es, hbg]
          refine ⟨by rw [List.length_cons, ← hbg, bigN_len], ?_, h1⟩
          show 255 :: r = 255 :: (r.take 8 ++ r.drop 8)
          rw [← hsplit]
end Go.Proofs.YtniakgoefkbkhaaGreatDoor
