/- The walk of the reference's Read. -/
import Derived.Test.YtknfbccbdiidjaaGreatDoorWs
import Derived.Test.YtknfbccbdiidjaaGreatDoorRRz1
import Derived.Test.YtknfbccbdiidjaaGreatDoorRTv6
namespace Go.Proofs.YtknfbccbdiidjaaGreatDoor
set_option linter.unusedVariables false
set_option linter.unusedSimpArgs false
open Go.ChangeShapes Go.WideShapes Go.ChangeAt Go.RowKit Go.Maps

theorem sz_len (x : Nat) : (szB x).length = if x < 253 then 1 else if x < 65536 then 3 else if x < 4294967296 then 5 else 9 := by
 unfold szB
 by_cases h1 : x < 253
 · rw [if_pos h1, if_pos h1]; rfl
 rw [if_neg h1, if_neg h1]
 by_cases h2 : x < 65536
 · rw [if_pos h2, if_pos h2, List.length_cons, bigN_len]
 rw [if_neg h2, if_neg h2]
 by_cases h3 : x < 4294967296
 · rw [if_pos h3, if_pos h3, List.length_cons, bigN_len]
 rw [if_neg h3, if_neg h3, List.length_cons, bigN_len]
theorem sz_big {x : Nat} (h : ¬ x < 4294967296) : (szB x).length = 9 := by rw [sz_len, if_neg (by omega), if_neg (by omega), if_neg h]
theorem sz_small {x : Nat} (h : x < 4294967296) : (szB x).length ≠ 9 := by
 rw [sz_len]
 by_cases a1 : x < 253
 · rw [if_pos a1]; decide
 rw [if_neg a1]
 by_cases a2 : x < 65536
 · rw [if_pos a2]; decide
 rw [if_neg a2, if_pos h]; decide
theorem numB_lt2 {l : List Nat} (hl : ∀ y ∈ l, y < 256) (j k : Nat) (hj : j ≤ k) : numB (l.take j) < 256 ^ k := by
 have h1 := numB_lt (l.take j) (fun y hy => hl y (List.mem_of_mem_take hy))
 have h2 : (l.take j).length ≤ k := by rw [List.length_take]; omega
 exact Nat.lt_of_lt_of_le h1 (Nat.pow_le_pow_right (by decide) h2)
def RzP (w : World) (R : Nat × Nat × Nat) (e : Ending) (w' : World) : Prop :=
 e = .returned (.tuple #[.int .u64 (R.1 : Int), .int .i64 (R.2.1 : Int), .int .i64 (R.2.2 : Int)]) ∧ Below w.heap.size w w'
set_option maxRecDepth 100000 in
set_option maxHeartbeats 4000000 in
theorem rzRead_is (w : World) (a : Option Addr) (L cv : Nat) (b : List Nat) (hb : Bytes w w.heap.size (.slice a L cv) b) (hL : L ≤ 9223372036854775807) (R : Nat × Nat × Nat) (hR : R = rdX (rdB b)) :
   Calls Tryz.prog 68 #[.slice a L cv] w (RzP w R) := by
 obtain ⟨hl, hlc, hlt, hop⟩ := hb.openT
 have ER := Lib.hid hR
 clear hb hR
 cases b with
 | nil =>
   have h0 : ((L : Int) == 0) = true := by rw [beq_iff_eq]; have h1 : L = 0 := hl; omega
   clear hl hlc
   have HE := Lib.hid (show R = (0, 0, 20) from ER.out)
   clear ER hop
   go_enter Tryz.func68, Tryz.ntmps68
   go_wp2_with fail
   go_ret3
   rw [HE.out]
   exact ⟨rfl, Below.refl _ _⟩
 | cons c r =>
 have hl1 : L = r.length + 1 := hl
 obtain ⟨bg, bo, rfl, hbg, hc⟩ := hop (by omega)
 have hL0 : ((L : Int) == 0) = false := by rw [beq_eq_false_iff_ne]; omega
 have c0 : w.cell? ⟨bg, bo, none⟩ = some (.int .u8 (c : Int)) := hc 0 (by omega)
 have hc256 : c < 256 := hlt c (List.mem_cons_self ..)
 have hi0 : ∀ v, (Instr.indexAt 48 (.slice (some ⟨bg, bo, none⟩) L cv) (.int .i64 0)).run Tryz.prog v = .ok (.pointer (some ⟨bg, bo, none⟩)) v := fun v => by
   have := at_byte bg bo L cv 0 (by omega) v
   simpa using this
 have HCR := Lib.hid (show ∀ j, j < r.length → w.cell? ⟨bg, bo + (j + 1), none⟩ = some (.int .u8 (r.getD j 0 : Nat)) from fun j hj => by
   have := hc (j + 1) (by omega)
   exact this)
 have HAT := Lib.hid (show ∀ j, j < L → ∀ v, (Instr.indexAt 48 (.slice (some ⟨bg, bo, none⟩) L cv) (.int .i64 (j : Int))).run Tryz.prog v = .ok (.pointer (some ⟨bg, bo + j, none⟩)) v from fun j hj v => at_byte bg bo L cv j hj v)
 have HRT := Lib.hid (show ∀ y ∈ r, y < 256 from fun y hy => hlt y (List.mem_cons_of_mem _ hy))
 clear hc hop hlt hl
 by_cases hs : c < 253
 · have d1 : ((c : Int) == 253) = false := by rw [beq_eq_false_iff_ne]; omega
   have d2 : ((c : Int) == 254) = false := by rw [beq_eq_false_iff_ne]; omega
   have d3 : ((c : Int) == 255) = false := by rw [beq_eq_false_iff_ne]; omega
   have d4 : ¬ (L : Int) < 1 := by omega
   have HE := Lib.hid (show R = (c, 1, 0) by
     have hw0 : rdW c = 0 := by unfold rdW; rw [if_neg (by omega), if_neg (by omega), if_neg (by omega)]
     rw [ER.out]
     simp [rdB, hw0, rdX])
   have hw : IntKind.u64.wrap (c : Int) = (c : Int) := by rw [IntKind.wrap_u64]; omega
   clear ER hs hl1
   go_enter Tryz.func68, Tryz.ntmps68
   go_wp2_with fail
   go_ret3
   rw [HE.out]
   exact ⟨rfl, Below.refl _ _⟩
 by_cases hs253 : c = 253
 · subst hs253
   have hrd : rdB (253 :: r) = if r.length < 2 then .error 20 else if numB (r.take 2) < 253 then .error 21 else .ok (numB (r.take 2), 3) := rfl
   rw [hrd] at ER
   clear hrd
   by_cases hsh : r.length < 2
   · have HE := Lib.hid (show R = (0, 0, 20) by rw [ER.out, if_pos hsh]; rfl)
     have hle : (L : Int) < 3 := by omega
     clear ER hsh hl1
     go_enter Tryz.func68, Tryz.ntmps68
     go_wp2_with fail
     go_ret3
     rw [HE.out]
     exact ⟨rfl, Below.refl _ _⟩
   · have hle : ¬ (L : Int) < 3 := by omega
     have HX := Lib.hid (show R = rdX (if numB (r.take 2) < 253 then .error 21 else .ok (numB (r.take 2), 3)) by rw [ER.out, if_neg hsh])
     have HLN := Lib.hid (show 2 ≤ r.length by omega)
     have HLL := Lib.hid hl1
     clear ER hsh hl1
     go_enter Tryz.func68, Tryz.ntmps68
     go_wp2_with fail
     go_loop [6, 7] (fun xv iv => ∃ j : Nat, iv = .int .i64 ((j + 1 : Nat) : Int) ∧ j ≤ 2 ∧ xv = .int .u64 (numB (r.take j) : Int)) (fun _ iv => 3 - (intOf iv).toNat)
     case atStart => exact ⟨0, rfl, by decide, rfl⟩
     case round =>
      obtain ⟨j, rfl, hj, rfl⟩ := hrel
      by_cases hj8 : j < 2
      · have hjr : j < r.length := by have := HLN.out; omega
        have cb := HCR.out j hjr
        have hct := HRT.out (r.getD j 0) (by rw [List.getD_eq_getElem?_getD, List.getElem?_eq_getElem hjr]; exact List.getElem_mem _)
        obtain ⟨ct, hce⟩ : ∃ z, z = r.getD j 0 := ⟨_, rfl⟩
        rw [← hce] at cb hct
        obtain ⟨x, hxe⟩ : ∃ z, z = numB (r.take j) := ⟨_, rfl⟩
        have hx7 : x < 256 ^ 7 := by rw [hxe]; exact numB_lt2 HRT.out j 7 (by omega)
        have HNX := Lib.hid (show numB (r.take (j + 1)) = x * 256 + ct by rw [List.take_add_one, List.getElem?_eq_getElem hjr]; show numB (r.take j ++ [r[j]]) = _; rw [numB_snoc, ← hxe, hce, List.getD_eq_getElem?_getD, List.getElem?_eq_getElem hjr]; rfl)
        rw [← hxe]
        obtain ⟨i, hi⟩ : ∃ i, i = j + 1 := ⟨_, rfl⟩
        have hat := HAT.out i (by have := HLL.out; omega)
        have hil : (i : Int) < 3 := by omega
        rw [← hi] at cb
        have HI := Lib.hid hi
        have HJ := Lib.hid hj8
        have HW1 := Lib.hid (show IntKind.u64.wrap (IntKind.u64.wrap ((x : Int) * 256) + (ct : Int)) = ((x * 256 + ct : Nat) : Int) by rw [IntKind.wrap_u64, IntKind.wrap_u64]; omega)
        have HW2 := Lib.hid (show IntKind.u64.wrap ((x : Int) * 256 + (ct : Int)) = ((x * 256 + ct : Nat) : Int) by rw [IntKind.wrap_u64]; omega)
        rw [← hi]
        have hct2 : (ct : Int) < 256 := by omega
        clear hce hxe hi hj8 hx7 hjr hj hct
        go_wp2_with fail
        go_round
        case rel => exact ⟨j + 1, by rw [HI.out]; go_num, by have := HJ.out; omega, by rw [HNX.out]; first | rw [HW1.out] | rw [HW2.out] | skip⟩
        case measure => have h1 := HJ.out; have h2 := HI.out; simp [intOf]; omega
      · obtain ⟨x, hxe⟩ : ∃ z, z = numB (r.take 2) := ⟨_, rfl⟩
        have hj2 : j = 2 := by omega
        have hxl : x < 256 ^ 2 := by rw [hxe]; exact numB_lt2 HRT.out 2 2 (Nat.le_refl _)
        rw [hj2, ← hxe]
        rw [← hxe] at HX
        have HSZ := Lib.hid (rzSize_is w x (by omega))
        have hlen := sz_len x
        clear hj2 hj hj8 hxe
        by_cases hlt2 : x < 253
        · have HE := Lib.hid (show R = (0, 0, 21) by rw [HX.out, if_pos hlt2]; rfl)
          have hl2 : (((szB x).length : Int) != 3) = true := by rw [bne_iff_ne]; rw [hlen]; repeat' split; all_goals omega
          clear HX hlt2 hlen hxl
          go_wp2_with fail
          refine HSZ.out.mono ?_
          rintro _ w2 ⟨v2, rfl, ⟨sa, sc, rfl, _⟩, hb2⟩
          have HB2 := Lib.hid hb2
          clear hb2
          go_wp2_with fail
          go_ret3
          rw [HE.out]
          exact ⟨rfl, HB2.out⟩
        · have HE := Lib.hid (show R = (x, 3, 0) by rw [HX.out, if_neg hlt2]; rfl)
          have hl2 : (((szB x).length : Int) != 3) = false := by rw [bne_eq_false_iff_eq]; rw [hlen]; repeat' split; all_goals omega
          clear HX hlt2 hlen hxl
          go_wp2_with fail
          refine HSZ.out.mono ?_
          rintro _ w2 ⟨v2, rfl, ⟨sa, sc, rfl, _⟩, hb2⟩
          have HB2 := Lib.hid hb2
          clear hb2
          go_wp2_with fail
          go_ret3
          rw [HE.out]
          exact ⟨rfl, HB2.out⟩
 by_cases hs254 : c = 254
 · subst hs254
   have hrd : rdB (254 :: r) = if r.length < 4 then .error 20 else if numB (r.take 4) < 65536 then .error 21 else .ok (numB (r.take 4), 5) := rfl
   rw [hrd] at ER
   clear hrd
   by_cases hsh : r.length < 4
   · have HE := Lib.hid (show R = (0, 0, 20) by rw [ER.out, if_pos hsh]; rfl)
     have hle : (L : Int) < 5 := by omega
     clear ER hsh hl1
     go_enter Tryz.func68, Tryz.ntmps68
     go_wp2_with fail
     go_ret3
     rw [HE.out]
     exact ⟨rfl, Below.refl _ _⟩
   · have hle : ¬ (L : Int) < 5 := by omega
     have HX := Lib.hid (show R = rdX (if numB (r.take 4) < 65536 then .error 21 else .ok (numB (r.take 4), 5)) by rw [ER.out, if_neg hsh])
     have HLN := Lib.hid (show 4 ≤ r.length by omega)
     have HLL := Lib.hid hl1
     clear ER hsh hl1
     go_enter Tryz.func68, Tryz.ntmps68
     go_wp2_with fail
     go_loop [6, 7] (fun xv iv => ∃ j : Nat, iv = .int .i64 ((j + 1 : Nat) : Int) ∧ j ≤ 4 ∧ xv = .int .u64 (numB (r.take j) : Int)) (fun _ iv => 5 - (intOf iv).toNat)
     case atStart => exact ⟨0, rfl, by decide, rfl⟩
     case round =>
      obtain ⟨j, rfl, hj, rfl⟩ := hrel
      by_cases hj8 : j < 4
      · have hjr : j < r.length := by have := HLN.out; omega
        have cb := HCR.out j hjr
        have hct := HRT.out (r.getD j 0) (by rw [List.getD_eq_getElem?_getD, List.getElem?_eq_getElem hjr]; exact List.getElem_mem _)
        obtain ⟨ct, hce⟩ : ∃ z, z = r.getD j 0 := ⟨_, rfl⟩
        rw [← hce] at cb hct
        obtain ⟨x, hxe⟩ : ∃ z, z = numB (r.take j) := ⟨_, rfl⟩
        have hx7 : x < 256 ^ 7 := by rw [hxe]; exact numB_lt2 HRT.out j 7 (by omega)
        have HNX := Lib.hid (show numB (r.take (j + 1)) = x * 256 + ct by rw [List.take_add_one, List.getElem?_eq_getElem hjr]; show numB (r.take j ++ [r[j]]) = _; rw [numB_snoc, ← hxe, hce, List.getD_eq_getElem?_getD, List.getElem?_eq_getElem hjr]; rfl)
        rw [← hxe]
        obtain ⟨i, hi⟩ : ∃ i, i = j + 1 := ⟨_, rfl⟩
        have hat := HAT.out i (by have := HLL.out; omega)
        have hil : (i : Int) < 5 := by omega
        rw [← hi] at cb
        have HI := Lib.hid hi
        have HJ := Lib.hid hj8
        have HW1 := Lib.hid (show IntKind.u64.wrap (IntKind.u64.wrap ((x : Int) * 256) + (ct : Int)) = ((x * 256 + ct : Nat) : Int) by rw [IntKind.wrap_u64, IntKind.wrap_u64]; omega)
        have HW2 := Lib.hid (show IntKind.u64.wrap ((x : Int) * 256 + (ct : Int)) = ((x * 256 + ct : Nat) : Int) by rw [IntKind.wrap_u64]; omega)
        rw [← hi]
        have hct2 : (ct : Int) < 256 := by omega
        clear hce hxe hi hj8 hx7 hjr hj hct
        go_wp2_with fail
        go_round
        case rel => exact ⟨j + 1, by rw [HI.out]; go_num, by have := HJ.out; omega, by rw [HNX.out]; first | rw [HW1.out] | rw [HW2.out] | skip⟩
        case measure => have h1 := HJ.out; have h2 := HI.out; simp [intOf]; omega
      · obtain ⟨x, hxe⟩ : ∃ z, z = numB (r.take 4) := ⟨_, rfl⟩
        have hj2 : j = 4 := by omega
        have hxl : x < 256 ^ 4 := by rw [hxe]; exact numB_lt2 HRT.out 4 4 (Nat.le_refl _)
        rw [hj2, ← hxe]
        rw [← hxe] at HX
        have HSZ := Lib.hid (rzSize_is w x (by omega))
        have hlen := sz_len x
        clear hj2 hj hj8 hxe
        by_cases hlt2 : x < 65536
        · have HE := Lib.hid (show R = (0, 0, 21) by rw [HX.out, if_pos hlt2]; rfl)
          have hl2 : (((szB x).length : Int) != 5) = true := by rw [bne_iff_ne]; rw [hlen]; repeat' split; all_goals omega
          clear HX hlt2 hlen hxl
          go_wp2_with fail
          refine HSZ.out.mono ?_
          rintro _ w2 ⟨v2, rfl, ⟨sa, sc, rfl, _⟩, hb2⟩
          have HB2 := Lib.hid hb2
          clear hb2
          go_wp2_with fail
          go_ret3
          rw [HE.out]
          exact ⟨rfl, HB2.out⟩
        · have HE := Lib.hid (show R = (x, 5, 0) by rw [HX.out, if_neg hlt2]; rfl)
          have hl2 : (((szB x).length : Int) != 5) = false := by rw [bne_eq_false_iff_eq]; rw [hlen]; repeat' split; all_goals omega
          clear HX hlt2 hlen hxl
          go_wp2_with fail
          refine HSZ.out.mono ?_
          rintro _ w2 ⟨v2, rfl, ⟨sa, sc, rfl, _⟩, hb2⟩
          have HB2 := Lib.hid hb2
          clear hb2
          go_wp2_with fail
          go_ret3
          rw [HE.out]
          exact ⟨rfl, HB2.out⟩
 have hs255 : c = 255 := by omega
 · subst hs255
   have hrd : rdB (255 :: r) = if r.length < 8 then .error 20 else if numB (r.take 8) < 4294967296 then .error 21 else .ok (numB (r.take 8), 9) := rfl
   rw [hrd] at ER
   clear hrd
   by_cases hsh : r.length < 8
   · have HE := Lib.hid (show R = (0, 0, 20) by rw [ER.out, if_pos hsh]; rfl)
     have hle : (L : Int) < 9 := by omega
     clear ER hsh hl1
     go_enter Tryz.func68, Tryz.ntmps68
     go_wp2_with fail
     go_ret3
     rw [HE.out]
     exact ⟨rfl, Below.refl _ _⟩
   · have hle : ¬ (L : Int) < 9 := by omega
     have HX := Lib.hid (show R = rdX (if numB (r.take 8) < 4294967296 then .error 21 else .ok (numB (r.take 8), 9)) by rw [ER.out, if_neg hsh])
     have HLN := Lib.hid (show 8 ≤ r.length by omega)
     have HLL := Lib.hid hl1
     clear ER hsh hl1
     go_enter Tryz.func68, Tryz.ntmps68
     go_wp2_with fail
     go_loop [6, 7] (fun xv iv => ∃ j : Nat, iv = .int .i64 ((j + 1 : Nat) : Int) ∧ j ≤ 8 ∧ xv = .int .u64 (numB (r.take j) : Int)) (fun _ iv => 9 - (intOf iv).toNat)
     case atStart => exact ⟨0, rfl, by decide, rfl⟩
     case round =>
      obtain ⟨j, rfl, hj, rfl⟩ := hrel
      by_cases hj8 : j < 8
      · have hjr : j < r.length := by have := HLN.out; omega
        have cb := HCR.out j hjr
        have hct := HRT.out (r.getD j 0) (by rw [List.getD_eq_getElem?_getD, List.getElem?_eq_getElem hjr]; exact List.getElem_mem _)
        obtain ⟨ct, hce⟩ : ∃ z, z = r.getD j 0 := ⟨_, rfl⟩
        rw [← hce] at cb hct
        obtain ⟨x, hxe⟩ : ∃ z, z = numB (r.take j) := ⟨_, rfl⟩
        have hx7 : x < 256 ^ 7 := by rw [hxe]; exact numB_lt2 HRT.out j 7 (by omega)
        have HNX := Lib.hid (show numB (r.take (j + 1)) = x * 256 + ct by rw [List.take_add_one, List.getElem?_eq_getElem hjr]; show numB (r.take j ++ [r[j]]) = _; rw [numB_snoc, ← hxe, hce, List.getD_eq_getElem?_getD, List.getElem?_eq_getElem hjr]; rfl)
        rw [← hxe]
        obtain ⟨i, hi⟩ : ∃ i, i = j + 1 := ⟨_, rfl⟩
        have hat := HAT.out i (by have := HLL.out; omega)
        have hil : (i : Int) < 9 := by omega
        rw [← hi] at cb
        have HI := Lib.hid hi
        have HJ := Lib.hid hj8
        have HW1 := Lib.hid (show IntKind.u64.wrap (IntKind.u64.wrap ((x : Int) * 256) + (ct : Int)) = ((x * 256 + ct : Nat) : Int) by rw [IntKind.wrap_u64, IntKind.wrap_u64]; omega)
        have HW2 := Lib.hid (show IntKind.u64.wrap ((x : Int) * 256 + (ct : Int)) = ((x * 256 + ct : Nat) : Int) by rw [IntKind.wrap_u64]; omega)
        rw [← hi]
        have hct2 : (ct : Int) < 256 := by omega
        clear hce hxe hi hj8 hx7 hjr hj hct
        go_wp2_with fail
        go_round
        case rel => exact ⟨j + 1, by rw [HI.out]; go_num, by have := HJ.out; omega, by rw [HNX.out]; first | rw [HW1.out] | rw [HW2.out] | skip⟩
        case measure => have h1 := HJ.out; have h2 := HI.out; simp [intOf]; omega
      · obtain ⟨x, hxe⟩ : ∃ z, z = numB (r.take 8) := ⟨_, rfl⟩
        have hj2 : j = 8 := by omega
        have hxl : x < 256 ^ 8 := by rw [hxe]; exact numB_lt2 HRT.out 8 8 (Nat.le_refl _)
        rw [hj2, ← hxe]
        rw [← hxe] at HX
        have HSZ := Lib.hid (rzSize_is w x (by omega))
        have hlen := sz_len x
        clear hj2 hj hj8 hxe
        by_cases hlt2 : x < 4294967296
        · have HE := Lib.hid (show R = (0, 0, 21) by rw [HX.out, if_pos hlt2]; rfl)
          have hl2 : (((szB x).length : Int) != 9) = true := by rw [bne_iff_ne]; have := sz_small hlt2; omega
          clear HX hlt2 hlen hxl
          go_wp2_with fail
          refine HSZ.out.mono ?_
          rintro _ w2 ⟨v2, rfl, ⟨sa, sc, rfl, _⟩, hb2⟩
          have HB2 := Lib.hid hb2
          clear hb2
          go_wp2_with fail
          go_ret3
          rw [HE.out]
          exact ⟨rfl, HB2.out⟩
        · have HE := Lib.hid (show R = (x, 9, 0) by rw [HX.out, if_neg hlt2]; rfl)
          have hl2 : (((szB x).length : Int) != 9) = false := by rw [bne_eq_false_iff_eq]; have := sz_big hlt2; omega
          clear HX hlt2 hlen hxl
          go_wp2_with fail
          refine HSZ.out.mono ?_
          rintro _ w2 ⟨v2, rfl, ⟨sa, sc, rfl, _⟩, hb2⟩
          have HB2 := Lib.hid hb2
          clear hb2
          go_wp2_with fail
          go_ret3
          rw [HE.out]
          exact ⟨rfl, HB2.out⟩
end Go.Proofs.YtknfbccbdiidjaaGreatDoor

