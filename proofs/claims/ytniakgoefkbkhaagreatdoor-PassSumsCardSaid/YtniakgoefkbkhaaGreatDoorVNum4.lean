/- The walks of the reference's order and product of two numbers. -/
import Derived.Test.YtniakgoefkbkhaaGreatDoorWs
import Derived.Test.YtniakgoefkbkhaaGreatDoorVNum3
import Derived.Test.YtniakgoefkbkhaaGreatDoorVMem
namespace Go.Proofs.YtniakgoefkbkhaaGreatDoor
set_option linter.unusedVariables false
set_option linter.unusedSimpArgs false
open Go.ChangeShapes Go.WideShapes Go.ChangeAt Go.RowKit Go.Maps

set_option maxRecDepth 100000 in
set_option maxHeartbeats 2000000 in
theorem cmp_is (w : World) (a : Option Addr) (n c : Nat) (x : Nat) (a2 : Option Addr) (n2 c2 : Nat) (y : Nat) (hd : DigAt w a n c (digs x)) (hd2 : DigAt w a2 n2 c2 (digs y)) (hn : n ≤ 1000000) (hn2 : n2 ≤ 1000000) :
   Calls Tryz.prog 14 #[.slice a n c, .slice a2 n2 c2] w fun e w' => e = .returned (.int .i64 (cmpN x y)) ∧ Below w.heap.size w w' := by
 have HD := Lib.hid hd
 have HD2 := Lib.hid hd2
 have hl := hd.len
 have hl2 := hd2.len
 have HL := Lib.hid hl
 have HL2 := Lib.hid hl2
 clear hd hd2
 have hlt : n < n2 → cmpN x y = -1 := fun h => by
   have := cmp_len (m := x) (n := y) (by omega)
   unfold cmpN; rw [if_pos this]
 have hgt : n2 < n → cmpN x y = 1 := fun h => by
   have := cmp_len (m := y) (n := x) (by omega)
   unfold cmpN; rw [if_neg (by omega), if_neg (by omega)]
 have HLT := Lib.hid hlt
 have HGT := Lib.hid hgt
 clear hl hl2 hlt hgt
 go_enter Tryz.func14, Tryz.ntmps14
 by_cases h1 : n < n2
 · have h1' : (n : Int) < (n2 : Int) := by omega
   have HE := Lib.hid (HLT.out h1)
   clear h1
   go_wp2
   go_ret
   exact ⟨by rw [HE.out]; rfl, Below.refl _ _⟩
 have h1' : ¬ (n : Int) < (n2 : Int) := by omega
 by_cases h2 : n2 < n
 · have h2' : (n2 : Int) < (n : Int) := by omega
   have HE := Lib.hid (HGT.out h2)
   clear h2
   go_wp2
   go_ret
   exact ⟨by rw [HE.out]; rfl, Below.refl _ _⟩
 have h2' : ¬ (n2 : Int) < (n : Int) := by omega
 have EN := Lib.hid (show n2 = n by omega)
 have hw : wrap64 ((n : Int) - 1) = (n : Int) - 1 := by unfold wrap64; omega
 clear h1 h2
 go_wp2_with fail
 go_loopw [5] (fun iv wr => ∃ i : Int, iv = .int .i64 i ∧ -1 ≤ i ∧ i < n ∧ x / 256 ^ (i + 1).toNat = y / 256 ^ (i + 1).toNat ∧ Below w.heap.size w wr) (fun iv _ => (intOf iv + 1).toNat)
 case atStart =>
   refine ⟨(n : Int) - 1, by go_num, by omega, by omega, ?_, Below.refl _ _⟩
   have e : ((n : Int) - 1 + 1).toNat = n := by omega
   rw [e, digs_over (by rw [HL.out]; exact Nat.le_refl _), digs_over (by rw [HL2.out, EN.out]; exact Nat.le_refl _)]
 case round =>
   obtain ⟨i, rfl, hi1, hi2, hsame, hbel⟩ := hrel
   have HBEL := Lib.hid hbel
   have HS := Lib.hid hsame
   clear hbel hsame hw
   by_cases h0 : 0 ≤ i
   · obtain ⟨j, rfl⟩ : ∃ j : Nat, i = (j : Int) := ⟨i.toNat, by omega⟩
     have hj : j < n := by omega
     obtain ⟨bA, oA, haA, hbA, hclA⟩ := (HD.out.below HBEL.out).at_ (by omega)
     obtain ⟨bB, oB, haB, hbB, hclB⟩ := (HD2.out.below HBEL.out).at_ (by have := EN.out; omega)
     subst haA haB
     have hcA := hclA j hj
     have hcB := hclB j (by have := EN.out; omega)
     rw [digs_at] at hcA hcB
     have hatA := at_dig bA oA n c j hj
     have hatB := at_dig bB oB n2 c2 j (by have := EN.out; omega)
     obtain ⟨da, hda⟩ : ∃ d, d = x / 256 ^ j % 256 := ⟨_, rfl⟩
     obtain ⟨db, hdb⟩ : ∃ d, d = y / 256 ^ j % 256 := ⟨_, rfl⟩
     have hs := HS.out
     have e1 : ((j : Int) + 1).toNat = j + 1 := by omega
     rw [e1] at hs
     rw [← hda] at hcA
     rw [← hdb] at hcB
     have HEQ := Lib.hid (show da = db → x / 256 ^ j = y / 256 ^ j from fun h => cmp_same hs (by rw [← hda, ← hdb]; exact h))
     have HLO := Lib.hid (show da < db → cmpN x y = -1 from fun h => by
       have := cmp_digit hs (by rw [← hda, ← hdb]; exact h)
       unfold cmpN; rw [if_pos this])
     have HHI := Lib.hid (show db < da → cmpN x y = 1 from fun h => by
       have := cmp_digit hs.symm (by rw [← hda, ← hdb]; exact h)
       unfold cmpN; rw [if_neg (by omega), if_neg (by omega)])
     have hw2 : wrap64 ((j : Int) - 1) = (j : Int) - 1 := by unfold wrap64; omega
     clear hclA hclB hda hdb hs e1
     by_cases hq : da = db
     · have hq' : (da : Int) = (db : Int) := by omega
       have HJ := Lib.hid (HEQ.out hq)
       clear hq
       go_upto_region 8 with (fail)
       go_quiet (fail)
       go_wp2
       go_roundw
       case rel =>
         refine ⟨(j : Int) - 1, by go_num, by omega, by omega, ?_, ?_⟩
         · have e : ((j : Int) - 1 + 1).toNat = j := by omega
           rw [e]; exact HJ.out
         · exact below_drewN HBEL.out _
       case measure => first | (simp [intOf]; done) | (simp [intOf]; omega)
     · have hq' : ¬ (da : Int) = (db : Int) := by omega
       by_cases hlo : da < db
       · have hlo' : (da : Int) < (db : Int) := by omega
         have HR := Lib.hid (HLO.out hlo)
         clear hq hlo
         go_upto_region 8 with (fail)
         go_quiet (fail)
         go_upto_region 9 with (fail)
         go_quiet (fail)
         go_wp2
         go_ret
         exact ⟨by rw [HR.out]; rfl, by first | exact below_drewN (below_drewN HBEL.out _) _ | exact below_drewN HBEL.out _⟩
       · have hlo' : ¬ (da : Int) < (db : Int) := by omega
         have HR := Lib.hid (HHI.out (by omega))
         clear hq hlo
         go_upto_region 8 with (fail)
         go_quiet (fail)
         go_upto_region 9 with (fail)
         go_quiet (fail)
         go_wp2
         go_ret
         exact ⟨by rw [HR.out]; rfl, by first | exact below_drewN (below_drewN HBEL.out _) _ | exact below_drewN HBEL.out _⟩
   · have e : i = -1 := by omega
     have HE := Lib.hid (show cmpN x y = 0 by
       have h := HS.out
       rw [e] at h
       have h' : x / 256 ^ 0 = y / 256 ^ 0 := h
       rw [Nat.pow_zero, Nat.div_one, Nat.div_one] at h'
       unfold cmpN; rw [if_neg (by omega), if_pos h'])
     clear e
     go_wp2
     go_ret
     exact ⟨by rw [HE.out]; rfl, HBEL.out⟩

end Go.Proofs.YtniakgoefkbkhaaGreatDoor

