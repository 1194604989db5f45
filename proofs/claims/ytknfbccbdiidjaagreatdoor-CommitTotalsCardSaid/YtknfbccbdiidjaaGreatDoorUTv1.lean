/- The walks of tlv's big and Size. -/
import Derived.Test.YtknfbccbdiidjaaGreatDoorWs
import Derived.Test.YtknfbccbdiidjaaGreatDoorUTv0
namespace Go.Proofs.YtknfbccbdiidjaaGreatDoor
set_option linter.unusedVariables false
set_option linter.unusedSimpArgs false
open Go.ChangeShapes Go.WideShapes Go.ChangeAt Go.RowKit Go.Maps

structure BigW (base : Nat) (w : World) (bs : List Nat) (v : Value) (wr : World) : Prop where
 own : ∃ a c, v = .slice a bs.length c ∧ wr.ownsRow base 5 1 (.slice a bs.length c) bs.length (bcells bs)
 bel : Below base w wr
set_option maxRecDepth 100000 in
set_option maxHeartbeats 2000000 in
theorem big_is (w : World) (base : Nat) (hbase : base ≤ w.heap.size) (v : Value) (bs : List Nat) (hv : BigW base w bs v w) (x n : Nat) (hx : x < 18446744073709551616) (hn : n ≤ 8) (hl : bs.length ≤ 50000000) :
  Calls Tryz.prog 121 #[v, .int .u64 (x : Int), .int .i64 (n : Int)] w fun e w' => ∃ v', e = .returned v' ∧ BigW base w (bs ++ bigN x n) v' w' := by
 have HV := Lib.hid hv
 obtain ⟨⟨a0, c0, rfl, -⟩, -⟩ := hv
 go_enter Tryz.func121, Tryz.ntmps121
 go_wp2_with fail
 go_loopw [0, 7] (fun bv iv wx => ∃ j : Nat, iv = .int .i64 ((n : Int) - 1 - (j : Int)) ∧ j ≤ n ∧ BigW base w (bs ++ (bigN x n).take j) bv wx) (fun _ iv _ => (intOf iv + 1).toNat)
 case atStart => exact ⟨0, by go_num, Nat.zero_le _, by rw [List.take_zero, List.append_nil]; exact HV.out⟩
 case round =>
  obtain ⟨j, rfl, hj, ⟨⟨oa7, oc7, hv7, hown7⟩, hbel7⟩⟩ := hrel
  subst hv7
  obtain ⟨cs, hcs⟩ : ∃ l, l = bs ++ (bigN x n).take j := ⟨_, rfl⟩
  rw [← hcs] at hown7 ⊢
  have hcl : cs.length ≤ 50000008 := by rw [hcs, List.length_append, List.length_take, bigN_len]; omega
  by_cases hj8 : j < n
  · obtain ⟨m, hm⟩ : ∃ m : Nat, (n : Int) - 1 - (j : Int) = (m : Int) ∧ m = n - 1 - j ∧ m < 8 := ⟨n - 1 - j, by omega, rfl, by omega⟩
    have hm0 : (m : Int) ≥ 0 := by omega
    rw [hm.1]
    obtain ⟨q, hq⟩ : ∃ q, q = x / 2 ^ (8 * m) % 256 := ⟨_, rfl⟩
    have hq8 : q < 256 := by rw [hq]; exact Nat.mod_lt _ (by decide)
    have hal : Below wr.heap.size wr (wr.alloc (.cells #[.int .u8 (q : Int)] 5)) := (Below.refl _ _).alloc (Nat.le_refl _) _
    have HO8 := Lib.hid (own_kept hown7 (Kept.of_below (S := fun _ => False) hal) (fun _ _ e => e))
    have hown8 : Bytes (wr.alloc (.cells #[.int .u8 (q : Int)] 5)) (wr.alloc (.cells #[.int .u8 (q : Int)] 5)).heap.size (.slice (some ⟨wr.heap.size, 0, none⟩) 1 1) [q] := ⟨_, _, rfl, Nat.le_refl _, (fun z hz => by rw [List.mem_singleton.1 hz]; exact hq8), fun _ => ⟨wr.heap.size, 0, rfl, by simp, fun i hi => by
     obtain rfl : i = 0 := Nat.lt_one_iff.1 hi
     exact (Has.new wr _ _).cell_is rfl⟩⟩
    have HSRC8 := Lib.hid hown8
    have hsz := hbel7.size
    have HBS8 := Lib.hid (show ∀ z, base ≤ (wr.alloc (.cells z 5)).heap.size from fun z => by simp; omega)
    have HLN8 := Lib.hid (show cs.length + [q].length ≤ 100000000 by simp; omega)
    have HB8 := Lib.hid (hbel7.alloc (by omega) (.cells #[.int .u8 (q : Int)] 5))
    have HE8 := Lib.hid (show bs ++ (bigN x n).take (j + 1) = cs ++ [q] by
     rw [bigN_nth x n j hj8, hcs, ← List.append_assoc, hq, hm.2.1])
    have HJ := Lib.hid hj8
    have HMJ := Lib.hid hm
    have hnn : (8 * (m : Int)).toNat = 8 * m := by omega
    have hn0 : (0 : Int) ≤ 8 * (m : Int) := by omega
    have hn1 : 8 * (m : Int) < 64 := by omega
    have hu8 : IntKind.u8.wrap ((x : Int) / 2 ^ (8 * m)) = (q : Int) := by
     rw [IntKind.wrap_u8, hq]
     have : ((x : Int) / 2 ^ (8 * m)) = ((x / 2 ^ (8 * m) : Nat) : Int) := by rw [Int.natCast_ediv, Int.natCast_pow]; rfl
     rw [this]; omega
    clear hal hown8 hcs hm hj hown7 hbel7 hq hsz
    go_wp2_with (at_builtin; refine wpList_append_bytes rfl (.tmp 14) (.tmp 20) rfl base _ cs.length (bcells cs) rfl HO8.out _ _ [q] rfl HSRC8.out HLN8.out (HBS8.out _) ?_; intro oa8 oc8 w8 hown9 hgr9)
    have hfin : BigW base w (bs ++ (bigN x n).take (j + 1)) (.slice oa8 (cs.length + [q].length) oc8) w8 := by
     rw [HE8.out]
     rw [← bcells_cat, ← List.length_append] at hown9
     exact ⟨⟨oa8, oc8, by rw [List.length_append], hown9⟩, HB8.out.grown hgr9 (HBS8.out _) (own_blk HO8.out)⟩
    have HFIN := Lib.hid hfin
    have HJ2 := Lib.hid (show (m : Int) - 1 = (n : Int) - 1 - ((j + 1 : Nat) : Int) by have h1 := HMJ.out.2.1; have h2 := HJ.out; omega)
    have HME := Lib.hid (show ((m : Int) - 1 + 1).toNat < ((m : Int) + 1).toNat by omega)
    clear hfin hown9 hgr9 hu8 hnn hn0 hn1
    go_wp2_with fail
    go_roundw
    case rel => exact ⟨j + 1, by rw [HJ2.out], by have := HJ.out; omega, HFIN.out⟩
    case measure => simp [intOf]
  · obtain rfl : j = n := by omega
    have hm0 : ¬ ((j : Int) - 1 - (j : Int)) ≥ 0 := by omega
    have hfin : BigW base w (bs ++ bigN x j) (.slice oa7 cs.length oc7) wr := by
     have e : cs = bs ++ bigN x j := by rw [hcs, List.take_of_length_le (by rw [bigN_len]; exact Nat.le_refl _)]
     rw [← e]
     exact ⟨⟨oa7, oc7, rfl, hown7⟩, hbel7⟩
    have HFIN := Lib.hid hfin
    clear hcs hown7 hbel7 hfin hj hj8 hcl
    go_wp2_with fail
    go_ret
    exact ⟨_, rfl, HFIN.out⟩
theorem one_row (w : World) (q : Nat) (hq : q < 256) : BigW w.heap.size (w.alloc (.cells #[.int .u8 (q : Int)] 5)) [q] (.slice (some ⟨w.heap.size, 0, none⟩) 1 1) (w.alloc (.cells #[.int .u8 (q : Int)] 5)) :=
 ⟨⟨_, _, rfl, ⟨rfl, .inr ⟨w.heap.size, 1, #[.int .u8 (q : Int)], rfl, Nat.le_refl _, Has.new w _ _, Nat.le_refl _, by unfold maxLen; decide, rfl, rfl⟩⟩⟩, Below.refl _ _⟩
set_option maxRecDepth 100000 in
set_option maxHeartbeats 2000000 in
theorem size_is (w : World) (x : Nat) (hx : x < 18446744073709551616) :
   Calls Tryz.prog 98 #[.int .u64 (x : Int)] w fun e w' => ∃ v', e = .returned v' ∧ BigW w.heap.size w (szB x) v' w' := by
 have HBG := Lib.hid (show ∀ (q n : Nat), q < 256 → n ≤ 8 → Calls Tryz.prog 121 #[.slice (some ⟨w.heap.size, 0, none⟩) 1 1, .int .u64 (x : Int), .int .i64 (n : Int)] (w.alloc (.cells #[.int .u8 (q : Int)] 5)) fun e w' => ∃ v', e = .returned v' ∧ BigW w.heap.size w (q :: bigN x n) v' w' from fun q n hq hn => by
   refine (big_is _ w.heap.size (by simp) _ [q] (one_row w q hq) x n hx hn (by simp)).mono ?_
   rintro e w' ⟨v', h1, h2⟩
   exact ⟨v', h1, ⟨h2.own, ((Below.refl w.heap.size w).alloc (Nat.le_refl _) _).trans h2.bel⟩⟩)
 by_cases h1 : x < 253
 · have h1' : (x : Int) < 253 := by omega
   have hw8 : IntKind.u8.wrap (x : Int) = (x : Int) := by rw [IntKind.wrap_u8]; omega
   have HF := Lib.hid (show BigW w.heap.size w (szB x) (.slice (some ⟨w.heap.size, 0, none⟩) 1 1) (w.alloc (.cells #[.int .u8 (x : Int)] 5)) by
    have := one_row w x (by omega)
    rw [show szB x = [x] by unfold szB; rw [if_pos h1]]
    exact ⟨this.own, (Below.refl w.heap.size w).alloc (Nat.le_refl _) _⟩)
   clear h1
   go_enter Tryz.func98, Tryz.ntmps98
   go_wp2_with fail
   go_ret
   exact ⟨_, rfl, HF.out⟩
 have h1' : ¬ (x : Int) < 253 := by omega
 by_cases h2 : x < 65536
 · have h2' : (x : Int) < 65536 := by omega
   have HE := Lib.hid (show szB x = 253 :: bigN x 2 by unfold szB; rw [if_neg h1, if_pos h2])
   clear h1 h2
   go_enter Tryz.func98, Tryz.ntmps98
   go_wp2_with fail
   refine (HBG.out 253 2 (by decide) (by decide)).mono ?_
   rintro _ w' ⟨v', rfl, hb⟩
   have HF := Lib.hid hb
   clear hb
   go_wp2_with fail
   go_ret
   exact ⟨_, rfl, by rw [HE.out]; exact HF.out⟩
 have h2' : ¬ (x : Int) < 65536 := by omega
 by_cases h3 : x < 4294967296
 · have h3' : (x : Int) < 4294967296 := by omega
   have HE := Lib.hid (show szB x = 254 :: bigN x 4 by unfold szB; rw [if_neg h1, if_neg h2, if_pos h3])
   clear h1 h2 h3
   go_enter Tryz.func98, Tryz.ntmps98
   go_wp2_with fail
   refine (HBG.out 254 4 (by decide) (by decide)).mono ?_
   rintro _ w' ⟨v', rfl, hb⟩
   have HF := Lib.hid hb
   clear hb
   go_wp2_with fail
   go_ret
   exact ⟨_, rfl, by rw [HE.out]; exact HF.out⟩
 have h3' : ¬ (x : Int) < 4294967296 := by omega
 have HE := Lib.hid (show szB x = 255 :: bigN x 8 by unfold szB; rw [if_neg h1, if_neg h2, if_neg h3])
 clear h1 h2 h3
 go_enter Tryz.func98, Tryz.ntmps98
 go_wp2_with fail
 refine (HBG.out 255 8 (by decide) (by decide)).mono ?_
 rintro _ w' ⟨v', rfl, hb⟩
 have HF := Lib.hid hb
 clear hb
 go_wp2_with fail
 go_ret
 exact ⟨_, rfl, by rw [HE.out]; exact HF.out⟩
end Go.Proofs.YtknfbccbdiidjaaGreatDoor

