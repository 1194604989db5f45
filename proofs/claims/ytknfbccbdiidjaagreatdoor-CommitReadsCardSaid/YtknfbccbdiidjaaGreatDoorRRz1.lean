/- The walk of the reference's Size. -/
import Derived.Test.YtknfbccbdiidjaaGreatDoorWs
import Derived.Test.YtknfbccbdiidjaaGreatDoorRTv1
namespace Go.Proofs.YtknfbccbdiidjaaGreatDoor
set_option linter.unusedVariables false
set_option linter.unusedSimpArgs false
open Go.ChangeShapes Go.WideShapes Go.ChangeAt Go.RowKit Go.Maps

theorem bigN_succ (x i : Nat) : bigN x (i + 1) = (x / 256 ^ i % 256) :: bigN x i := by
 apply List.ext_getElem?
 intro j
 cases j with
 | zero =>
  rw [bigN_at x (i + 1) 0 (by omega), List.getElem?_cons_zero]
  have : (2 : Nat) ^ (8 * (i + 1 - 1 - 0)) = 256 ^ i := by rw [show 8 * (i + 1 - 1 - 0) = 8 * i by omega, Nat.pow_mul]
  rw [this]
 | succ j =>
  rw [List.getElem?_cons_succ]
  by_cases h : j < i
  · rw [bigN_at x (i + 1) (j + 1) (by omega), bigN_at x i j h, show i + 1 - 1 - (j + 1) = i - 1 - j by omega]
  · rw [List.getElem?_eq_none (by rw [bigN_len]; omega), List.getElem?_eq_none (by rw [bigN_len]; omega)]
structure RzW (w : World) (x q n : Nat) (H i : Nat) (a : Option Addr) (c : Nat) (wr : World) : Prop where
 tail : Bytes wr wr.heap.size (.slice a i c) (bigN x i)
 head : wr.ownsRow w.heap.size 5 1 (.slice (some ⟨H, 0, none⟩) 1 1) 1 (bcells [q])
 bel : Below w.heap.size w wr
theorem RzW.round {w : World} {x q n H i : Nat} {a : Option Addr} {c : Nat} {wr w2 : World} {oa : Option Addr} {oc b : Nat} (h : RzW w x q n H i a c wr) (hb : x / 256 ^ i % 256 = b)
   (ho : w2.ownsRow wr.heap.size 5 1 (.slice oa (1 + i) oc) (1 + i) ([Value.int .u8 (b : Int)] ++ bcells (bigN x i))) (hg : (wr.alloc (.cells #[.int .u8 (b : Int)] 5)).grownBy w2 (Value.slice (some ⟨wr.heap.size, 0, none⟩) 1 1).ownBlock) :
   RzW w x q n H (i + 1) oa oc w2 := by
 have hb256 : b < 256 := by rw [← hb]; exact Nat.mod_lt _ (by decide)
 have hrow : Bytes w2 w2.heap.size (.slice oa (i + 1) oc) (bigN x (i + 1)) := by
   rw [show 1 + i = i + 1 by omega] at ho
   have e : [Value.int .u8 (b : Int)] ++ bcells (bigN x i) = bcells (bigN x (i + 1)) := by rw [bigN_succ, hb]; rfl
   rw [e] at ho
   exact own_bytes ho (bigN_len _ _) (bigN_lt _ _) (Nat.le_refl _)
 have hlt := own_lt h.head H rfl
 have hbl : Below w.heap.size w (wr.alloc (.cells #[.int .u8 (b : Int)] 5)) := h.bel.alloc h.bel.size _
 refine ⟨hrow, own_kept (h.head.alloc _) (Kept.of_grown hg) (fun k e e2 => ?_), hbl.grown hg hbl.size (fun k e => ?_)⟩
 · have e' : some H = some k := e
   have e2' : some k = some wr.heap.size := e2
   injection e' with e'
   injection e2' with e2'
   omega
 · have e' : some wr.heap.size = some k := e
   injection e' with e'
   have := h.bel.size
   omega
theorem RzW.fin {w : World} {x q n H i : Nat} {a : Option Addr} {c : Nat} {wr w2 : World} {oa : Option Addr} {oc : Nat} (h : RzW w x q n H i a c wr) (hq : q < 256)
  (ho : w2.ownsRow w.heap.size 5 1 (.slice oa (1 + i) oc) (1 + i) (bcells [q] ++ bcells (bigN x i))) (hg : wr.grownBy w2 (Value.slice (some ⟨H, 0, none⟩) 1 1).ownBlock) (hs : szB x = q :: bigN x i) :
  BigW w.heap.size w (szB x) (.slice oa (1 + i) oc) w2 := by
 have e : bcells [q] ++ bcells (bigN x i) = bcells (szB x) := by rw [hs]; rfl
 have el : 1 + i = (szB x).length := by rw [hs, List.length_cons, bigN_len]; omega
 rw [e, el] at ho
 rw [el]
 exact ⟨⟨oa, oc, rfl, ho⟩, h.bel.grown hg h.bel.size (own_blk h.head)⟩
theorem bytes_nil (w : World) (g : Nat) (a : Option Addr) (c : Nat) : Bytes w g (.slice a 0 c) [] := ⟨a, c, rfl, Nat.zero_le _, (fun x hx => by cases hx), fun h => absurd h (by decide)⟩
set_option maxRecDepth 100000 in
set_option maxHeartbeats 4000000 in
theorem rzSize_is (w : World) (x : Nat) (hx : x < 18446744073709551616) :
   Calls Tryz.prog 97 #[.int .u64 (x : Int)] w fun e w' => ∃ v', e = .returned v' ∧ BigW w.heap.size w (szB x) v' w' := by
 by_cases h1 : x < 253
 · have h1' : (x : Int) < 253 := by omega
   have h2' : (x : Int) < 65536 := by omega
   have h3' : (x : Int) < 4294967296 := by omega
   have hw8 : IntKind.u8.wrap (x : Int) = (x : Int) := by rw [IntKind.wrap_u8]; omega
   have HF := Lib.hid (show ∀ (v : World) (G : Nat), G = v.heap.size → Below w.heap.size w v → BigW w.heap.size w (szB x) (.slice (some ⟨G, 0, none⟩) 1 1) (v.alloc (.cells #[.int .u8 (x : Int)] 5)) from fun v G hG hv => by
     subst hG
     have := one_row v x (by omega)
     rw [show szB x = [x] by unfold szB; rw [if_pos h1]]
     obtain ⟨a, c, e, ho⟩ := this.own
     exact ⟨⟨a, c, e, own_base ho hv.size⟩, hv.alloc hv.size _⟩)
   clear h1
   go_enter Tryz.func97, Tryz.ntmps97
   go_wp2_with fail
   go_ret
   exact ⟨_, rfl, HF.out _ _ (by simp) ((((Below.refl _ _).alloc (Nat.le_refl _) _).alloc (by simp) _).alloc (by simp; omega) _)⟩
 have h1' : ¬ (x : Int) < 253 := by omega
 by_cases h2 : x < 65536
 · have h2' : (x : Int) < 65536 := by omega
   have h3' : (x : Int) < 4294967296 := by omega
   have HE := Lib.hid (show szB x = 253 :: bigN x 2 by unfold szB; rw [if_neg h1, if_pos h2])
   obtain ⟨W0, hW0⟩ : ∃ v, v = ((w.alloc (.cells #[.int .u8 255] 5)).alloc (.cells #[.int .u8 254] 5)) := ⟨_, rfl⟩
   obtain ⟨W1, hW1⟩ : ∃ v, v = (W0.alloc (.cells #[.int .u8 253] 5)).alloc (.cells #[] 5) := ⟨_, rfl⟩
   have hb0 : Below w.heap.size w W0 := by rw [hW0]; exact (((Below.refl _ _).alloc (Nat.le_refl _) _).alloc (by simp) _)
   have hH : W0.heap.size = w.heap.size + 1 + 1 := by rw [hW0]; simp
   have hrz : ∀ a, RzW w x 253 2 (w.heap.size + 1 + 1) 0 a 0 W1 := by
     intro a0
     obtain ⟨⟨a, c, e, ho⟩, _⟩ := one_row W0 253 (by decide)
     injection e with e1 e2 e3
     subst e1 e3
     rw [hW1]
     rw [← hH]
     exact ⟨bytes_nil _ _ _ _, (own_base ho hb0.size).alloc _, (hb0.alloc hb0.size _).alloc (by have := hb0.size; simp <;> omega) _⟩
   have HRZ := Lib.hid hrz
   have HW1 := Lib.hid hW1
   have HW0 := Lib.hid hW0
   have HX := Lib.hid hx
   clear hrz hb0 hW0 hW1 hH h1 hx h2
   go_enter Tryz.func97, Tryz.ntmps97
   go_upto_region 12 with (fail)
   try rw [← HW0.out]
   try rw [← HW1.out]
   go_wp2_with fail
   go_loopw [0, 5, 6] (fun xv tv iv wr => ∃ (i : Nat) (a : Option Addr) (c : Nat), xv = .int .u64 ((x / 256 ^ i : Nat) : Int) ∧ tv = .slice a i c ∧ iv = .int .i64 (i : Int) ∧ i ≤ 2 ∧ RzW w x 253 2 (w.heap.size + 1 + 1) i a c wr) (fun _ _ iv _ => 2 - (intOf iv).toNat)
   case atStart => exact ⟨0, _, 0, by rw [Nat.pow_zero, Nat.div_one], rfl, rfl, Nat.zero_le _, HRZ.out _⟩
   case round =>
     obtain ⟨i, a, c, rfl, rfl, rfl, hi, hr⟩ := hrel
     have HR := Lib.hid hr
     clear hr
     by_cases hin : i < 2
     · have hin' : (i : Int) < 2 := by omega
       obtain ⟨y, hy⟩ : ∃ y, y = x / 256 ^ i := ⟨_, rfl⟩
       obtain ⟨b, hb⟩ : ∃ b, b = y % 256 := ⟨_, rfl⟩
       have hb256 : b < 256 := by rw [hb]; exact Nat.mod_lt _ (by decide)
       obtain ⟨z, hz⟩ : ∃ z, z = y / 256 := ⟨_, rfl⟩
       have HZ := Lib.hid (show z = x / 256 ^ (i + 1) by rw [hz, hy, Nat.div_div_eq_div_mul, Nat.pow_succ])
       have hm : (y : Int) % 256 = (b : Int) := by omega
       have hd : (y : Int) / 256 = (z : Int) := by omega
       have hw8 : IntKind.u8.wrap (b : Int) = (b : Int) := by rw [IntKind.wrap_u8]; omega
       have hzx : z ≤ x := by rw [hz, hy]; exact Nat.le_trans (Nat.div_le_self _ _) (Nat.div_le_self _ _)
       have HZW := Lib.hid (show IntKind.u64.wrap (z : Int) = (z : Int) by rw [IntKind.wrap_u64]; have := HX.out; omega)
       have HBB := Lib.hid (show x / 256 ^ i % 256 = b by rw [hb, hy])
       have HIN := Lib.hid hin
       rw [← hy]
       obtain ⟨⟨a1, c1, e1, ho1⟩, hbl1⟩ := one_row wr b hb256
       injection e1 with e11 e12 e13
       subst e11 e13
       have HO1 := Lib.hid ho1
       have HT1 := Lib.hid (HR.out.tail.alive ((Below.refl wr.heap.size wr).alloc (Nat.le_refl _) (.cells #[.int .u8 (b : Int)] 5)) (Nat.le_refl _))
       have HLN := Lib.hid (show 1 + (bigN x i).length ≤ 100000000 by rw [bigN_len]; omega)
       have HSZ := Lib.hid (show ∀ C, wr.heap.size ≤ (wr.alloc C).heap.size from fun C => by simp)
       clear hb hy hz hin ho1 hbl1 e12 hzx
       go_wp2_with (at_builtin; refine wpList_append_bytes rfl _ _ rfl wr.heap.size _ 1 (bcells [b]) rfl HO1.out _ _ (bigN x i) rfl HT1.out HLN.out (HSZ.out _) ?_; intro oa2 oc2 w2 hown2 hgr2; rw [bigN_len] at hown2 ⊢; have HNX := Lib.hid (HR.out.round HBB.out hown2 hgr2); clear hown2 hgr2)
       go_roundw
       case rel => exact ⟨i + 1, oa2, oc2, by rw [HZW.out, HZ.out], by rw [Nat.add_comm], by go_num, HIN.out, HNX.out⟩
       case measure => have := HIN.out; simp [intOf]; omega
     · have hin' : ¬ (i : Int) < 2 := by omega
       have hi2 : i = 2 := by omega
       have HE2 := Lib.hid (show szB x = 253 :: bigN x i by rw [hi2]; exact HE.out)
       have HLN := Lib.hid (show 1 + (bigN x i).length ≤ 100000000 by rw [bigN_len]; omega)
       clear hi2 hin
       have HSZ := Lib.hid HR.out.bel.size
       go_wp2_with (at_builtin; refine wpList_append_bytes rfl _ _ rfl w.heap.size _ 1 (bcells [253]) rfl HR.out.head _ _ (bigN x i) rfl HR.out.tail HLN.out HSZ.out ?_; intro oa2 oc2 w2 hown2 hgr2; rw [bigN_len] at hown2 ⊢; have HNX := Lib.hid (HR.out.fin (by decide) hown2 hgr2 HE2.out); clear hown2 hgr2)
       go_ret
       exact ⟨_, rfl, HNX.out⟩
 have h2' : ¬ (x : Int) < 65536 := by omega
 by_cases h3 : x < 4294967296
 · have h3' : (x : Int) < 4294967296 := by omega
   have HE := Lib.hid (show szB x = 254 :: bigN x 4 by unfold szB; rw [if_neg h1, if_neg h2, if_pos h3])
   obtain ⟨W0, hW0⟩ : ∃ v, v = (w.alloc (.cells #[.int .u8 255] 5)) := ⟨_, rfl⟩
   obtain ⟨W1, hW1⟩ : ∃ v, v = (W0.alloc (.cells #[.int .u8 254] 5)).alloc (.cells #[] 5) := ⟨_, rfl⟩
   have hb0 : Below w.heap.size w W0 := by rw [hW0]; exact ((Below.refl _ _).alloc (Nat.le_refl _) _)
   have hH : W0.heap.size = w.heap.size + 1 := by rw [hW0]; simp
   have hrz : ∀ a, RzW w x 254 4 (w.heap.size + 1) 0 a 0 W1 := by
     intro a0
     obtain ⟨⟨a, c, e, ho⟩, _⟩ := one_row W0 254 (by decide)
     injection e with e1 e2 e3
     subst e1 e3
     rw [hW1]
     rw [← hH]
     exact ⟨bytes_nil _ _ _ _, (own_base ho hb0.size).alloc _, (hb0.alloc hb0.size _).alloc (by have := hb0.size; simp <;> omega) _⟩
   have HRZ := Lib.hid hrz
   have HW1 := Lib.hid hW1
   have HW0 := Lib.hid hW0
   have HX := Lib.hid hx
   clear hrz hb0 hW0 hW1 hH h1 hx h2 h3
   go_enter Tryz.func97, Tryz.ntmps97
   go_upto_region 12 with (fail)
   try rw [← HW0.out]
   try rw [← HW1.out]
   go_wp2_with fail
   go_loopw [0, 5, 6] (fun xv tv iv wr => ∃ (i : Nat) (a : Option Addr) (c : Nat), xv = .int .u64 ((x / 256 ^ i : Nat) : Int) ∧ tv = .slice a i c ∧ iv = .int .i64 (i : Int) ∧ i ≤ 4 ∧ RzW w x 254 4 (w.heap.size + 1) i a c wr) (fun _ _ iv _ => 4 - (intOf iv).toNat)
   case atStart => exact ⟨0, _, 0, by rw [Nat.pow_zero, Nat.div_one], rfl, rfl, Nat.zero_le _, HRZ.out _⟩
   case round =>
     obtain ⟨i, a, c, rfl, rfl, rfl, hi, hr⟩ := hrel
     have HR := Lib.hid hr
     clear hr
     by_cases hin : i < 4
     · have hin' : (i : Int) < 4 := by omega
       obtain ⟨y, hy⟩ : ∃ y, y = x / 256 ^ i := ⟨_, rfl⟩
       obtain ⟨b, hb⟩ : ∃ b, b = y % 256 := ⟨_, rfl⟩
       have hb256 : b < 256 := by rw [hb]; exact Nat.mod_lt _ (by decide)
       obtain ⟨z, hz⟩ : ∃ z, z = y / 256 := ⟨_, rfl⟩
       have HZ := Lib.hid (show z = x / 256 ^ (i + 1) by rw [hz, hy, Nat.div_div_eq_div_mul, Nat.pow_succ])
       have hm : (y : Int) % 256 = (b : Int) := by omega
       have hd : (y : Int) / 256 = (z : Int) := by omega
       have hw8 : IntKind.u8.wrap (b : Int) = (b : Int) := by rw [IntKind.wrap_u8]; omega
       have hzx : z ≤ x := by rw [hz, hy]; exact Nat.le_trans (Nat.div_le_self _ _) (Nat.div_le_self _ _)
       have HZW := Lib.hid (show IntKind.u64.wrap (z : Int) = (z : Int) by rw [IntKind.wrap_u64]; have := HX.out; omega)
       have HBB := Lib.hid (show x / 256 ^ i % 256 = b by rw [hb, hy])
       have HIN := Lib.hid hin
       rw [← hy]
       obtain ⟨⟨a1, c1, e1, ho1⟩, hbl1⟩ := one_row wr b hb256
       injection e1 with e11 e12 e13
       subst e11 e13
       have HO1 := Lib.hid ho1
       have HT1 := Lib.hid (HR.out.tail.alive ((Below.refl wr.heap.size wr).alloc (Nat.le_refl _) (.cells #[.int .u8 (b : Int)] 5)) (Nat.le_refl _))
       have HLN := Lib.hid (show 1 + (bigN x i).length ≤ 100000000 by rw [bigN_len]; omega)
       have HSZ := Lib.hid (show ∀ C, wr.heap.size ≤ (wr.alloc C).heap.size from fun C => by simp)
       clear hb hy hz hin ho1 hbl1 e12 hzx
       go_wp2_with (at_builtin; refine wpList_append_bytes rfl _ _ rfl wr.heap.size _ 1 (bcells [b]) rfl HO1.out _ _ (bigN x i) rfl HT1.out HLN.out (HSZ.out _) ?_; intro oa2 oc2 w2 hown2 hgr2; rw [bigN_len] at hown2 ⊢; have HNX := Lib.hid (HR.out.round HBB.out hown2 hgr2); clear hown2 hgr2)
       go_roundw
       case rel => exact ⟨i + 1, oa2, oc2, by rw [HZW.out, HZ.out], by rw [Nat.add_comm], by go_num, HIN.out, HNX.out⟩
       case measure => have := HIN.out; simp [intOf]; omega
     · have hin' : ¬ (i : Int) < 4 := by omega
       have hi2 : i = 4 := by omega
       have HE2 := Lib.hid (show szB x = 254 :: bigN x i by rw [hi2]; exact HE.out)
       have HLN := Lib.hid (show 1 + (bigN x i).length ≤ 100000000 by rw [bigN_len]; omega)
       clear hi2 hin
       have HSZ := Lib.hid HR.out.bel.size
       go_wp2_with (at_builtin; refine wpList_append_bytes rfl _ _ rfl w.heap.size _ 1 (bcells [254]) rfl HR.out.head _ _ (bigN x i) rfl HR.out.tail HLN.out HSZ.out ?_; intro oa2 oc2 w2 hown2 hgr2; rw [bigN_len] at hown2 ⊢; have HNX := Lib.hid (HR.out.fin (by decide) hown2 hgr2 HE2.out); clear hown2 hgr2)
       go_ret
       exact ⟨_, rfl, HNX.out⟩
 have h3' : ¬ (x : Int) < 4294967296 := by omega
 have HE := Lib.hid (show szB x = 255 :: bigN x 8 by unfold szB; rw [if_neg h1, if_neg h2, if_neg h3])
 obtain ⟨W1, hW1⟩ : ∃ v, v = (w.alloc (.cells #[.int .u8 255] 5)).alloc (.cells #[] 5) := ⟨_, rfl⟩
 have hb0 : Below w.heap.size w w := (Below.refl _ _)
 have hH : w.heap.size = w.heap.size := rfl
 have hrz : ∀ a, RzW w x 255 8 (w.heap.size) 0 a 0 W1 := by
   intro a0
   obtain ⟨⟨a, c, e, ho⟩, _⟩ := one_row w 255 (by decide)
   injection e with e1 e2 e3
   subst e1 e3
   rw [hW1]
   rw [← hH]
   exact ⟨bytes_nil _ _ _ _, (own_base ho hb0.size).alloc _, (hb0.alloc hb0.size _).alloc (by have := hb0.size; simp <;> omega) _⟩
 have HRZ := Lib.hid hrz
 have HW1 := Lib.hid hW1
 have HX := Lib.hid hx
 clear hrz hb0 hW1 hH h1 hx h2 h3
 go_enter Tryz.func97, Tryz.ntmps97
 go_upto_region 12 with (fail)
 try rw [← HW1.out]
 go_wp2_with fail
 go_loopw [0, 5, 6] (fun xv tv iv wr => ∃ (i : Nat) (a : Option Addr) (c : Nat), xv = .int .u64 ((x / 256 ^ i : Nat) : Int) ∧ tv = .slice a i c ∧ iv = .int .i64 (i : Int) ∧ i ≤ 8 ∧ RzW w x 255 8 (w.heap.size) i a c wr) (fun _ _ iv _ => 8 - (intOf iv).toNat)
 case atStart => exact ⟨0, _, 0, by rw [Nat.pow_zero, Nat.div_one], rfl, rfl, Nat.zero_le _, HRZ.out _⟩
 case round =>
   obtain ⟨i, a, c, rfl, rfl, rfl, hi, hr⟩ := hrel
   have HR := Lib.hid hr
   clear hr
   by_cases hin : i < 8
   · have hin' : (i : Int) < 8 := by omega
     obtain ⟨y, hy⟩ : ∃ y, y = x / 256 ^ i := ⟨_, rfl⟩
     obtain ⟨b, hb⟩ : ∃ b, b = y % 256 := ⟨_, rfl⟩
     have hb256 : b < 256 := by rw [hb]; exact Nat.mod_lt _ (by decide)
     obtain ⟨z, hz⟩ : ∃ z, z = y / 256 := ⟨_, rfl⟩
     have HZ := Lib.hid (show z = x / 256 ^ (i + 1) by rw [hz, hy, Nat.div_div_eq_div_mul, Nat.pow_succ])
     have hm : (y : Int) % 256 = (b : Int) := by omega
     have hd : (y : Int) / 256 = (z : Int) := by omega
     have hw8 : IntKind.u8.wrap (b : Int) = (b : Int) := by rw [IntKind.wrap_u8]; omega
     have hzx : z ≤ x := by rw [hz, hy]; exact Nat.le_trans (Nat.div_le_self _ _) (Nat.div_le_self _ _)
     have HZW := Lib.hid (show IntKind.u64.wrap (z : Int) = (z : Int) by rw [IntKind.wrap_u64]; have := HX.out; omega)
     have HBB := Lib.hid (show x / 256 ^ i % 256 = b by rw [hb, hy])
     have HIN := Lib.hid hin
     rw [← hy]
     obtain ⟨⟨a1, c1, e1, ho1⟩, hbl1⟩ := one_row wr b hb256
     injection e1 with e11 e12 e13
     subst e11 e13
     have HO1 := Lib.hid ho1
     have HT1 := Lib.hid (HR.out.tail.alive ((Below.refl wr.heap.size wr).alloc (Nat.le_refl _) (.cells #[.int .u8 (b : Int)] 5)) (Nat.le_refl _))
     have HLN := Lib.hid (show 1 + (bigN x i).length ≤ 100000000 by rw [bigN_len]; omega)
     have HSZ := Lib.hid (show ∀ C, wr.heap.size ≤ (wr.alloc C).heap.size from fun C => by simp)
     clear hb hy hz hin ho1 hbl1 e12 hzx
     go_wp2_with (at_builtin; refine wpList_append_bytes rfl _ _ rfl wr.heap.size _ 1 (bcells [b]) rfl HO1.out _ _ (bigN x i) rfl HT1.out HLN.out (HSZ.out _) ?_; intro oa2 oc2 w2 hown2 hgr2; rw [bigN_len] at hown2 ⊢; have HNX := Lib.hid (HR.out.round HBB.out hown2 hgr2); clear hown2 hgr2)
     go_roundw
     case rel => exact ⟨i + 1, oa2, oc2, by rw [HZW.out, HZ.out], by rw [Nat.add_comm], by go_num, HIN.out, HNX.out⟩
     case measure => have := HIN.out; simp [intOf]; omega
   · have hin' : ¬ (i : Int) < 8 := by omega
     have hi2 : i = 8 := by omega
     have HE2 := Lib.hid (show szB x = 255 :: bigN x i by rw [hi2]; exact HE.out)
     have HLN := Lib.hid (show 1 + (bigN x i).length ≤ 100000000 by rw [bigN_len]; omega)
     clear hi2 hin
     have HSZ := Lib.hid HR.out.bel.size
     go_wp2_with (at_builtin; refine wpList_append_bytes rfl _ _ rfl w.heap.size _ 1 (bcells [255]) rfl HR.out.head _ _ (bigN x i) rfl HR.out.tail HLN.out HSZ.out ?_; intro oa2 oc2 w2 hown2 hgr2; rw [bigN_len] at hown2 ⊢; have HNX := Lib.hid (HR.out.fin (by decide) hown2 hgr2 HE2.out); clear hown2 hgr2)
     go_ret
     exact ⟨_, rfl, HNX.out⟩
end Go.Proofs.YtknfbccbdiidjaaGreatDoor

