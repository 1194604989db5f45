/- The walk of MsumRoots. -/
import Derived.Test.YtcpomddkehhkkaaDoorRts0
import Derived.Test.YtcpomddkehhkkaaDoorLeaf0
namespace Go.Proofs.YtcpomddkehhkkaaDoor
set_option linter.unusedVariables false
set_option linter.unusedSimpArgs false
open Go.ChangeShapes Go.WideShapes Go.ChangeAt Go.RowKit Go.Maps

theorem at_mn (b n c k : Nat) (hk : k < n) (w : World) : (Instr.indexAt 66 (.slice (some ⟨b, 0, none⟩) n c) (.int .i64 (k : Int))).run Tryd.prog w = .ok (.pointer (some ⟨b, k * 33, none⟩)) w := by
  have hu : Tryd.prog.underlying 66 = some (.slice (Tryd.prog.elem 66)) := by kernel_rfl
  have he : Tryd.prog.elem 66 = 29 := by kernel_rfl
  have hz : ∀ w, (sizeOf 29).run Tryd.prog w = .ok 33 w := fun w => by kernel_rfl
  rw [run_indexAt_slice w 66 ⟨b, 0, none⟩ n c .i64 (k : Int) hu, if_pos ⟨by omega, by omega⟩, he, hz]
  simp only [Result.andThen, Int.toNat_natCast, Addr.add_mid, Nat.zero_add]
theorem OutAt.row {w : World} {B h : Nat} {f : Nat → Nd} (hO : OutAt w B 0 f) (hh : h < 256) : w.rangeAt B (h * 33) (ndV (f h)) := by
  obtain ⟨cs, h1, h2, h3⟩ := hO
  exact fun j v hv => h1.cell_is (h3 h (Nat.zero_le _) hh j v hv)
theorem row_of9 {w : World} {B : Nat} {t : TypeId} {L : List Value} (h : Has w B t L.toArray) : w.rangeAt B 0 L := h.row0
theorem rn_neq9 {L : List Value} (h : List Nat) (s : Nat) (hx : IsHash h) (hL : L = ncells h s) : ∀ W : World, (binOp .neq 38 (.agg L.toArray) (.agg L.toArray)).run Tryd.prog W = .ok (.bool false) W := fun W => by
  have h := rn_eq h s hx W
  rw [hL, run_neq_struct, h]; rfl
/-- while the leaves that are something are gathered. -/
def RInv (xs : List Sel) (B4 B7 N5 : Nat) (LK : List Value) (w W5 wr : World) (k : Nat) (ov : Value) : Prop :=
  wr.ownsRow B7 63 34 ov (fullS (xs.take k)).length ((fullS (xs.take k)).flatMap Sel.cells) ∧ (∀ j, ov.ownBlock = some j → j = B7 ∨ N5 ≤ j) ∧ Kept (fun j => j = B7 ∨ N5 ≤ j) W5 wr
set_option maxRecDepth 100000 in
set_option maxHeartbeats 16000000 in
theorem roots_walk (w : World) (hT : Tabs KS SS w) (A : Option Addr) (n c : Nat) (os : List OpT) (hos : OpsAt w A n os) (key : List Nat) (hkey : IsHash key) (x : Int) (hx1 : -9223372036854775808 ≤ x) (hx2 : x ≤ 9223372036854775807) :
    Calls Tryd.prog 5 #[.slice A n c, arr key, .int .i64 x] w fun e w' => e = .returned (.bool true) ∧ Below w.heap.size w w' := by
  obtain ⟨ZT, -, hzt, hZTs, hZTn, -, -⟩ := zero_tab
  obtain ⟨ZL, hzl, hZLs, hZLn⟩ := zero_sel
  obtain ⟨isl, hil, hil0, hil1, hil2⟩ := info_parts info_leafR
  obtain ⟨LT, hLT⟩ : ∃ L, L = tabsL SS KS := ⟨_, rfl⟩
  obtain ⟨LK, hLK⟩ : ∃ L, L = bcells key := ⟨_, rfl⟩
  obtain ⟨xs, hxs⟩ : ∃ xs, xs = someL 4 os := ⟨_, rfl⟩
  have lt := tabs_length KS SS ks_len ss_len
  rw [← hLT] at lt
  have ek : arr key = .agg LK.toArray := by rw [hLK]; rfl
  rw [ek]
  have hxl : xs.length ≤ 4 := by rw [hxs]; exact someL_len 4 os
  have hnd : (xs.map (·.key)).Nodup := by rw [hxs]; exact some_nodup 4 os
  have hsm : ∀ y ∈ xs, y.s < 281474976710656 ∧ y.v.length ≤ 200 := fun y hy => by
    rw [hxs] at hy
    obtain ⟨o, -, rfl, h2⟩ := some_each 4 os y hy
    exact ⟨pick_small o, h2⟩
  obtain ⟨ys, hys⟩ : ∃ ys, ys = fullS xs := ⟨_, rfl⟩
  have hyl : ys.length ≤ 4 := by rw [hys]; exact Nat.le_trans (fullS_len xs) hxl
  have hput : ∀ (k : Nat) y, ys[k]? = some y → putE (buildT (ys.take k)) y.leaf = 0 := full_fits ys (by omega) (fun y hy => (hsm y (fullS_mem (by rw [← hys]; exact hy)).1).1) (fun y hy => by have := (hsm y (fullS_mem (by rw [← hys]; exact hy)).1).2; omega) (fun y hy => (fullS_mem (by rw [← hys]; exact hy)).2)
  have hbuild : buildT ys = ys.map Sel.leaf := build_all ys (by rw [hys]; exact fullS_nodup hnd) hput
  have hsum : sumS ys < 18446744073709551616 := by
    have hb := (build_fits ys (fun y hy => (hsm y (fullS_mem (by rw [← hys]; exact hy)).1).1)).2
    rw [hbuild, sumS_leaf] at hb
    have : ys.length * 281474976710656 ≤ 4 * 281474976710656 := Nat.mul_le_mul_right _ hyl
    omega
  have hb4 := Has.new w 27 LK.toArray
  have hbel := (Below.refl w.heap.size w).alloc (Nat.le_refl _) (.cells LK.toArray 27)
  have HT := Lib.hid hT
  have HLOW := Lib.hid hT.low
  have HOS := Lib.hid hos
  have HKEY := Lib.hid hkey
  have EZT := Lib.hid hZTs
  have EZL := Lib.hid hZLs
  have ELT := Lib.hid hLT
  have ELK := Lib.hid hLK
  have EXS := Lib.hid hxs
  have EYS := Lib.hid hys
  have HXL := Lib.hid (And.intro hxl hyl)
  have HPUT := Lib.hid hput
  have HBUILD := Lib.hid hbuild
  have HSUM := Lib.hid hsum
  have HB4 := Lib.hid hb4
  have HBEL := Lib.hid hbel
  have SZT := Lib.hid (show (Tryd.prog.info? 35).map (·.size) = some LT.length by rw [lt]; kernel_rfl)
  have SZT2 := Lib.hid (show (Tryd.prog.info? 35).map (·.size) = some LT.toArray.size by rw [List.size_toArray, lt]; kernel_rfl)
  have ONET := Lib.hid (show LT.toArray.all (·.oneCell') = true by rw [hLT, ← tab_words]; exact tab_one)
  have HZT := Lib.hid (show ZT.size = LT.toArray.size by rw [hZTs, List.size_toArray, lt])
  have SZK := Lib.hid (show (Tryd.prog.info? 27).map (·.size) = some LK.length by rw [hLK, bcells_length, hkey.1]; kernel_rfl)
  have HMAKE := Lib.hid (show ∀ x, Calls Tryd.prog 12 #[] x fun e w' => e = .returned (.agg LT.toArray) ∧ Below x.heap.size x w' from fun x => by rw [hLT, ← tab_words]; exact make_is x)
  have HEMP := Lib.hid (show ∀ x, Calls Tryd.prog 25 #[.agg LT.toArray] x (EmpP x KS SS) from fun x => by rw [hLT]; exact refEmpties_is KS SS ks_len ss_len x)
  have HZ34 := Lib.hid (show (Value.agg (Sel.cells ⟨List.replicate 32 0, none, 0, [], 0, z32k⟩).toArray).cells.size = 34 by kernel_rfl)
  have HXB := Lib.hid (And.intro hx1 hx2)
  clear hT hos hkey hZTs hZLs hLT hLK hxs hys hxl hyl hput hbuild hsum hb4 hbel lt ek hnd hsm hx1 hx2
  go_enter Tryd.func5, Tryd.ntmps5
  go_upto_region 1 with (fail)
  generalize w.alloc (.cells LK.toArray 27) = W0 at HB4 HBEL ⊢
  obtain ⟨B4, hB4⟩ : ∃ B, B = w.heap.size := ⟨_, rfl⟩
  rw [← hB4] at HB4 ⊢
  have EB4 := Lib.hid hB4
  clear hB4
  go_wp2_with fail
  refine (headT_is KS SS W0 (HT.out.below HBEL.out HLOW.out)).mono ?_
  rintro _ w1 ⟨rfl, hb1⟩
  obtain ⟨B7, hB7⟩ : ∃ B, B = w1.heap.size := ⟨_, rfl⟩
  have hk3 : Kept (fun _ => False) W0 (w1.alloc (.cells #[] 63)) := (Kept.of_below hb1).trans ((Kept.refl _ _).alloc _)
  have hs3 : (w1.alloc (.cells #[] 63)).heap.size = B7 + 1 := by rw [hB7]; simp
  have hbe3 : Below w.heap.size w (w1.alloc (.cells #[] 63)) := HBEL.out.trans (hk3.below HBEL.out.size (fun _ h => h.elim))
  have hown3 : (w1.alloc (.cells #[] 63)).ownsRow B7 63 34 (.slice (some ⟨B7, 0, none⟩) 0 0) 0 [] := by rw [hB7]; exact World.ownsRow_made w1 #[] 0 (Nat.le_refl _) (by decide) rfl
  have HS3 := Lib.hid hs3
  have HBE3 := Lib.hid hbe3
  have HOWN3 := Lib.hid hown3
  have HK3W := Lib.hid hk3
  have HB7 := Lib.hid (show B4 < B7 ∧ w.heap.size ≤ B7 by have h1 := HB4.out.lt; have h2 := hb1.size; have h3 := HBEL.out.size; omega)
  have HB7E := Lib.hid hB7
  clear hb1 hk3 hs3 hbe3 hown3 hB7
  go_upto_region 4 with (fail)
  rw [← HB7E.out]
  generalize w1.alloc (.cells #[] 63) = W3 at HS3 HBE3 HOWN3 HK3W ⊢
  have hsome := some_is W3 A n c os (HOS.out.below HBE3.out) 4 (by decide)
  change Calls Tryd.prog 27 #[.slice A n c, .int .i64 4] W3 _ at hsome
  rw [← EXS.out] at hsome
  have HSOME := Lib.hid hsome
  clear hsome
  go_wp2_with fail
  refine HSOME.out.mono ?_
  rintro _ W5 ⟨v', rfl, hgot⟩
  obtain ⟨⟨oa, on, oc, rfl⟩, hgo, hbe5⟩ := id hgot
  have hokW : ∀ y ∈ xs, y.ok W3 := fun y hy => by
    rw [EXS.out] at hy
    exact some_take_ok (HOS.out.below HBE3.out) 4 y hy
  have hsels := hgot.sels hokW (by have := HXL.out.1; omega)
  obtain ⟨N5, hN5⟩ : ∃ N, N = W5.heap.size := ⟨_, rfl⟩
  have hbe5w : Below w.heap.size w W5 := HBE3.out.trans (hbe5.mono HBE3.out.size)
  have hrows : 0 < on → ∃ b, oa = some ⟨b, 0, none⟩ ∧ B7 < b ∧ b < N5 ∧ ∀ (i : Nat) y, xs[i]? = some y → W5.rangeAt b (i * 34) y.cells := fun h0 => by
    obtain ⟨gs, cap, cur, e, hB, hh, -⟩ := own_open hgo (by rw [← hsels.len] at h0; exact h0)
    injection e with e1 e2 e3
    obtain ⟨b, o, e4, h5, h6⟩ := hsels.at_ h0
    rw [e1] at e4
    injection e4 with e4
    injection e4 with e5 e6
    subst e5
    subst e6
    refine ⟨gs, e1, by have := HS3.out; omega, by rw [hN5]; exact h5, fun i y hi => ?_⟩
    have := h6 i y hi
    rwa [Nat.zero_add] at this
  have HROWS := Lib.hid hrows
  have HON := Lib.hid hsels.len
  have HOK := Lib.hid (show ∀ v, Below w.heap.size w v → ∀ y ∈ xs, y.ok v from fun v hv y hy => by
    have := hokW y hy
    have h0 : y.ok w := by
      rw [EXS.out] at hy
      exact some_take_ok HOS.out 4 y hy
    exact h0.below hv)
  have HBE5 := Lib.hid hbe5w
  have HB45 := Lib.hid (show Has W5 B4 27 LK.toArray from (HB4.out.kept HK3W.out (fun h => h)).kept (Kept.of_below (S := fun _ => False) hbe5) (fun h => h))
  have hst : RInv xs B4 B7 N5 LK w W5 W5 0 (.slice (some ⟨B7, 0, none⟩) 0 0) := by
    refine ⟨own_kept HOWN3.out (Kept.of_below (S := fun _ => False) hbe5) (fun _ _ h => h), fun j e => ?_, Kept.refl _ _⟩
    obtain rfl : B7 = j := by simpa [Value.ownBlock] using e
    exact .inl rfl
  have HST := Lib.hid hst
  have EN5 := Lib.hid (show N5 = W5.heap.size ∧ B7 < N5 by have h1 := hbe5.size; have h2 := HS3.out; omega)
  clear hgot hgo hbe5 hokW hsels hrows hbe5w hst hN5 HSOME HK3W HB4 HOWN3
  have hon : on ≤ 4 := by have h1 := HON.out; have h2 := HXL.out.1; omega
  go_wp2_with fail
  go_loopw [7, 20] (fun ov i wr => ∃ k : Nat, i = .int .i64 (k : Int) ∧ k ≤ on ∧ RInv xs B4 B7 N5 LK w W5 wr k ov) (fun _ i _ => on - (intOf i).toNat)
  case atStart => exact ⟨0, rfl, Nat.zero_le _, HST.out⟩
  case round =>
    clear HST
    obtain ⟨k, rfl, hk, hinv⟩ := hrel
    have HI := Lib.hid hinv
    obtain ⟨ra, rc, rfl⟩ := own_form hinv.1
    obtain ⟨q, hq⟩ : ∃ q, q = (fullS (xs.take k)).length := ⟨_, rfl⟩
    rw [← hq] at HI
    have EQ := Lib.hid hq
    change Hid (RInv xs B4 B7 N5 LK w W5 wr k (.slice ra q rc)) at HI
    clear hinv
    rw [← hq]
    have hbw : ∀ v, Kept (fun j => j = B7 ∨ N5 ≤ j) W5 v → Below w.heap.size w v := fun v hv => HBE5.out.trans (hv.below HBE5.out.size (fun j e => by have h1 := HB7.out; have h2 := EN5.out; rcases e with e | e <;> omega))
    have HBW := Lib.hid hbw
    clear hbw
    by_cases hlt : k < on
    · obtain ⟨y, hy⟩ : ∃ y, xs[k]? = some y := ⟨_, List.getElem?_eq_getElem (by rw [HON.out]; exact hlt)⟩
      obtain ⟨sb, hA, hsb1, hsb2, hrow⟩ := HROWS.out (by omega)
      subst hA
      have hrw := rangeAt_kept (hrow k y hy) HI.out.2.2 (show ¬ (sb = B7 ∨ N5 ≤ sb) by omega)
      obtain ⟨LX, hLX⟩ : ∃ L, L = y.cells := ⟨_, rfl⟩
      have lx : LX.length = 34 := by rw [hLX]; exact Sel.len' y
      rw [← hLX] at hrw
      obtain ⟨q1, q2⟩ := sel_get y.h.1
      obtain ⟨yn, hyn⟩ : ∃ m, m = y.v.length := ⟨_, rfl⟩
      obtain ⟨yv, hyv⟩ : ∃ m, m = y.s := ⟨_, rfl⟩
      rw [← hyn] at q1
      rw [← hyv] at q2
      have HRW := Lib.hid hrw
      have HYK := Lib.hid hy
      have HLX := Lib.hid lx
      have ELX := Lib.hid hLX
      have SZX := Lib.hid (show (Tryd.prog.info? 63).map (·.size) = some LX.length by rw [lx]; kernel_rfl)
      have SZXA := Lib.hid (show (Tryd.prog.info? 63).map (·.size) = some LX.toArray.size by rw [List.size_toArray]; exact SZX.out)
      have HONEX := Lib.hid (show ∀ u ∈ LX, u.oneCell' = true by rw [hLX]; exact Sel.one y)
      have ONEXA := Lib.hid (show LX.toArray.all (·.oneCell') = true from all_oneCell_toArray HONEX.out)
      have HZX := Lib.hid (show ZL.size = LX.toArray.size by rw [EZL.out, List.size_toArray, lx])
      have h9 := Has.new wr 63 ZL
      have hw9 : Has ((wr.alloc (.cells ZL 63)).setRow wr.heap.size LX.toArray) wr.heap.size 63 LX.toArray ∧ Kept (fun _ => False) wr ((wr.alloc (.cells ZL 63)).setRow wr.heap.size LX.toArray) := by
        rw [World.setRow_alloc_new]
        exact ⟨Has.new _ _ _, (Kept.refl _ _).alloc _⟩
      have H9 := Lib.hid h9
      have HW9 := Lib.hid hw9
      have HK2 := Lib.hid (show k + 1 ≤ on ∧ on - (k + 1) < on - k by omega)
      have HWK := Lib.hid (wrap64_succ k (by omega))
      have hlt' : (k : Int) < (on : Int) := by omega
      have hat := at_sel sb 0 on oc k hlt
      rw [Nat.zero_add] at hat
      have HQ12 := Lib.hid (show LX.toArray[32]? = some (.slice y.a yn y.c) ∧ LX.toArray[33]? = some (.int .u64 (yv : Int)) by rw [List.getElem?_toArray, List.getElem?_toArray, hLX]; exact ⟨q1, q2⟩)
      have HSN := Lib.hid (fullS_snoc xs k y hy)
      have HISB := Lib.hid (show isB y = (decide (0 < yn) || decide (0 < yv)) by rw [hyn, hyv]; rfl)
      have hynb : yn ≤ 1000000 := by
        have := (HOK.out w (Below.refl _ _) y (List.mem_of_getElem? hy)).short
        omega
      clear hrw hy hrow hsb1 hsb2 hLX lx q1 q2 hyn hyv h9 hw9 hlt hk hq
      go_upto_region 7 with (first
        | (refine wpList_load_mid rfl 63 (.tmp 22) rfl sb (k * 34) rfl LX _ HRW.out Tryd.underlying63 rfl SZX.out ?_)
        | (refine wpList_store_row rfl 63 (.tmp 9) (.tmp 23) rfl wr.heap.size LX.toArray rfl rfl 63 ZL H9.out SZXA.out HZX.out ONEXA.out ?_))
      have hkw9 : Kept (fun j => j = B7 ∨ N5 ≤ j) W5 ((wr.alloc (.cells ZL 63)).setRow wr.heap.size LX.toArray) := HI.out.2.2.trans (HW9.out.2.mono (fun _ _ h => h.elim))
      have hown9 := own_kept HI.out.1 HW9.out.2 (fun _ _ h => h)
      have HKW9 := Lib.hid hkw9
      have HOWN9 := Lib.hid hown9
      have HBX := Lib.hid (show N5 ≤ wr.heap.size by have h1 := HI.out.2.2.size; have h2 := EN5.out.1; omega)
      have HOB := Lib.hid HI.out.2.1
      obtain ⟨Bx, hBx⟩ : ∃ B, B = wr.heap.size := ⟨_, rfl⟩
      rw [← hBx] at HW9 HKW9 HOWN9 ⊢
      generalize (wr.alloc (.cells ZL 63)).setRow Bx LX.toArray = W9 at HW9 HKW9 HOWN9 ⊢
      have d0 : W9.cell? ⟨Bx, 32, none⟩ = some (.slice y.a yn y.c) := HW9.out.1.cell_is HQ12.out.1
      have d1 : W9.cell? ⟨Bx, 33, none⟩ = some (.int .u64 (yv : Int)) := HW9.out.1.cell_is HQ12.out.2
      have HRX := Lib.hid (row_of9 HW9.out.1)
      clear hkw9 hown9 hat hBx H9 HRW HI
      have hfull : isB y = true → ∀ g6 cap6 w6, w6.ownsRow B7 63 34 (.slice (some ⟨g6, 0, none⟩) (q + 1) cap6) (q + 1) ((fullS (xs.take k)).flatMap Sel.cells ++ LX) → (W9.alloc (.cells LX.toArray 63)).grownBy w6 (Value.slice ra q rc).ownBlock → ((Value.slice ra q rc).ownBlock = some g6 ∨ g6 = (W9.alloc (.cells LX.toArray 63)).heap.size) →
          RInv xs B4 B7 N5 LK w W5 w6 (k + 1) (.slice (some ⟨g6, 0, none⟩) (q + 1) cap6) := fun hb g6 cap6 w6 ho6 hg6 hat6 => by
        have hk6 : Kept (fun j => j = B7 ∨ N5 ≤ j) W5 w6 := (HKW9.out.trans ((Kept.refl _ W9).alloc _)).grown hg6 (fun j e => .inl (HOB.out j e))
        refine ⟨?_, fun j e => ?_, hk6⟩
        · rw [HSN.out, if_pos hb, List.length_append, List.flatMap_append, ← EQ.out]
          simpa [← ELX.out] using ho6
        · obtain rfl : g6 = j := by simpa [Value.ownBlock] using e
          rcases hat6 with h | h
          · exact HOB.out g6 h
          · have h1 := HKW9.out.size
            have h2 := EN5.out.1
            have h3 : (W9.alloc (.cells LX.toArray 63)).heap.size = W9.heap.size + 1 := by simp
            omega
      have HFULL := Lib.hid hfull
      have HSKIP := Lib.hid (show isB y = false → RInv xs B4 B7 N5 LK w W5 W9 (k + 1) (.slice ra q rc) from fun hb => by
        refine ⟨?_, HOB.out, HKW9.out⟩
        rw [HSN.out, if_neg (by rw [hb]; decide)]
        exact HOWN9.out)
      have HOWNA := Lib.hid (show (W9.alloc (.cells LX.toArray 63)).ownsRow B7 63 34 (.slice ra q rc) q ((fullS (xs.take k)).flatMap Sel.cells) by
        have h := own_kept HOWN9.out ((Kept.refl (fun _ => False) W9).alloc (.cells LX.toArray 63)) (fun _ _ h => h)
        rw [← EQ.out] at h
        exact h)
      obtain ⟨FC, hFC⟩ : ∃ L, L = (fullS (xs.take k)).flatMap Sel.cells := ⟨_, rfl⟩
      rw [← hFC] at HFULL HOWNA
      have hql : q ≤ 4 := by
        have h1 := fullS_len (xs.take k)
        have h2 := List.length_take_le' k xs
        have h3 := HXL.out.1
        have h5 := EQ.out
        omega
      have HML := Lib.hid (show q + 1 ≤ maxLen by unfold maxLen; omega)
      have HBY := Lib.hid (show (q + 1) * 64 ≤ 140737488355328 by omega)
      have HBS := Lib.hid (show B7 ≤ (W9.alloc (.cells LX.toArray 63)).heap.size by
        have h1 := HKW9.out.size
        have h2 := EN5.out
        have h3 : (W9.alloc (.cells LX.toArray 63)).heap.size = W9.heap.size + 1 := by simp
        omega)
      clear hfull hFC hql
      have h3 : (0 < (yn : Int)) ∨ (¬ 0 < (yn : Int) ∧ 0 < (yv : Int)) ∨ (¬ 0 < (yn : Int) ∧ ¬ 0 < (yv : Int)) := by omega
      rcases h3 with e1 | ⟨e1, e2⟩ | ⟨e1, e2⟩
      case' inl =>
        have HBT := Lib.hid (show isB y = true by rw [HISB.out, decide_eq_true (show 0 < yn by omega)]; rfl)
      case' inr.inl =>
        have HBT := Lib.hid (show isB y = true by rw [HISB.out, decide_eq_true (show 0 < yv by omega), Bool.or_true])
      case' inr.inr =>
        have HBT := Lib.hid (show isB y = false by rw [HISB.out, decide_eq_false (show ¬ 0 < yn by omega), decide_eq_false (show ¬ 0 < yv by omega)]; rfl)
        go_wp2
        have HFIN := Lib.hid (HSKIP.out HBT.out)
        go_roundw
        case rel => exact ⟨k + 1, by first | rfl | exact congrArg (Value.int .i64) HWK.out, HK2.out.1, HFIN.out⟩
        case measure =>
          first | exact HK2.out.2 | (show on - (intOf (Value.int .i64 (wrap64 ((k : Int) + 1)))).toNat < _; rw [HWK.out]; exact HK2.out.2)
      all_goals
        go_wp2_with (first
          | (refine wpList_load_mid rfl 63 (.tmp 9) rfl Bx 0 rfl LX _ HRX.out Tryd.underlying63 rfl SZX.out ?_)
          | (refine wpList_build1 rfl 60 63 (.tmp 34) rfl isl _ Tryd.underlying60 hil hil0 LX (by rw [hil1, HLX.out]) (by rw [HLX.out]; kernel_rfl) (by rw [HLX.out]; decide) (by rw [HLX.out]; decide) rfl ?_)
          | (at_builtin; refine wpList_append_lies _ rfl (.tmp 33) (.tmp 35) 60 rfl B7 63 isl _ 34 64 Tryd.underlying60 hil hil0 hil1 hil2 HZ34.out (by decide) _ q _ rfl HOWNA.out ⟨W9.heap.size, 0, none⟩ 1 1 LX rfl HLX.out (World.news_of_block (cs := LX.toArray) (heap_alloc_new W9 _)) HONEX.out (by decide) HML.out HBY.out HBS.out _ rfl ?_; intro g6 cap6 w6 hown6 hgr6 hat6 hlt6))
        have hfin := HFULL.out HBT.out g6 cap6 w6 hown6 hgr6 hat6
        have HFIN := Lib.hid hfin
        clear hfin hown6 hgr6 hat6 hlt6 d0 d1
        go_wp2
        go_roundw
        case rel => exact ⟨k + 1, by first | rfl | exact congrArg (Value.int .i64) HWK.out, HK2.out.1, HFIN.out⟩
        case measure =>
          first | exact HK2.out.2 | (show on - (intOf (Value.int .i64 (wrap64 ((k : Int) + 1)))).toNat < _; rw [HWK.out]; exact HK2.out.2)
    · obtain rfl : k = on := by omega
      have hno : ¬ (k : Int) < (k : Int) := by omega
      obtain ⟨i1, i2, i3⟩ := HI.out
      have hxt : fullS (xs.take k) = ys := by rw [List.take_of_length_le (by rw [HON.out]; exact Nat.le_refl _), EYS.out]
      rw [hxt] at i1 hq
      have hbr := HBW.out wr i3
      have hsel : SelsAt wr ra q ys := own_sels (c := rc) i1 (fun y hy => HOK.out wr hbr y (by rw [EYS.out] at hy; exact (fullS_mem hy).1)) (by have := HXL.out.2; omega)
      obtain ⟨aa, haa⟩ : ∃ a, a = ra := ⟨_, rfl⟩
      obtain ⟨na, hna⟩ : ∃ a, a = q := ⟨_, rfl⟩
      obtain ⟨ac, hac⟩ : ∃ a, a = rc := ⟨_, rfl⟩
      rw [← haa, ← hna, ← hac]
      rw [← haa, ← hna] at hsel
      have htree := tree_is KS SS ss_len wr aa na ac ys hsel (fun k x hk => .inl (HPUT.out k x hk))
      have HSELR := Lib.hid hsel
      have HTREE := Lib.hid htree
      have HBR := Lib.hid hbr
      have HB4R := Lib.hid (HB45.out.kept i3 (by have h1 := HB7.out; have h2 := EN5.out; omega))
      clear i1 i2 i3 hxt hbr hsel htree haa hna hac hq HI HBW
      go_wp2_with fail
      refine HTREE.out.mono ?_
      rintro _ w9 ⟨g, rfl, htr, hb9, hg⟩
      obtain ⟨N8, hN8⟩ : ∃ N, N = wr.heap.size := ⟨_, rfl⟩
      obtain ⟨N9, hN9⟩ : ∃ N, N = w9.heap.size := ⟨_, rfl⟩
      have htr2 : Tr KS SS (fun j => N8 ≤ j ∧ j < N9) w9 g (buildT ys) := htr.zone (fun j h1 h2 => ⟨by omega, by omega⟩)
      rw [HBUILD.out] at htr2
      have HTR := Lib.hid htr2
      have HB9 := Lib.hid hb9
      have HG := Lib.hid (show 2 + 1 ≤ g from by have h1 := HBR.out.size; have h2 := HLOW.out; omega)
      have EN := Lib.hid (And.intro hN8 hN9)
      clear htr hb9 hg htr2 hN8 hN9
      go_wp2_with fail
      refine (HMAKE.out _).mono ?_
      rintro _ w10 ⟨rfl, hb10⟩
      have h9 := Has.new w10 35 ZT
      have hw11 : Has ((w10.alloc (.cells ZT 35)).setRow w10.heap.size LT.toArray) w10.heap.size 35 LT.toArray ∧ Kept (fun _ => False) w9 ((w10.alloc (.cells ZT 35)).setRow w10.heap.size LT.toArray) := by
        rw [World.setRow_alloc_new]
        exact ⟨Has.new _ _ _, (Kept.of_below hb10).trans ((Kept.refl _ _).alloc _)⟩
      have H9 := Lib.hid h9
      have HW11 := Lib.hid hw11
      have HBT0 := Lib.hid (show N9 ≤ w10.heap.size by have h1 := hb10.size; have h2 := EN.out.2; omega)
      clear hb10 h9 hw11
      go_upto_region 14 with (refine wpList_store_row rfl 35 (.tmp 11) (.tmp 42) rfl w10.heap.size LT.toArray rfl rfl 35 ZT H9.out SZT2.out HZT.out ONET.out ?_)
      generalize (w10.alloc (.cells ZT 35)).setRow w10.heap.size LT.toArray = W11 at HW11 ⊢
      clear H9
      generalize w10.heap.size = Bt at HW11 HBT0 ⊢
      have HRT := Lib.hid HW11.out.1.row0
      go_wp2_with (refine wpList_load_mid rfl 35 (.tmp 11) rfl Bt 0 rfl LT _ HRT.out Tryd.underlying35 rfl SZT.out ?_)
      refine (HEMP.out _).mono ?_
      rintro _ W14 ⟨ge, ce, rfl, hemp, hge, hb14⟩
      have hk914 : Kept (fun _ => False) w9 W14 := HW11.out.2.trans (Kept.of_below hb14)
      have HGE := Lib.hid (show N9 ≤ ge by have h1 := HW11.out.2.size; have h2 := EN.out.2; omega)
      have hkr14 : Kept (fun _ => False) wr W14 := (Kept.of_below HB9.out).trans hk914
      have hbe14 : Below w.heap.size w W14 := HBR.out.trans (hkr14.below HBR.out.size (fun _ h => h.elim))
      obtain ⟨Z, hZ⟩ : ∃ Z : Nat → Prop, Z = fun j => N8 ≤ j ∧ j < N9 := ⟨_, rfl⟩
      have hbz : ∀ v, Kept Z W14 v → Below w.heap.size w v := fun v hk => hbe14.trans (hk.below hbe14.size (fun j e => by rw [hZ] at e; have h1 := EN.out.1; have h2 := HBR.out.size; omega))
      have HKT := Lib.hid (show ∀ v, Kept Z W14 v → v.rangeAt Bt 0 LT from fun v hk => ((HW11.out.1.kept (Kept.of_below (S := fun _ => False) hb14) (fun h => h)).kept hk (by rw [hZ]; have := HBT0.out; omega)).row0)
      have HK4 := Lib.hid (show ∀ v, Kept Z W14 v → v.rangeAt B4 0 LK from fun v hk => ((HB4R.out.kept hkr14 (fun h => h)).kept hk (by rw [hZ]; have h1 := HB4R.out.lt; have h2 := EN.out.1; omega)).row0)
      have hselv : ∀ v, Kept Z W14 v → SelsAt v aa na ys := fun v hk => by
        have hs := HSELR.out
        refine ⟨hs.len, hs.few, fun y hy => HOK.out v (hbz v hk) y (by rw [EYS.out] at hy; exact (fullS_mem hy).1), fun h0 => ?_⟩
        obtain ⟨b, o, e1, e2, e3⟩ := hs.at_ h0
        have hkk : Kept Z wr v := (hkr14.mono (fun _ _ h => h.elim)).trans hk
        exact ⟨b, o, e1, Nat.lt_of_lt_of_le e2 hkk.size, fun i y hi => rangeAt_kept (e3 i y hi) hkk (by rw [hZ]; have h1 := EN.out.1; omega)⟩
      have hempv : ∀ v, Kept Z W14 v → EmpAt v KS SS ge := fun v hk => hemp.kept hk (by rw [hZ]; have := HGE.out; omega)
      obtain ⟨LR, hLR⟩ : ∃ L, L = ndV (partNd KS SS 256 (ys.map Sel.leaf)) := ⟨_, rfl⟩
      have hrh := part_hash KS SS ss_len 256 (ys.map Sel.leaf)
      have hneq := rn_neq9 (partNd KS SS 256 (ys.map Sel.leaf)).h (partNd KS SS 256 (ys.map Sel.leaf)).s hrh (L := LR) hLR
      have HROOT := Lib.hid (show ∀ v, Kept (fun _ => False) W14 v → Calls Tryd.prog 26 #[.pointer (some ⟨g, 0, none⟩)] v fun e w' => e = .returned (.agg LR.toArray) ∧ Tr KS SS Z w' g (ys.map Sel.leaf) ∧ Kept Z v w' from fun v hk => by
        have hkv : Kept (fun _ => False) w9 v := hk914.trans hk
        have ht := HTR.out.kept hkv (fun _ _ _ h => h)
        rw [hLR, hZ]
        exact tr_root ht (HT.out.below (hbz v (hk.mono (fun _ _ h => h.elim))) HLOW.out) HG.out)
      have HPLR := Lib.hid (show ∀ y, Calls Tryd.prog 13 #[.agg LR.toArray] y fun e w' => e = .returned (.agg LR.toArray) ∧ Below y.heap.size y w' from fun y => by rw [hLR]; exact plain_is y _ _ hrh.1)
      have HPART := Lib.hid (show ∀ v, Kept Z W14 v → Calls Tryd.prog 29 #[.agg LT.toArray, .slice (some ⟨ge, 0, none⟩) 257 ce, .slice aa na ac, .int .i64 256] v fun e w' => e = .returned (.agg LR.toArray) ∧ Below v.heap.size v w' from fun v hk => by
        have h := rpart_is KS SS ks_len ss_len ge ce 256 (Nat.le_refl _) v aa na ac ys (hselv v hk) (by have h1 := (hselv v hk).len; have h2 := HXL.out.2; omega) (hempv v hk) HSUM.out
        unfold PartC at h
        rw [ELT.out, hLR]; exact h)
      have HSELV := Lib.hid hselv
      have HEMPV := Lib.hid hempv
      have HBZ := Lib.hid hbz
      have EZ := Lib.hid hZ
      have HNA := Lib.hid (show na ≤ 1000 by have h1 := HSELR.out.len; have h2 := HXL.out.2; omega)
      clear hemp hge hb14 hk914 hkr14 hbe14 hbz hselv hempv hZ hLR hrh HTREE HRT hon hno
      have hKept0 : Kept Z W14 W14.drew := (Kept.refl _ _).drew
      have hKeptF : Kept (fun _ => False) W14 W14.drew := (Kept.refl _ _).drew
      have hS0 := HKT.out W14 (Kept.refl _ _)
      go_upto_region 15 with (fail)
      refine wp_region_noPanic ?_
      refine wp_region_held_drew (S := (fun v => v.rangeAt Bt 0 LT)) (by kernel_rfl) hS0 (fun hH0 => ?_)
      refine wpAnyH_take (i := 0) (v := ((.pointer (some ⟨g, 0, none⟩)))) rfl (by kernel_rfl) (by kernel_rfl) (by kernel_rfl) (fun _ _ _ h => h) (Or.inl ⟨by kernel_rfl, by intro w' hS; go_simp⟩) hH0 ?_
      simp only [Act.put, List.getElem_toArray, List.getElem_cons_zero, List.getElem_cons_succ, List.setIfInBounds_toArray, List.set_cons_zero, List.set_cons_succ]
      refine wpAnyH_take (i := 3) (v := (.agg LT.toArray)) rfl (by kernel_rfl) (by kernel_rfl) (by kernel_rfl) (fun _ _ _ h => h) (yieldsIf_load_mid (by kernel_rfl) 35 (.tmp 11) rfl Bt 0 rfl LT _ (fun w' h => h) Tryd.underlying35 rfl SZT.out) hH0 ?_
      simp only [Act.put, List.getElem_toArray, List.getElem_cons_zero, List.getElem_cons_succ, List.setIfInBounds_toArray, List.set_cons_zero, List.set_cons_succ]
      refine wpAnyH_take (i := 4) (v := ((.slice (some ⟨ge, 0, none⟩) 257 ce))) rfl (by kernel_rfl) (by kernel_rfl) (by kernel_rfl) (fun _ _ _ h => h) (Or.inl ⟨by kernel_rfl, by intro w' hS; go_simp⟩) hH0 ?_
      simp only [Act.put, List.getElem_toArray, List.getElem_cons_zero, List.getElem_cons_succ, List.setIfInBounds_toArray, List.set_cons_zero, List.set_cons_succ]
      refine wpAnyH_take (i := 5) (v := ((.slice aa na ac))) rfl (by kernel_rfl) (by kernel_rfl) (by kernel_rfl) (fun _ _ _ h => h) (Or.inl ⟨by kernel_rfl, by intro w' hS; go_simp⟩) hH0 ?_
      simp only [Act.put, List.getElem_toArray, List.getElem_cons_zero, List.getElem_cons_succ, List.setIfInBounds_toArray, List.set_cons_zero, List.set_cons_succ]
      refine wpAnyH_ready (rs := [1]) (by kernel_rfl) (by simp) ?_
      refine AllReadyH.cons rfl (fun K hK => ?_) AllReadyH.nil
      go_simp
      refine (HROOT.out _ hKeptF).mono ?_
      rintro _ x1 ⟨rfl, htr1, hc1⟩
      have HTR1 := Lib.hid htr1
      have hk1 := hKept0.trans hc1
      have hs1 := HKT.out _ hk1
      clear htr1
      refine Shut.out hK _ _ hs1 (fun hH1 => ?_)
      clear hK K
      try simp only [Act.put, List.getElem_toArray, List.getElem_cons_zero, List.getElem_cons_succ, List.setIfInBounds_toArray, List.set_cons_zero, List.set_cons_succ]
      refine wpAnyH_ready (rs := [2]) (by kernel_rfl) (by simp) ?_
      refine AllReadyH.cons rfl (fun K hK => ?_) AllReadyH.nil
      go_simp
      refine (HPLR.out _).mono ?_
      rintro _ x2 ⟨rfl, hc2⟩
      have hk2 := hk1.trans (Kept.of_below hc2)
      have hs2 := HKT.out _ hk2
      refine Shut.out hK _ _ hs2 (fun hH2 => ?_)
      clear hK K
      try simp only [Act.put, List.getElem_toArray, List.getElem_cons_zero, List.getElem_cons_succ, List.setIfInBounds_toArray, List.set_cons_zero, List.set_cons_succ]
      refine wpAnyH_ready (rs := [6]) (by kernel_rfl) (by simp) ?_
      refine AllReadyH.cons rfl (fun K hK => ?_) AllReadyH.nil
      go_simp
      refine (HPART.out _ hk2).mono ?_
      rintro _ x3 ⟨rfl, hc3⟩
      have hk3 := hk2.trans (Kept.of_below hc3)
      have hs3 := HKT.out _ hk3
      have HK3 := Lib.hid hk3
      have HTR3 := Lib.hid (HTR1.out.kept ((Kept.of_below (S := fun _ => False) hc2).trans (Kept.of_below hc3)) (fun _ _ _ h => h))
      refine Shut.out hK _ _ hs3 (fun hH3 => ?_)
      clear hK K
      try simp only [Act.put, List.getElem_toArray, List.getElem_cons_zero, List.getElem_cons_succ, List.setIfInBounds_toArray, List.set_cons_zero, List.set_cons_succ]
      refine wpAnyH_take (i := 7) (v := ((.bool false))) rfl (by kernel_rfl) (by kernel_rfl) (by kernel_rfl) (fun _ _ _ h => h) (Or.inl ⟨by kernel_rfl, by intro w' hS; go_simp⟩) hH3 ?_
      simp only [Act.put, List.getElem_toArray, List.getElem_cons_zero, List.getElem_cons_succ, List.setIfInBounds_toArray, List.set_cons_zero, List.set_cons_succ]
      refine wpAnyH_done (by kernel_rfl) ?_ _
      refine NoPanic.normal ?_
      clear hS0 hH0 hH1 hH2 hH3 hs1 hs2 hs3 hk1 hk2 hk3 hc1 hc2 hc3 hKept0 hKeptF hneq
      obtain ⟨W17, hW17⟩ : ∃ W, W = x3 := ⟨_, rfl⟩
      subst hW17
      obtain ⟨hv, hhv⟩ : ∃ hv : Nat, x % 256 = (hv : Int) := ⟨(x % 256).toNat, by omega⟩
      have hv256 : hv < 256 := by omega
      have hand : bits BinOp.and .i64 x 255 = (hv : Int) := by rw [and_255, hhv]
      have hbes := tr_beside HTR3.out (HT.out.below (HBZ.out W17 HK3.out) HLOW.out) HG.out key HKEY.out
      have ek : arr key = .agg LK.toArray := by rw [ELK.out]; rfl
      rw [ek] at hbes
      have HBESI := Lib.hid hbes
      have HV := Lib.hid hv256
      have HR4 := Lib.hid (HK4.out W17 HK3.out)
      clear hbes ek hhv
      go_wp2_with (refine wpList_load_mid rfl 27 (.tmp 4) rfl B4 0 rfl LK _ HR4.out Tryd.underlying27 rfl SZK.out ?_)
      refine HBESI.out.mono ?_
      rintro _ W18 ⟨Bo, rfl, hBo, hout, -, hc18⟩
      have hk18 : Kept Z W14 W18 := HK3.out.trans hc18
      obtain ⟨LB, hLB⟩ : ∃ L, L = ndV (partNd KS SS hv (besideT (ys.map Sel.leaf) key hv)) := ⟨_, rfl⟩
      have hbh := part_hash KS SS ss_len hv (besideT (ys.map Sel.leaf) key hv)
      have hrow := hout.row HV.out
      rw [← hLB] at hrow
      have lb : LB.length = 33 := by rw [hLB]; exact ndV_len hbh
      have heq : ∀ W, (Op.equalIn 10000 38 (.agg LB.toArray) (.agg LB.toArray)).run Tryd.prog W = .ok true W := fun W => by rw [hLB]; exact rn_eq _ _ hbh W
      have HPLB := Lib.hid (show ∀ y, Calls Tryd.prog 13 #[.agg LB.toArray] y fun e w' => e = .returned (.agg LB.toArray) ∧ Below y.heap.size y w' from fun y => by rw [hLB]; exact plain_is y _ _ hbh.1)
      have HBES := Lib.hid (show ∀ v, Kept (fun _ => False) W18 v → Calls Tryd.prog 31 #[.agg LT.toArray, .slice (some ⟨ge, 0, none⟩) 257 ce, .slice aa na ac, .agg LK.toArray, .int .i64 (hv : Int)] v fun e w' => e = .returned (.agg LB.toArray) ∧ Below v.heap.size v w' from fun v hk => by
        have hkz : Kept Z W14 v := hk18.trans (hk.mono (fun _ _ h => h.elim))
        have h := rbes_is KS SS ks_len ss_len ge ce hv HV.out key HKEY.out v aa na ac ys (HSELV.out v hkz) HNA.out (HEMPV.out v hkz) HSUM.out
        rw [bes_leaf ys key hv HV.out, ← hLB] at h
        rw [ELT.out, ELK.out]; exact h)
      have HKB := Lib.hid (show ∀ v, Kept (fun _ => False) W18 v → v.rangeAt Bt 0 LT ∧ v.rangeAt B4 0 LK ∧ v.rangeAt Bo (hv * 33) LB from fun v hk => by
        have hkz : Kept Z W14 v := hk18.trans (hk.mono (fun _ _ h => h.elim))
        exact ⟨HKT.out v hkz, HK4.out v hkz, rangeAt_kept hrow hk (fun h => h)⟩)
      have SZB := Lib.hid (show (Tryd.prog.info? 29).map (·.size) = some LB.length by rw [lb]; kernel_rfl)
      have HBE18 := Lib.hid (HBZ.out W18 hk18)
      have hat := at_mn Bo 256 256 hv hv256
      clear hBo hout hc18 hk18 hLB hbh hrow lb hand
      go_upto_region 19 with (fail)
      have hKept0 : Kept (fun _ => False) W18 W18.drew := (Kept.refl _ _).drew
      have hS0 := HKB.out W18 (Kept.refl _ _)
      refine wp_region_noPanic ?_
      refine wp_region_held_drew (S := (fun v => v.rangeAt Bt 0 LT ∧ v.rangeAt B4 0 LK ∧ v.rangeAt Bo (hv * 33) LB)) (by kernel_rfl) hS0 (fun hH0 => ?_)
      refine wpAnyH_take (i := 0) (v := ((.slice (some ⟨Bo, 0, none⟩) 256 256))) rfl (by kernel_rfl) (by kernel_rfl) (by kernel_rfl) (fun _ _ _ h => h) (Or.inl ⟨by kernel_rfl, by intro w' hS; obtain ⟨z0, z1, z2⟩ := hS; go_simp⟩) hH0 ?_
      simp only [Act.put, List.getElem_toArray, List.getElem_cons_zero, List.getElem_cons_succ, List.setIfInBounds_toArray, List.set_cons_zero, List.set_cons_succ]
      refine wpAnyH_take (i := 1) (v := ((.int .i64 256))) rfl (by kernel_rfl) (by kernel_rfl) (by kernel_rfl) (fun _ _ _ h => h) (Or.inl ⟨by kernel_rfl, by intro w' hS; obtain ⟨z0, z1, z2⟩ := hS; go_simp⟩) hH0 ?_
      simp only [Act.put, List.getElem_toArray, List.getElem_cons_zero, List.getElem_cons_succ, List.setIfInBounds_toArray, List.set_cons_zero, List.set_cons_succ]
      refine wpAnyH_take (i := 2) (v := (.bool true)) rfl (by kernel_rfl) (by kernel_rfl) (by kernel_rfl) (fun _ _ _ h => h) (Or.inl ⟨by kernel_rfl, by intro w' hS; obtain ⟨z0, z1, z2⟩ := hS; go_simp⟩) hH0 ?_
      simp only [Act.put, List.getElem_toArray, List.getElem_cons_zero, List.getElem_cons_succ, List.setIfInBounds_toArray, List.set_cons_zero, List.set_cons_succ]
      refine wpAnyH_take (i := 3) (v := (.bool true)) rfl (by kernel_rfl) (by kernel_rfl) (by kernel_rfl) (fun _ _ _ h => h) (Or.inl ⟨by kernel_rfl, by intro w' hS; obtain ⟨z0, z1, z2⟩ := hS; go_simp⟩) hH0 ?_
      simp only [Act.put, List.getElem_toArray, List.getElem_cons_zero, List.getElem_cons_succ, List.setIfInBounds_toArray, List.set_cons_zero, List.set_cons_succ]
      refine wpAnyH_take (i := 4) (v := ((.slice (some ⟨Bo, 0, none⟩) 256 256))) rfl (by kernel_rfl) (by kernel_rfl) (by kernel_rfl) (fun _ _ _ h => h) (Or.inl ⟨by kernel_rfl, by intro w' hS; obtain ⟨z0, z1, z2⟩ := hS; go_simp⟩) hH0 ?_
      simp only [Act.put, List.getElem_toArray, List.getElem_cons_zero, List.getElem_cons_succ, List.setIfInBounds_toArray, List.set_cons_zero, List.set_cons_succ]
      refine wpAnyH_take (i := 5) (v := ((.int .i64 (hv : Int)))) rfl (by kernel_rfl) (by kernel_rfl) (by kernel_rfl) (fun _ _ _ h => h) (Or.inl ⟨by kernel_rfl, by intro w' hS; obtain ⟨z0, z1, z2⟩ := hS; go_simp⟩) hH0 ?_
      simp only [Act.put, List.getElem_toArray, List.getElem_cons_zero, List.getElem_cons_succ, List.setIfInBounds_toArray, List.set_cons_zero, List.set_cons_succ]
      refine wpAnyH_take (i := 6) (v := ((.pointer (some ⟨Bo, hv * 33, none⟩)))) rfl (by kernel_rfl) (by kernel_rfl) (by kernel_rfl) (fun _ _ _ h => h) (Or.inl ⟨by kernel_rfl, by intro w' hS; obtain ⟨z0, z1, z2⟩ := hS; go_simp⟩) hH0 ?_
      simp only [Act.put, List.getElem_toArray, List.getElem_cons_zero, List.getElem_cons_succ, List.setIfInBounds_toArray, List.set_cons_zero, List.set_cons_succ]
      refine wpAnyH_take (i := 7) (v := (.agg LB.toArray)) rfl (by kernel_rfl) (by kernel_rfl) (by kernel_rfl) (fun _ _ _ h => h) (yieldsIf_load_mid (by kernel_rfl) 29 (.tmp 64) rfl Bo (hv * 33) rfl LB _ (fun w' h => h.2.2) Tryd.underlying29 rfl SZB.out) hH0 ?_
      simp only [Act.put, List.getElem_toArray, List.getElem_cons_zero, List.getElem_cons_succ, List.setIfInBounds_toArray, List.set_cons_zero, List.set_cons_succ]
      refine wpAnyH_take (i := 9) (v := (.agg LT.toArray)) rfl (by kernel_rfl) (by kernel_rfl) (by kernel_rfl) (fun _ _ _ h => h) (yieldsIf_load_mid (by kernel_rfl) 35 (.tmp 11) rfl Bt 0 rfl LT _ (fun w' h => h.1) Tryd.underlying35 rfl SZT.out) hH0 ?_
      simp only [Act.put, List.getElem_toArray, List.getElem_cons_zero, List.getElem_cons_succ, List.setIfInBounds_toArray, List.set_cons_zero, List.set_cons_succ]
      refine wpAnyH_take (i := 10) (v := ((.slice (some ⟨ge, 0, none⟩) 257 ce))) rfl (by kernel_rfl) (by kernel_rfl) (by kernel_rfl) (fun _ _ _ h => h) (Or.inl ⟨by kernel_rfl, by intro w' hS; obtain ⟨z0, z1, z2⟩ := hS; go_simp⟩) hH0 ?_
      simp only [Act.put, List.getElem_toArray, List.getElem_cons_zero, List.getElem_cons_succ, List.setIfInBounds_toArray, List.set_cons_zero, List.set_cons_succ]
      refine wpAnyH_take (i := 11) (v := ((.slice aa na ac))) rfl (by kernel_rfl) (by kernel_rfl) (by kernel_rfl) (fun _ _ _ h => h) (Or.inl ⟨by kernel_rfl, by intro w' hS; obtain ⟨z0, z1, z2⟩ := hS; go_simp⟩) hH0 ?_
      simp only [Act.put, List.getElem_toArray, List.getElem_cons_zero, List.getElem_cons_succ, List.setIfInBounds_toArray, List.set_cons_zero, List.set_cons_succ]
      refine wpAnyH_take (i := 12) (v := (.agg LK.toArray)) rfl (by kernel_rfl) (by kernel_rfl) (by kernel_rfl) (fun _ _ _ h => h) (yieldsIf_load_mid (by kernel_rfl) 27 (.tmp 4) rfl B4 0 rfl LK _ (fun w' h => h.2.1) Tryd.underlying27 rfl SZK.out) hH0 ?_
      simp only [Act.put, List.getElem_toArray, List.getElem_cons_zero, List.getElem_cons_succ, List.setIfInBounds_toArray, List.set_cons_zero, List.set_cons_succ]
      refine wpAnyH_take (i := 13) (v := ((.int .i64 (hv : Int)))) rfl (by kernel_rfl) (by kernel_rfl) (by kernel_rfl) (fun _ _ _ h => h) (Or.inl ⟨by kernel_rfl, by intro w' hS; obtain ⟨z0, z1, z2⟩ := hS; go_simp⟩) hH0 ?_
      simp only [Act.put, List.getElem_toArray, List.getElem_cons_zero, List.getElem_cons_succ, List.setIfInBounds_toArray, List.set_cons_zero, List.set_cons_succ]
      refine wpAnyH_ready (rs := [8]) (by kernel_rfl) (by simp) ?_
      refine AllReadyH.cons rfl (fun K hK => ?_) AllReadyH.nil
      go_simp
      refine (HPLB.out _).mono ?_
      rintro _ x1 ⟨rfl, hc1⟩
      have hk1 := hKept0.trans (Kept.of_below hc1)
      have hs1 := HKB.out _ hk1
      refine Shut.out hK _ _ hs1 (fun hH1 => ?_)
      clear hK K
      try simp only [Act.put, List.getElem_toArray, List.getElem_cons_zero, List.getElem_cons_succ, List.setIfInBounds_toArray, List.set_cons_zero, List.set_cons_succ]
      refine wpAnyH_ready (rs := [14]) (by kernel_rfl) (by simp) ?_
      refine AllReadyH.cons rfl (fun K hK => ?_) AllReadyH.nil
      go_simp
      refine (HBES.out _ hk1).mono ?_
      rintro _ x2 ⟨rfl, hc2⟩
      have hk2 := hk1.trans (Kept.of_below hc2)
      have hs2 := HKB.out _ hk2
      have HK2 := Lib.hid hk2
      refine Shut.out hK _ _ hs2 (fun hH2 => ?_)
      clear hK K
      try simp only [Act.put, List.getElem_toArray, List.getElem_cons_zero, List.getElem_cons_succ, List.setIfInBounds_toArray, List.set_cons_zero, List.set_cons_succ]
      refine wpAnyH_take (i := 15) (v := (.bool true)) rfl (by kernel_rfl) (by kernel_rfl) (by kernel_rfl) (fun _ _ _ h => h) (Or.inl ⟨by kernel_rfl, by intro w' hS; obtain ⟨z0, z1, z2⟩ := hS; go_simp⟩) hH2 ?_
      simp only [Act.put, List.getElem_toArray, List.getElem_cons_zero, List.getElem_cons_succ, List.setIfInBounds_toArray, List.set_cons_zero, List.set_cons_succ]
      refine wpAnyH_take (i := 16) (v := (.bool true)) rfl (by kernel_rfl) (by kernel_rfl) (by kernel_rfl) (fun _ _ _ h => h) (Or.inl ⟨by kernel_rfl, by intro w' hS; obtain ⟨z0, z1, z2⟩ := hS; go_simp⟩) hH2 ?_
      simp only [Act.put, List.getElem_toArray, List.getElem_cons_zero, List.getElem_cons_succ, List.setIfInBounds_toArray, List.set_cons_zero, List.set_cons_succ]
      refine wpAnyH_take (i := 17) (v := (.bool true)) rfl (by kernel_rfl) (by kernel_rfl) (by kernel_rfl) (fun _ _ _ h => h) (Or.inl ⟨by kernel_rfl, by intro w' hS; obtain ⟨z0, z1, z2⟩ := hS; go_simp⟩) hH2 ?_
      simp only [Act.put, List.getElem_toArray, List.getElem_cons_zero, List.getElem_cons_succ, List.setIfInBounds_toArray, List.set_cons_zero, List.set_cons_succ]
      refine wpAnyH_done (by kernel_rfl) ?_ _
      refine NoPanic.normal ?_
      have HFIN := Lib.hid (HBE18.out.trans (HK2.out.below HBE18.out.size (fun _ h => h.elim)))
      clear hS0 hH0 hH1 hH2 hs1 hs2 hk1 hk2 hc1 hc2 hKept0 heq hat
      go_wp2
      go_ret
      exact ⟨rfl, HFIN.out⟩
end Go.Proofs.YtcpomddkehhkkaaDoor
