/- slices.BinarySearchFunc at keys: where they part. -/
import Derived.Test.YtcpomddkehhkkaaDoorTree5
namespace Go.Proofs.YtcpomddkehhkkaaDoor
set_option linter.unusedVariables false
set_option linter.unusedSimpArgs false
open Go.ChangeShapes Go.WideShapes Go.ChangeAt Go.RowKit Go.Maps

set_option maxRecDepth 100000 in
set_option maxHeartbeats 4000000 in
theorem bsearch_is (f : Nat) (cap : Value) (w : World) (h : Nat) (a : Option Addr) (n c : Nat) (ks : List (List Nat)) (hn : n ≤ 1000000) (hks : KeysAt w a n ks)
    (henter : ∀ args w, (callFunc f args).run Tryd.prog w = .ok (.enter f args) w)
    (hcl : ∀ W k, Below w.heap.size w W → IsHash k → Calls Tryd.prog f #[arr k, .int .i64 1, cap] W fun e w' => e = .returned (.int .i64 ((bitAt k h : Nat) - 1 : Int)) ∧ Below W.heap.size W w')
    (mono : ∀ (i j : Nat) x y, ks[i]? = some x → ks[j]? = some y → i < j → bitAt x h ≤ bitAt y h) :
    Calls Tryd.prog 50 #[.slice a n c, .int .i64 1, .func (.func f) #[] #[cap]] w fun e w' => ∃ (p : Nat) (b : Bool), e = .returned (.tuple #[.int .i64 (p : Int), .bool b]) ∧ p ≤ n ∧
      (∀ (j : Nat) k, j < p → ks[j]? = some k → bitAt k h = 0) ∧ (∀ (j : Nat) k, p ≤ j → ks[j]? = some k → bitAt k h = 1) ∧ Below w.heap.size w w' := by
  have HK := Lib.hid hks
  have HCL := Lib.hid hcl
  have HM := Lib.hid mono
  have SZ := Lib.hid (fun (L : List Value) (hl : L.length = 32) => (by rw [hl]; kernel_rfl : (Tryd.prog.info? 27).map (·.size) = some L.length))
  clear hks hcl mono
  go_enter Tryd.func50, Tryd.ntmps50
  go_wp2_with fail
  go_loopw [9, 10] (fun i j wr => ∃ p q : Nat, i = .int .i64 (p : Int) ∧ j = .int .i64 (q : Int) ∧ p ≤ q ∧ q ≤ n ∧ (∀ (x : Nat) k, x < p → ks[x]? = some k → bitAt k h = 0) ∧ (∀ (x : Nat) k, q ≤ x → ks[x]? = some k → bitAt k h = 1) ∧ Below w.heap.size w wr) (fun i j _ => (intOf j).toNat - (intOf i).toNat)
  case atStart => exact ⟨0, n, rfl, rfl, Nat.zero_le _, Nat.le_refl _, fun x k hx => absurd hx (by omega), fun x k hx e => (by rw [List.getElem?_eq_none (by rw [HK.out.len]; exact hx)] at e; cases e), Below.refl _ _⟩
  case round =>
    obtain ⟨p, q, rfl, rfl, hpq, hqn, h0, h1, hbel⟩ := hrel
    have H0 := Lib.hid h0
    have H1 := Lib.hid h1
    have HBEL := Lib.hid hbel
    clear h0 h1 hbel
    by_cases hlt : p < q
    · obtain ⟨md, hmd⟩ : ∃ md : Nat, md = (p + q) / 2 := ⟨_, rfl⟩
      have hm1 : p ≤ md := by omega
      have hm2 : md < q := by omega
      obtain ⟨k, hk⟩ : ∃ k, ks[md]? = some k := ⟨_, List.getElem?_eq_getElem (by rw [HK.out.len]; omega)⟩
      have hkh := HK.out.hash k (List.mem_of_getElem? hk)
      obtain ⟨sb, so, hA, hsb, hr⟩ := HK.out.at_ (by omega)
      subst hA
      have hrk : wr.rangeAt sb (so + md * 32) (bcells k) := rangeAt_kept (hr md k hk) (Kept.of_below (S := fun _ => False) HBEL.out) (fun h => h)
      have hc := HCL.out wr k HBEL.out hkh
      unfold arr at hc
      obtain ⟨L, hL⟩ : ∃ L, L = bcells k := ⟨_, rfl⟩
      have hl : L.length = 32 := by rw [hL, bcells_length, hkh.1]
      obtain ⟨bt, hbt⟩ : ∃ b : Nat, b = bitAt k h := ⟨_, rfl⟩
      have hb2 : bt < 2 := by rw [hbt]; exact bitAt_lt k h
      rw [← hL] at hrk hc
      rw [← hbt] at hc
      have HRK := Lib.hid hrk
      have HC := Lib.hid hc
      have SZL := Lib.hid (SZ.out L hl)
      have EB := Lib.hid hbt
      have HKM := Lib.hid hk
      have EM := Lib.hid hmd
      clear hr hrk hc hL hl hbt hk hkh hsb hmd
      have hqm : wrap64 ((p : Int) + (q : Int)) = (p : Int) + (q : Int) := by unfold wrap64; omega
      have hqs : ((p : Int) + (q : Int)) / 2 = (md : Int) := by have := EM.out; omega
      go_wp2_with (refine wpList_load_mid rfl 27 (.tmp 27) rfl sb (so + md * 32) rfl L _ HRK.out Tryd.underlying27 rfl SZL.out ?_)
      refine HC.out.mono ?_
      rintro _ w1 ⟨rfl, hb1⟩
      have HB1 := Lib.hid (HBEL.out.trans (hb1.mono HBEL.out.size))
      clear hb1
      by_cases hb0 : (bt : Int) - 1 < 0
      · have HN := Lib.hid (show ∀ (x : Nat) k, x < md + 1 → ks[x]? = some k → bitAt k h = 0 from fun x y hx hy => by
          have e0 : bitAt k h = 0 := by rw [← EB.out]; omega
          rcases Nat.lt_or_ge x md with e | e
          · have := HM.out x md y k hy HKM.out e; omega
          · obtain rfl : x = md := by omega
            have := hy.symm.trans HKM.out
            injection this with this
            rw [this]; exact e0)
        have hq5 : wrap64 ((md : Int) + 1) = (md : Int) + 1 := by unfold wrap64; omega
        go_wp2
        go_roundw
        case rel => exact ⟨md + 1, q, by go_num, rfl, by omega, hqn, HN.out, H1.out, HB1.out⟩
        case measure => simp [intOf]; omega
      · have HN := Lib.hid (show ∀ (x : Nat) k, md ≤ x → ks[x]? = some k → bitAt k h = 1 from fun x y hx hy => by
          have e1 : bitAt k h = 1 := by rw [← EB.out]; omega
          rcases Nat.lt_or_ge md x with e | e
          · have := HM.out md x k y HKM.out hy e
            have := bitAt_lt y h; omega
          · obtain rfl : x = md := by omega
            have := hy.symm.trans HKM.out
            injection this with this
            rw [this]; exact e1)
        go_wp2
        go_roundw
        case rel => exact ⟨p, md, rfl, rfl, by omega, by omega, H0.out, HN.out, HB1.out⟩
        case measure => simp [intOf]; omega
    · obtain rfl : p = q := by omega
      by_cases hp : p < n
      · obtain ⟨k, hk⟩ : ∃ k, ks[p]? = some k := ⟨_, List.getElem?_eq_getElem (by rw [HK.out.len]; omega)⟩
        have hkh := HK.out.hash k (List.mem_of_getElem? hk)
        obtain ⟨sb, so, hA, hsb, hr⟩ := HK.out.at_ (by omega)
        subst hA
        have hrk : wr.rangeAt sb (so + p * 32) (bcells k) := rangeAt_kept (hr p k hk) (Kept.of_below (S := fun _ => False) HBEL.out) (fun h => h)
        have hc := HCL.out wr k HBEL.out hkh
        unfold arr at hc
        rw [H1.out p k (Nat.le_refl _) hk] at hc
        obtain ⟨L, hL⟩ : ∃ L, L = bcells k := ⟨_, rfl⟩
        have hl : L.length = 32 := by rw [hL, bcells_length, hkh.1]
        rw [← hL] at hrk hc
        have HRK := Lib.hid hrk
        have HC := Lib.hid hc
        have SZL := Lib.hid (SZ.out L hl)
        clear hr hrk hc hL hl hk hkh hsb
        go_wp2_with (refine wpList_load_midG (by kernel_rfl) 27 (.tmp 43) rfl sb (so + p * 32) rfl L _ HRK.out Tryd.underlying27 rfl SZL.out ?_)
        refine HC.out.mono ?_
        rintro _ w1 ⟨rfl, hb1⟩
        have HB1 := Lib.hid (HBEL.out.trans (hb1.mono HBEL.out.size))
        clear hb1
        go_wp2
        go_ret2
        exact ⟨p, _, rfl, hqn, H0.out, H1.out, HB1.out⟩
      · go_wp2
        go_ret2
        exact ⟨p, _, rfl, hqn, H0.out, H1.out, HBEL.out⟩
end Go.Proofs.YtcpomddkehhkkaaDoor
