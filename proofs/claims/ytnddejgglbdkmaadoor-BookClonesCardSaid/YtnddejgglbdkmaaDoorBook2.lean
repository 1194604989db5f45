/- The walks of sums.Total, book.side. -/
import Derived.Test.YtnddejgglbdkmaaDoorBook1
namespace Go.Proofs.YtnddejgglbdkmaaDoor
set_option linter.unusedVariables false
set_option linter.unusedSimpArgs false
open Go.ChangeShapes Go.WideShapes Go.ChangeAt Go.RowKit Go.Maps

/-- a sum with its error. -/
def totalV (xs : List Nat) : Value := if xs.sum < 18446744073709551616 then .tuple #[.int .u64 (xs.sum : Int), .int .i64 0] else .tuple #[.int .u64 0, .int .i64 10]
theorem sum_take (xs : List Nat) (k : Nat) (hk : k < xs.length) : (xs.take (k + 1)).sum = (xs.take k).sum + xs.getD k 0 := by
  rw [List.take_add_one, List.sum_append, List.getElem?_eq_getElem hk]
  simp [hk]
theorem sum_take_le (xs : List Nat) (k : Nat) : (xs.take k).sum ≤ xs.sum := by
  have : xs.sum = (xs.take k).sum + (xs.drop k).sum := by rw [← List.sum_append, List.take_append_drop]
  omega

theorem total_is (w : World) (a : Option Addr) (n c : Nat) (xs : List Nat) (hn : n = xs.length) (hn2 : n ≤ 1000000) (hb : ∀ x ∈ xs, x < 18446744073709551616)
    (hc : 0 < n → ∃ g o, a = some ⟨g, o, none⟩ ∧ ∀ i, i < n → w.cell? ⟨g, o + i, none⟩ = some (.int .u64 (xs.getD i 0 : Nat))) :
    Calls Tryd.prog 52 #[.slice a n c] w fun e w' => e = .returned (totalV xs) ∧ w' = w := by
  have HN := Lib.hid hn
  have HB := Lib.hid hb
  have HC := Lib.hid hc
  clear hn hb hc
  go_enter Tryd.func52, Tryd.ntmps52
  go_wp2
  go_loopw [11, 4] (fun i s wr => ∃ k : Nat, k ≤ n ∧ i = .int .i64 k ∧ s = .int .u64 ((xs.take k).sum : Nat) ∧ (xs.take k).sum < 18446744073709551616 ∧ wr = w) (fun i _ _ => n - (intOf i).toNat)
  case atStart => exact ⟨0, by omega, rfl, by rw [List.take_zero]; rfl, by rw [List.take_zero]; decide, rfl⟩
  case round =>
    obtain ⟨k, hk, rfl, rfl, hs, rfl⟩ := hrel
    obtain ⟨s, hss⟩ : ∃ s, s = (xs.take k).sum := ⟨_, rfl⟩
    rw [← hss] at hs ⊢
    have HS := Lib.hid hss
    clear hss
    by_cases hlt : k < n
    · have hn0 : 0 < n := by omega
      obtain ⟨g, o, rfl, hcell⟩ := HC.out hn0
      have ck := hcell k hlt
      obtain ⟨x, hx⟩ : ∃ x, x = xs.getD k 0 := ⟨_, rfl⟩
      have hxl : x < 18446744073709551616 := by
        rw [hx, List.getD_eq_getElem?_getD, List.getElem?_eq_getElem (by rw [← HN.out]; exact hlt)]
        exact HB.out _ (List.getElem_mem _)
      rw [← hx] at ck
      have HX := Lib.hid hx
      clear hcell hx
      by_cases hf : s + x < 18446744073709551616
      · go_wp2_with fail
        refine (add_fits _ s x hf).mono ?_
        rintro _ _ ⟨rfl, rfl⟩
        go_wp2
        go_roundw
        case rel => exact ⟨k + 1, by omega, by go_num, by rw [sum_take xs k (by rw [← HN.out]; exact hlt), ← HX.out, ← HS.out]; rfl, by rw [sum_take xs k (by rw [← HN.out]; exact hlt), ← HX.out, ← HS.out]; exact hf, trivial⟩
        case measure => simp [intOf]; omega
      · have hbig : ¬ xs.sum < 18446744073709551616 := by
          have h1 := sum_take_le xs (k + 1)
          rw [sum_take xs k (by rw [← HN.out]; exact hlt), ← HX.out, ← HS.out] at h1
          omega
        have HBIG := Lib.hid hbig
        clear hbig
        go_wp2_with fail
        refine (add_over _ s x (by omega) (by omega)).mono ?_
        rintro _ _ ⟨rfl, rfl⟩
        go_wp2
        go_ret2
        exact ⟨by unfold totalV; rw [if_neg HBIG.out]; rfl, rfl⟩
    · have hk9 := Lib.hid (show k = n by omega)
      have hfin : Hid (totalV xs = .tuple #[.int .u64 (s : Int), .int .i64 0]) := by
        have e : s = xs.sum := by rw [HS.out, hk9.out, HN.out, List.take_length]
        unfold totalV
        show _ = _
        rw [← e, if_pos hs]
      go_wp2
      go_ret2
      exact ⟨by rw [hfin.out]; rfl, rfl⟩

theorem side_is (w : World) (n : Int) : Calls Tryd.prog 29 #[.int .i64 n] w fun e w' => e = .returned (.bool (decide (n = 0 ∨ n = 1))) ∧ w' = w := by
  by_cases h0 : n = 0
  · subst h0
    go_enter Tryd.func29, Tryd.ntmps29
    go_wp2
    go_ret
    exact ⟨rfl, rfl⟩
  · by_cases h1 : n = 1
    · subst h1
      go_enter Tryd.func29, Tryd.ntmps29
      go_wp2
      go_ret
      exact ⟨rfl, rfl⟩
    · go_enter Tryd.func29, Tryd.ntmps29
      go_wp2
      go_ret
      exact ⟨by simp [h0, h1], rfl⟩
end Go.Proofs.YtnddejgglbdkmaaDoor
