/- The plain law of decoding: numbers and records, back and forth. -/
import Derived.Test.YtbhnnoejhbihhaaGreatDoorTv3
namespace Go.Proofs.YtbhnnoejhbihhaaGreatDoor
set_option linter.unusedVariables false
set_option linter.unusedSimpArgs false

theorem take_app {l t : List Nat} {n : Nat} (h : l.length = n) : (l ++ t).take n = l := by rw [← h, List.take_left']; rfl
theorem rd_big {x k c : Nat} (t : List Nat) (hc : rdW c = k) (hk : 0 < k) (hx : x < 256 ^ k) (hl : rdL k ≤ x) : rdB (c :: (bigN x k ++ t)) = .ok (x, k + 1) := by
  have e1 : (bigN x k ++ t).take k = bigN x k := take_app (bigN_len x k)
  unfold rdB
  simp only [hc, e1]
  rw [if_neg (by omega), if_neg (by rw [List.length_append, bigN_len]; omega), numB_big' x k hx, if_neg (by omega)]
/-- a number's bytes are read as that number. -/
theorem rd_sz (x : Nat) (hx : x < 18446744073709551616) (t : List Nat) : rdB (szB x ++ t) = .ok (x, (szB x).length) := by
  unfold szB
  by_cases h1 : x < 253
  · rw [if_pos h1]
    have hw : rdW x = 0 := by unfold rdW; rw [if_neg (by omega), if_neg (by omega), if_neg (by omega)]
    show rdB (x :: t) = _
    unfold rdB
    simp only [hw]
    rfl
  · rw [if_neg h1]
    by_cases h2 : x < 65536
    · rw [if_pos h2]
      have := rd_big (x := x) (k := 2) (c := 253) t rfl (by decide) (by show x < 65536; exact h2) (by show 253 ≤ x; omega)
      simpa [bigN_len] using this
    · rw [if_neg h2]
      by_cases h3 : x < 4294967296
      · rw [if_pos h3]
        have := rd_big (x := x) (k := 4) (c := 254) t rfl (by decide) (by show x < 4294967296; exact h3) (by show 65536 ≤ x; omega)
        simpa [bigN_len] using this
      · rw [if_neg h3]
        have := rd_big (x := x) (k := 8) (c := 255) t rfl (by decide) (by show x < 18446744073709551616; exact hx) (by show 4294967296 ≤ x; omega)
        simpa [bigN_len] using this
theorem rdW_vals {c : Nat} (h : rdW c ≠ 0) : (c = 253 ∧ rdW c = 2) ∨ (c = 254 ∧ rdW c = 4) ∨ (c = 255 ∧ rdW c = 8) := by
  unfold rdW at h ⊢
  by_cases h1 : c = 253
  · rw [if_pos h1]; exact .inl ⟨h1, rfl⟩
  · rw [if_neg h1] at h ⊢
    by_cases h2 : c = 254
    · rw [if_pos h2]; exact .inr (.inl ⟨h2, rfl⟩)
    · rw [if_neg h2] at h ⊢
      by_cases h3 : c = 255
      · rw [if_pos h3]; exact .inr (.inr ⟨h3, rfl⟩)
      · rw [if_neg h3] at h; exact absurd rfl h
/-- bytes that are read as a number begin with that number's. -/
theorem sz_rd {b : List Nat} (hb : ∀ y ∈ b, y < 256) {x n : Nat} (h : rdB b = .ok (x, n)) : n = (szB x).length ∧ b = szB x ++ b.drop n ∧ x < 18446744073709551616 := by
  cases b with
  | nil => cases h
  | cons c r =>
    have hc := hb c (List.mem_cons_self ..)
    have hr : ∀ y ∈ r, y < 256 := fun y hy => hb y (List.mem_cons_of_mem _ hy)
    unfold rdB at h
    by_cases hw : rdW c = 0
    · simp only [hw, if_true] at h
      cases h
      have hlt : x < 253 := by
        unfold rdW at hw
        split at hw
        · cases hw
        · split at hw
          · cases hw
          · split at hw
            · cases hw
            · omega
      have e : szB x = [x] := by unfold szB; rw [if_pos hlt]
      rw [e]
      exact ⟨rfl, rfl, by omega⟩
    · simp only [hw, if_false] at h
      split at h
      · cases h
      · rename_i hlen
        split at h
        · cases h
        · rename_i hleast
          cases h
          have htl : (r.take (rdW c)).length = rdW c := by rw [List.length_take]; omega
          have hnl := numB_lt (r.take (rdW c)) (fun y hy => hr y (List.mem_of_mem_take hy))
          have hbg := big_numB (r.take (rdW c)) (fun y hy => hr y (List.mem_of_mem_take hy))
          rw [htl] at hnl hbg
          have hsplit : r = r.take (rdW c) ++ r.drop (rdW c) := (List.take_append_drop _ _).symm
          generalize hxx : numB (r.take (rdW c)) = x at hnl hbg hleast ⊢
          rcases rdW_vals hw with ⟨rfl, e⟩ | ⟨rfl, e⟩ | ⟨rfl, e⟩
          · rw [e] at hnl hbg hleast hsplit ⊢
            have h1 : x < 65536 := hnl
            have h2 : ¬ x < 253 := hleast
            have es : szB x = 253 :: bigN x 2 := by unfold szB; rw [if_neg h2, if_pos h1]
            rw [es, hbg]
            refine ⟨by rw [List.length_cons, ← hbg, bigN_len], ?_, by omega⟩
            show 253 :: r = 253 :: (r.take 2 ++ r.drop 2)
            rw [← hsplit]
          · rw [e] at hnl hbg hleast hsplit ⊢
            have h1 : x < 4294967296 := hnl
            have h2 : ¬ x < 65536 := hleast
            have es : szB x = 254 :: bigN x 4 := by unfold szB; rw [if_neg (by omega), if_neg h2, if_pos h1]
            rw [es, hbg]
            refine ⟨by rw [List.length_cons, ← hbg, bigN_len], ?_, by omega⟩
            show 254 :: r = 254 :: (r.take 4 ++ r.drop 4)
            rw [← hsplit]
          · rw [e] at hnl hbg hleast hsplit ⊢
            have h1 : x < 18446744073709551616 := hnl
            have h2 : ¬ x < 4294967296 := hleast
            have es : szB x = 255 :: bigN x 8 := by unfold szB; rw [if_neg (by omega), if_neg (by omega), if_neg h2]
            rw [es, hbg]
            refine ⟨by rw [List.length_cons, ← hbg, bigN_len], ?_, h1⟩
            show 255 :: r = 255 :: (r.take 8 ++ r.drop 8)
            rw [← hsplit]
end Go.Proofs.YtbhnnoejhbihhaaGreatDoor
