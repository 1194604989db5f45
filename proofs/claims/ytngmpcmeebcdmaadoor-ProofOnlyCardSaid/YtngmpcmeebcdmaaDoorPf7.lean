/- What the head of the proofs' laws asks, in plain lists. -/
import Derived.Test.YtngmpcmeebcdmaaDoorPf5
namespace Go.Proofs.YtngmpcmeebcdmaaDoor
set_option linter.unusedVariables false
set_option linter.unusedSimpArgs false
open Go.ChangeShapes Go.WideShapes Go.ChangeAt Go.RowKit Go.Maps

def K6 : List Nat := 6 :: List.replicate 31 0
theorem k6_is : IsHash K6 := ⟨rfl, by decide⟩
theorem k6_lit (w : World) : (Instr.build 28 #[(0, .int .u8 6)]).run Tryd.prog w = .ok (.agg (bcells K6).toArray) w := by kernel_rfl
theorem leaf0_lit (w : World) : (Instr.build 32 #[]).run Tryd.prog w = .ok (.agg #[.slice none 0 0, .int .u64 0]) w := by kernel_rfl
/-- beside a leaf's own way there is nothing. -/
theorem beside_own (t : Lf) (h : Nat) : besideT [t] t.k h = [] := by
  unfold besideT
  apply List.filter_eq_nil_iff.2
  intro x hx
  have hx2 : x = t := by
    obtain ⟨p, hp⟩ := own_sub [t] t.k (255 - h)
    rw [hp] at hx
    exact List.mem_singleton.1 (List.mem_filter.1 hx).1
  have hb := bitAt_lt t.k h
  rw [hx2, decide_eq_true_eq]
  omega
theorem bes_own (K s0 : List Wd) (t : Lf) (h : Nat) : besF K s0 [t] t.k h = emptyNd K s0 h := by
  unfold besF
  rw [beside_own, part_nil]
theorem bareF_own (K s0 : List Wd) (t : Lf) (h : Nat) : bareF K s0 (besF K s0 [t] t.k) h = true := by
  unfold bareF
  rw [bes_own]
  exact ndSame_iff.2 rfl
theorem nodesF_all {K s0 : List Wd} {f : Nat → Nd} : ∀ n, (∀ h, h < n → bareF K s0 f h = true) → nodesF K s0 f n = []
  | 0, _ => rfl
  | n + 1, hh => by
    rw [nodesF_succ, if_pos (hh n (Nat.lt_succ_self n)), nodesF_all n (fun h e => hh h (Nat.lt_succ_of_lt e))]; rfl
theorem nodesF_one {K s0 : List Wd} {f : Nat → Nd} (m : Nat) (hf : bareF K s0 f m = false) : ∀ n, (∀ h, h < n → ¬ h = m → bareF K s0 f h = true) → (nodesF K s0 f n).length = if m < n then 1 else 0
  | 0, _ => by rw [if_neg (by omega)]; rfl
  | n + 1, hh => by
    have ih := nodesF_one m hf n (fun h e => hh h (Nat.lt_succ_of_lt e))
    rw [nodesF_succ, List.length_append, ih]
    by_cases e : n = m
    · subst e
      rw [if_neg (Nat.lt_irrefl n), if_pos (Nat.lt_succ_self n), if_neg (show ¬ bareF K s0 f n = true by rw [hf]; decide)]; rfl
    · rw [if_pos (hh n (Nat.lt_succ_self n) e)]
      by_cases e2 : m < n
      · rw [if_pos e2, if_pos (by omega)]; rfl
      · rw [if_neg e2, if_neg (by omega)]; rfl
theorem one_keyed : Keyed ([l5].map (·.k)) := ⟨fun k hk => by rw [List.mem_singleton.1 hk]; exact k5_is, by simp⟩
theorem part_one (K s0 : List Wd) (h : Nat) (T : List Lf) (hT : T = [l5]) : (partNd K s0 h T).s = 7 := by
  subst hT
  rw [part_sum K s0 h [l5] one_keyed (fun a ha b hb j _ _ => by rw [List.mem_singleton.1 ha, List.mem_singleton.1 hb])]
  rfl
theorem bits_56 : ∀ j, j < 256 → ¬ j = 249 → ¬ j = 248 → bitAt K5 j = bitAt K6 j := by decide +kernel
theorem bes6_mem (h : Nat) (hh : h < 256) (hn : ¬ h = 249) : besideT [l5] K6 h = [] := by
  apply List.eq_nil_iff_forall_not_mem.2
  intro t ht
  unfold besideT side at ht
  obtain ⟨h1, h2⟩ := List.mem_filter.1 ht
  rw [own_mem [l5] K6 (255 - h) (by omega)] at h1
  have ht5 := List.mem_singleton.1 h1.1
  subst ht5
  rw [decide_eq_true_eq] at h2
  have e2 : bitAt K5 h = 1 - bitAt K6 h := h2
  have hbt := bitAt_lt K6 h
  rcases Nat.lt_or_ge h 249 with e | e
  · have h3 := h1.2 249 (by omega) (by decide)
    exact absurd (show bitAt K5 249 = bitAt K6 249 from h3) (by decide)
  · have := bits_56 h hh hn (by omega)
    omega
theorem bes6_at : besideT [l5] K6 249 = [l5] := by
  obtain ⟨p, hp⟩ := own_sub [l5] K6 (255 - 249)
  have hm : l5 ∈ ownT [l5] K6 (255 - 249) := (own_mem [l5] K6 (255 - 249) (by decide) l5).2 ⟨List.mem_singleton.2 rfl, fun j h1 h2 => bits_56 j h2 (by omega) (by omega)⟩
  have hpl : p l5 = true := by rw [hp] at hm; exact (List.mem_filter.1 hm).2
  have ho : ownT [l5] K6 (255 - 249) = [l5] := by rw [hp, List.filter_cons, if_pos hpl]; rfl
  unfold besideT side
  rw [ho, List.filter_cons, if_pos (by rw [decide_eq_true_eq]; show bitAt K5 249 = 1 - bitAt K6 249; decide)]; rfl
theorem bare6 (K s0 : List Wd) : bareF K s0 (besF K s0 [l5] K6) 249 = false := by
  unfold bareF besF
  cases h : ndSame (partNd K s0 249 (besideT [l5] K6 249)) (emptyNd K s0 249) with
  | false => rfl
  | true =>
    have h1 := congrArg Nd.s (ndSame_iff.1 h)
    rw [part_one K s0 249 _ bes6_at, empty_sum] at h1
    exact absurd h1 (by decide)
theorem nodes6 (K s0 : List Wd) : (nodesF K s0 (besF K s0 [l5] K6) 256).length = 1 := by
  rw [nodesF_one 249 (bare6 K s0) 256 (fun h hh hn => by
    unfold bareF besF
    rw [bes6_mem h hh hn, part_nil]
    exact ndSame_iff.2 rfl)]
  rfl
theorem nodes5 (K s0 : List Wd) : nodesF K s0 (besF K s0 [l5] K5) 256 = [] := nodesF_all 256 (fun h _ => bareF_own K s0 l5 h)
/-- where all is bare the zero leaf leads to the empty root. -/
theorem pf_bare (K s0 : List Wd) (bb : List Nat) (key : List Nat) (hb : ∀ h, h < 256 → bareB bb h = true) : pfRoot K s0 (bareB bb) key [] (leafNd K s0 [] 0) = .ok (emptyNd K s0 256) := by
  have h1 : ∀ h, h < 256 → bareF K s0 (emptyNd K s0) h = true := fun h _ => ndSame_iff.2 rfl
  have := pf_made (K := K) (s0 := s0) (f := emptyNd K s0) (bare := bareB bb) (key := key) (n0 := leafNd K s0 [] 0) (emptyNd K s0) rfl (fun h hh => by split <;> rfl) (fun h hh => by rw [empty_sum]; decide) (fun h hh => by rw [hb h hh, h1 h hh])
  rwa [nodesF_all 256 h1] at this
theorem byte_all {bb : List Nat} (hb : IsHash bb) (h : ∀ h, h < 256 → bareB bb h = true) : bb.getD 0 0 = 255 := by
  have h0 := hb.byte 0 (by decide)
  have key : ∀ x, x < 256 → (∀ j, j < 8 → x / 2 ^ j % 2 = 1) → x = 255 := by decide +kernel
  refine key _ h0 (fun j hj => ?_)
  have := h j (by omega)
  unfold bareB at this
  rw [decide_eq_true_eq, show j / 8 = 0 by omega, Nat.mod_eq_of_lt hj] at this
  exact this
end Go.Proofs.YtngmpcmeebcdmaaDoor
