/- The plain law of MsumSwaps: a leaf put in the place of another one, and taken away again. -/
import Derived.Test.YtcpomddkehhkkaaDoorSome4
namespace Go.Proofs.YtcpomddkehhkkaaDoor
set_option linter.unusedVariables false
set_option linter.unusedSimpArgs false
open Go.ChangeShapes Go.WideShapes Go.ChangeAt Go.RowKit Go.Maps

theorem Tr.short {K s0 : List Wd} {S : Nat → Prop} {w : World} {g : Nat} {T : List Lf} (h : Tr K s0 S w g T) : ∀ t ∈ T, t.v.length ≤ 65536 := by obtain ⟨m, es, h⟩ := h; exact h.short
/-- a tree of few leaves with small sums. -/
structure SmallT (T : List Lf) : Prop where
  keyed : Keyed (T.map (·.k))
  len : T.length ≤ 200
  sum : sumT T ≤ 100000000000000000
  short : ∀ t ∈ T, t.v.length ≤ 65536
  some : ∀ t ∈ T, ¬ (t.v.length = 0 ∧ t.s = 0)
theorem small_build {K s0 : List Wd} {S : Nat → Prop} {w : World} {g : Nat} (m : Nat) (hm : m ≤ 200) (os : List OpT) (h : Tr K s0 S w g (buildT (someL m os))) : SmallT (buildT (someL m os)) := by
  have hb := build_fits (someL m os) (fun y hy => by
    obtain ⟨o', -, rfl, -⟩ := some_each m os y hy
    exact pick_small o')
  have hl := someL_len m os
  refine ⟨h.keyed, by omega, ?_, h.short, build_some _⟩
  have : (someL m os).length * 281474976710656 ≤ 200 * 281474976710656 := Nat.mul_le_mul_right _ (by omega)
  omega
section
variable {T : List Lf} {l : Lf}
theorem swap_put (hT : SmallT T) (hv : l.v.length ≤ 65536) (hs : l.s < 1000000000000000000) : putE T l = 0 ∨ (putE T l = 1 ∧ l.v.length = 0 ∧ l.s = 0 ∧ putN T l = T) := by
  rcases put_fits hv (show T.length < 256 by have := hT.len; omega) (by have := hT.sum; omega) with h | ⟨h1, h2, h3⟩
  · exact .inl h
  · exact .inr ⟨h1, h2, h3, by unfold putN; rw [if_neg (by rw [h1]; decide)]⟩
theorem swap_sum (hT : SmallT T) (hv : l.v.length ≤ 65536) (hs : l.s < 1000000000000000000) (h0 : putE T l = 0) : sumT (putN T l) + wasS T l.k = sumT T + l.s := by
  unfold putN
  rw [if_pos h0]
  exact sum_put T l
theorem swap_had (hT : SmallT T) (hv : l.v.length ≤ 65536) (hs : l.s < 1000000000000000000) (h0 : putE T l = 0) {o : Lf} (ho : findT T l.k = some o) : putE (putN T l) o = 0 ∧ putN (putN T l) o = T := by
  have e1 : putN T l = putT T l := by unfold putN; rw [if_pos h0]
  obtain ⟨hk, hm⟩ := find_key ho
  have e2 : putT (putT T l) o = T := put_back ho
  have hf : findT (putT T l) o.k = some l := by rw [put_find, if_pos hk.symm]
  have hw : wasS (putT T l) o.k = l.s := by unfold wasS; rw [hf]
  have hsm := sum_put (putT T l) o
  rw [e2] at hsm
  have hwl := was_le (putT T l) o.k
  have e3 : putE (putT T l) o = 0 := by
    unfold putE
    rw [if_neg (hT.some o hm), if_neg (by have := hT.short o hm; omega), if_neg (fun h => by rw [hf] at h; cases h.1), if_pos (by have := hT.sum; omega)]
  rw [e1]
  exact ⟨e3, by unfold putN; rw [if_pos e3]; exact e2⟩
theorem swap_new (hT : SmallT T) (hv : l.v.length ≤ 65536) (hs : l.s < 1000000000000000000) (h0 : putE T l = 0) (ho : findT T l.k = none) : (findT (putN T l) l.k).isSome = true ∧ dropT (putN T l) l.k = T := by
  have e1 : putN T l = putT T l := by unfold putN; rw [if_pos h0]
  rw [e1]
  exact ⟨by rw [put_find, if_pos rfl]; rfl, drop_put ho⟩
end
end Go.Proofs.YtcpomddkehhkkaaDoor
