/- Cuts of a row of keys. -/
import Derived.Test.YtcpomddkehhkkaaDoorTree6
namespace Go.Proofs.YtcpomddkehhkkaaDoor
set_option linter.unusedVariables false
set_option linter.unusedSimpArgs false
open Go.ChangeShapes Go.WideShapes Go.ChangeAt Go.RowKit Go.Maps

theorem add_block (A : Addr) (k : Nat) : (A.add k).block = A.block := by
  unfold Addr.add; split <;> rfl
def FarK (a : Option Addr) (g : Nat) : Prop := ∀ A, a = some A → A.block ≠ g
theorem size_hash (w : World) : (sizeOf 27).run Tryd.prog w = .ok 32 w := by kernel_rfl
section
variable {w : World} {a : Option Addr} {n : Nat} {ks : List (List Nat)}
theorem KeysAt.lo (h : KeysAt w a n ks) (c p : Nat) (hc : n ≤ c) (hp : p ≤ n) (g : Nat) (hg : FarK a g) :
    ∃ a1 c1, (∀ w', (Instr.slice 78 (.slice a n c) none (some (.int .i64 (p : Int))) none).run Tryd.prog w' = .ok (.slice a1 p c1) w') ∧ KeysAt w a1 p (ks.take p) ∧ p ≤ c1 ∧ FarK a1 g := by
  have hu : Tryd.prog.underlying 78 = some (.slice (Tryd.prog.elem 78)) := by kernel_rfl
  have he : Tryd.prog.elem 78 = 27 := by kernel_rfl
  have hr : ∀ w', (Instr.slice 78 (.slice a n c) none (some (.int .i64 (p : Int))) none).run Tryd.prog w' = .ok (.slice (if c = 0 then a else a.map (·.add 0)) p c) w' := fun w' => by
    rw [run_slice_h w' 78 a n c hu .i64 (p : Int) (by omega) (by omega), he, size_hash]
    simp only [Result.andThen, sliced, Int.toNat_natCast, Nat.zero_mul, Nat.sub_zero]
  have key : FarK (if c = 0 then a else a.map (·.add 0)) g := fun A hA => by
    split at hA
    · exact hg A hA
    · cases a with
      | none => cases hA
      | some B =>
        injection hA with hA
        rw [← hA, add_block]
        exact hg B rfl
  refine ⟨_, _, hr, ⟨by rw [List.length_take, h.len]; omega, fun k hk => h.hash k (List.mem_of_mem_take hk), fun h0 => ?_⟩, by omega, key⟩
  obtain ⟨b, o, rfl, hb, hcl⟩ := h.at_ (by omega)
  refine ⟨b, o, by rw [if_neg (by omega), Option.map_some, Addr.add_mid, Nat.add_zero], hb, fun i k hi => hcl i k ?_⟩
  rw [List.getElem?_take] at hi
  split at hi
  · exact hi
  · cases hi
theorem KeysAt.hi (h : KeysAt w a n ks) (c p : Nat) (hc : n ≤ c) (hp : p ≤ n) (g : Nat) (hg : FarK a g) :
    ∃ a1 c1, (∀ w', (Instr.slice 78 (.slice a n c) (some (.int .i64 (p : Int))) none none).run Tryd.prog w' = .ok (.slice a1 (n - p) c1) w') ∧ KeysAt w a1 (n - p) (ks.drop p) ∧ n - p ≤ c1 ∧ FarK a1 g := by
  have hu : Tryd.prog.underlying 78 = some (.slice (Tryd.prog.elem 78)) := by kernel_rfl
  have he : Tryd.prog.elem 78 = 27 := by kernel_rfl
  have hr : ∀ w', (Instr.slice 78 (.slice a n c) (some (.int .i64 (p : Int))) none none).run Tryd.prog w' = .ok (.slice (if c = p then a else a.map (·.add (p * 32))) (n - p) (c - p)) w' := fun w' => by
    rw [run_slice_l w' 78 a n c hu .i64 (p : Int) (by omega) (by omega), he, size_hash]
    simp only [Result.andThen, sliced, Int.toNat_natCast]
  have key : FarK (if c = p then a else a.map (·.add (p * 32))) g := fun A hA => by
    split at hA
    · exact hg A hA
    · cases a with
      | none => cases hA
      | some B =>
        injection hA with hA
        rw [← hA, add_block]
        exact hg B rfl
  refine ⟨_, _, hr, ⟨by rw [List.length_drop, h.len], fun k hk => h.hash k (List.mem_of_mem_drop hk), fun h0 => ?_⟩, by omega, key⟩
  obtain ⟨b, o, rfl, hb, hcl⟩ := h.at_ (by omega)
  refine ⟨b, o + p * 32, by rw [if_neg (by omega), Option.map_some, Addr.add_mid], hb, fun i k hi => ?_⟩
  rw [List.getElem?_drop] at hi
  have := hcl (p + i) k hi
  rw [show o + p * 32 + i * 32 = o + (p + i) * 32 by rw [Nat.add_mul]; omega]
  exact this
theorem Sorted.take (h : Sorted ks) (p : Nat) : Sorted (ks.take p) := List.Pairwise.sublist (List.take_sublist p ks) h
theorem Sorted.drop (h : Sorted ks) (p : Nat) : Sorted (ks.drop p) := List.Pairwise.sublist (List.drop_sublist p ks) h
theorem Sorted.nodup (h : Sorted ks) : ks.Nodup := List.Pairwise.imp (fun {a b} hl e => by rw [e, lexC_refl] at hl; exact absurd hl (by decide)) h
theorem Coh.sub (h0 : Coh ks n) {us : List (List Nat)} (hs : ∀ k ∈ us, k ∈ ks) : Coh us n := fun x hx y hy => h0 x (hs x hx) y (hs y hy)
theorem Coh.less {h b : Nat} (hc : Coh ks (h + 1)) {us : List (List Nat)} (hs : ∀ k ∈ us, k ∈ ks) (hb : ∀ k ∈ us, bitAt k h = b) : Coh us h := fun x hx y hy j h1 h2 => by
  rcases Nat.lt_or_ge h j with e | e
  · exact hc x (hs x hx) y (hs y hy) j e h2
  · obtain rfl : j = h := by omega
    rw [hb x hx, hb y hy]
end
end Go.Proofs.YtcpomddkehhkkaaDoor
