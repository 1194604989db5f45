/- The walk of New. -/
import Derived.Test.YtcpomddkehhkkaaDisk3
namespace Go.Proofs.Ytcpomddkehhkkaa
open Go.ChangeShapes Go.WideShapes Go.ChangeAt Go.RowKit

/-- so many sectors of noughts, their values from a list. -/
def zeroSecs (vs : List Value) : List (Value × List Nat) := vs.map fun v => (v, sector 0)

/-- what New has made after some rounds. -/
def NewRel (w : World) (g : Nat) (k : Nat) (wr : World) : Prop :=
  ∃ sv vs, DObj wr g sv (.slice none 0 0) 0 false ∧ wr.ownsRow w.heap.size 32 1 sv k vs ∧ (∀ v ∈ vs, wr.ownsRow w.heap.size 5 1 v 64 (bcells (sector 0))) ∧ Below w.heap.size w wr

theorem make64 (w : World) : (Instr.makeSlice 32 (.int .i64 64) (.int .i64 64)).run Try.prog w = .ok (.slice (some ⟨w.heap.size, 0, none⟩) 64 64) (w.alloc (.cells (bcells (sector 0)).toArray 5)) := by kernel_rfl

theorem new_close {w wr w4 : World} {g k : Nat} {sv : Value} {vs : List Value} {g4 cap4 : Nat} {o : Obj}
    (hg : w.heap.size ≤ g) (hd : DObj wr g sv (.slice none 0 0) 0 false) (hs : wr.ownsRow w.heap.size 32 1 sv k vs)
    (hv : ∀ v ∈ vs, wr.ownsRow w.heap.size 5 1 v 64 (bcells (sector 0))) (hb : Below w.heap.size w wr)
    (hown : w4.ownsRow w.heap.size 32 1 (.slice (some ⟨g4, 0, none⟩) (k + 1) cap4) (k + 1) (vs ++ [.slice (some ⟨wr.heap.size, 0, none⟩) 64 64]))
    (hgrow : ((wr.alloc (.cells (bcells (sector 0)).toArray 5)).alloc o).grownBy w4 sv.ownBlock) :
    NewRel w g (k + 1) (w4.setCell ⟨g, 0, none⟩ (.slice (some ⟨g4, 0, none⟩) (k + 1) cap4)) := by
  have hgs : w.heap.size ≤ wr.heap.size := hb.size
  have hset : ∀ (x : World) (v : Value), Kept (· = g) x (x.setCell ⟨g, 0, none⟩ v) := fun x v => (Kept.refl (· = g) _).set (.inl rfl) _
  have hK : Kept (fun k => sv.ownBlock = some k) wr w4 := (((Kept.refl _ _).alloc _).alloc _).grown hgrow (fun k h => .inl h)
  have hd4 : Has w4 g _ _ := Has.kept hd hK (fun e => own_has_ne hs hd (by decide) g e rfl)
  have hnew : w4.ownsRow w.heap.size 5 1 (.slice (some ⟨wr.heap.size, 0, none⟩) 64 64) 64 (bcells (sector 0)) := by
    have h1 : (wr.alloc (.cells (bcells (sector 0)).toArray 5)).ownsRow w.heap.size 5 1 (.slice (some ⟨wr.heap.size, 0, none⟩) 64 64) 64 (bcells (sector 0)) := by
      have := World.ownsRow_lit (base := w.heap.size) (e := 5) (size := 1) wr (bcells (sector 0)).toArray 64 hgs (by decide) (by simp [bcells_length, sector_length])
      simpa using this
    refine (h1.alloc o).kept hgrow (.inr (fun e => ?_))
    have h2 := hs.lt wr.heap.size e.symm
    omega
  refine ⟨_, vs ++ [.slice (some ⟨wr.heap.size, 0, none⟩) 64 64], Has.set hd4 0 _, own_kept hown (hset _ _) (fun k hk => own_has_ne hown hd4 (by decide) k hk), fun v hv2 => ?_, ?_⟩
  · rcases List.mem_append.1 hv2 with h | h
    · have h5 := hv v h
      have h6 := own_kept h5 hK (fun k hk h => own_own_ne h5 hs (by decide) k hk h)
      exact own_kept h6 (hset _ _) (fun k hk => own_has_ne h6 hd4 (by decide) k hk)
    · rw [List.mem_singleton.1 h]
      exact own_kept hnew (hset _ _) (fun k hk => own_has_ne hnew hd4 (by decide) k hk)
  · exact (hb.trans (hK.below hgs (fun k h => (hs.lt k h).1))).setCell hg _

set_option maxHeartbeats 400000 in
theorem new_any (w : World) (n : Nat) (hn : n < 4096) (hn0 : 0 < n) :
    Calls Try.prog 9 #[.int .i64 n] w fun e w' => e = .returned (.pointer (some ⟨w.heap.size, 0, none⟩)) ∧ NewRel w w.heap.size n w' := by
  obtain ⟨i0, hi, hz0, hz1, hz2⟩ := info_parts info_u8
  obtain ⟨i1, hi1, hy0, hy1, hy2⟩ := info_parts info_bytes
  go_enter Try.func9, Try.ntmps9
  go_wp2
  go_loopw [9] (fun i wr => ∃ k : Nat, k ≤ n ∧ i = .int .i64 k ∧ NewRel w w.heap.size k wr) (fun i _ => n - (intOf i).toNat)
  case atStart => exact ⟨0, by omega, rfl, _, [], Has.new w _ _, World.ownsRow_nil _ _ _ _, by simp, (Below.refl _ _).alloc (Nat.le_refl _) _⟩
  case round =>
    obtain ⟨k, hk, rfl, hrel⟩ := hrel
    by_cases hlt : k < n
    · obtain ⟨sv, vs, hd, hs, hv, hb⟩ := hrel
      obtain ⟨c0, c1, c2, c3⟩ := hd.facts
      have f0 := hd.free 0
      have hm := make64
      have HD := Lib.hid hd
      have HS := Lib.hid hs
      have HV := Lib.hid hv
      have HB := Lib.hid hb
      have hgs := hb.size
      have hlt2 := Has.lt hd
      have h0a : ∀ o, (wr.alloc o).cell? ⟨w.heap.size, 0, none⟩ = some sv := fun o => Has.cell_is (Has.alloc hd o) rfl
      have h0b : ∀ o o', ((wr.alloc o).alloc o').cell? ⟨w.heap.size, 0, none⟩ = some sv := fun o o' => Has.cell_is (Has.alloc (Has.alloc hd o) o') rfl
      clear hd hs hv hb
      go_wp2_with fail
      go_region_law (refine step_append_lies _ (by rfl) _ _ 46 (by rfl) w.heap.size 32 i1 (.slice none 0 0) 1 24 Try.underlying46 hi1 hy0 hy1 hy2 rfl (by decide) sv k vs (by rfl) (((HS.out.alloc _).alloc _).drew) ⟨wr.heap.size + 1, 0, none⟩ 1 1 [.slice (some ⟨wr.heap.size, 0, none⟩) 64 64] (by rfl) (by rfl) (World.news_of_block (cs := #[.slice (some ⟨wr.heap.size, 0, none⟩) 64 64]) (t := 32) (fr := (0, 0)) (heap_alloc2_new wr _ _)) (by simp [Value.oneCell']) (by decide) (by unfold maxLen; omega) (by omega) (by simp; omega) (wr.heap.size + 2) (by simp) ?_; intro g4 cap4 w4 hown4 hgrow4 hat4 hlt4; have hH4 := Lib.hid (Has.grown (w := ((wr.alloc _).alloc _).drew) (Has.alloc (Has.alloc HD.out _) _) hgrow4 (fun e => own_has_ne HS.out HD.out (by decide) _ e.symm rfl)); have hg4 : w4.cell? ⟨w.heap.size, 0, none⟩ = some sv := Has.cell_is hH4.out rfl; have hf4 : w4.frozen? ⟨w.heap.size, 0, none⟩ = false := Has.free hH4.out 0)
      all_goals
        have hcl := Lib.hid (new_close (Nat.le_refl _) HD.out HS.out HV.out HB.out hown4 (grown_undrew hgrow4))
        clear hown4 hgrow4 hg4 hf4
        go_wp2
        go_roundw
        case rel => exact ⟨k + 1, by omega, by go_num, hcl.out⟩
        case measure => simp [intOf]; omega
    · obtain rfl : k = n := by omega
      have HR := Lib.hid hrel
      clear hrel
      go_wp2
      go_ret
      exact ⟨rfl, HR.out⟩
end Go.Proofs.Ytcpomddkehhkkaa
