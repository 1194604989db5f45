/- The plain law of MsumFull: at 256 keys something may stand, and no more. -/
import Derived.Test.YtcpomddkehhkkaaDoorTree14
namespace Go.Proofs.YtcpomddkehhkkaaDoor
set_option linter.unusedVariables false
set_option linter.unusedSimpArgs false
open Go.ChangeShapes Go.WideShapes Go.ChangeAt Go.RowKit Go.Maps

theorem find_not {T : List Lf} {k : List Nat} (h : ∀ t ∈ T, t.k ≠ k) : findT T k = none := by
  cases hf : findT T k with
  | none => rfl
  | some l => exact absurd (find_key hf).1 (h l (find_key hf).2)
def fk (i sd : Nat) : List Nat := i :: sd :: List.replicate 30 0
theorem fk_is (i sd : Nat) (hi : i < 256) (hs : sd < 256) : IsHash (fk i sd) := ⟨by simp [fk], fun k hk => by
  rcases List.mem_cons.1 hk with rfl | hk
  · exact hi
  · rcases List.mem_cons.1 hk with rfl | hk
    · exact hs
    · rw [List.eq_of_mem_replicate hk]; decide⟩
theorem fk_lit (i sd : Nat) (w : World) : (Instr.build 27 #[(0, .int .u8 (i : Int)), (1, .int .u8 (sd : Int))]).run Tryd.prog w = .ok (.agg (bcells (fk i sd)).toArray) w := by kernel_rfl
def fl (i sd : Nat) : Lf := ⟨fk i sd, [], 1⟩
def FT (sd k : Nat) : List Lf := (List.range k).map fun i => fl i sd
theorem FT_succ (sd k : Nat) : FT sd (k + 1) = FT sd k ++ [fl k sd] := by unfold FT; rw [List.range_succ, List.map_append]; rfl
theorem FT_len (sd k : Nat) : (FT sd k).length = k := by simp [FT]
theorem FT_sum (sd k : Nat) : sumT (FT sd k) = k := by
  induction k with
  | zero => rfl
  | succ k ih => rw [FT_succ]; unfold sumT at ih ⊢; rw [List.map_append, List.sum_append, ih]; rfl
theorem FT_mem {sd k : Nat} {t : Lf} (h : t ∈ FT sd k) : ∃ i, i < k ∧ t = fl i sd := by
  obtain ⟨i, hi, rfl⟩ := List.mem_map.1 h
  exact ⟨i, List.mem_range.1 hi, rfl⟩
theorem full_put (sd k : Nat) (hk : k < 256) : putE (FT sd k) (fl k sd) = 0 ∧ putN (FT sd k) (fl k sd) = FT sd (k + 1) := by
  have hf : findT (FT sd k) (fl k sd).k = none := find_not fun t ht e => by
    obtain ⟨i, hi, rfl⟩ := FT_mem ht
    have : i = k := by injection e
    omega
  have hw : wasS (FT sd k) (fl k sd).k = 0 := by unfold wasS; rw [hf]
  have e : putE (FT sd k) (fl k sd) = 0 := by
    unfold putE
    rw [if_neg (by simp [fl]), if_neg (by simp [fl]), if_neg (by rw [FT_len]; omega), if_pos (by rw [hw, FT_sum]; show k - 0 + 1 < _; omega)]
  refine ⟨e, ?_⟩
  unfold putN
  rw [if_pos e, put_new hf, FT_succ]
def K2 (sd : Nat) : List Nat := 0 :: sd :: 1 :: List.replicate 29 0
theorem k2_is (sd : Nat) (hs : sd < 256) : IsHash (K2 sd) := ⟨by simp [K2], fun k hk => by
  rcases List.mem_cons.1 hk with rfl | hk
  · decide
  · rcases List.mem_cons.1 hk with rfl | hk
    · exact hs
    · rcases List.mem_cons.1 hk with rfl | hk
      · decide
      · rw [List.eq_of_mem_replicate hk]; decide⟩
theorem k2_lit (sd : Nat) (w : World) : (Instr.build 27 #[(0, .int .u8 0), (1, .int .u8 (sd : Int)), (2, .int .u8 1)]).run Tryd.prog w = .ok (.agg (bcells (K2 sd)).toArray) w := by kernel_rfl
theorem k0_lit (w : World) : (Instr.build 27 #[]).run Tryd.prog w = .ok (.agg (bcells (List.replicate 32 0)).toArray) w := by kernel_rfl
theorem full_many (sd : Nat) : putE (FT sd 256) ⟨K2 sd, [], 1⟩ = 4 ∧ putN (FT sd 256) ⟨K2 sd, [], 1⟩ = FT sd 256 := by
  have hf : findT (FT sd 256) (K2 sd) = none := find_not fun t ht e => by
    obtain ⟨i, hi, rfl⟩ := FT_mem ht
    have h1 : (fk i sd)[2]? = (K2 sd)[2]? := congrArg (·[2]?) e
    have h2 : (fk i sd)[2]? = some 0 := rfl
    have h3 : (K2 sd)[2]? = some 1 := rfl
    rw [h2, h3] at h1
    cases h1
  have e : putE (FT sd 256) ⟨K2 sd, [], 1⟩ = 4 := by
    unfold putE
    rw [if_neg (by simp), if_neg (by simp), if_pos ⟨hf, by rw [FT_len]; exact Nat.le_refl _⟩]
  exact ⟨e, by unfold putN; rw [if_neg (by rw [e]; decide)]⟩
theorem full_seven (sd : Nat) (hd : ((FT sd 256).map (·.k)).Nodup) : putE (FT sd 256) ⟨fk 7 sd, [], 2⟩ = 0 := by
  have hf : findT (FT sd 256) (fk 7 sd) = some (fl 7 sd) := find_mem hd (t := fl 7 sd) (List.mem_map.2 ⟨7, List.mem_range.2 (by decide), rfl⟩)
  have hw : wasS (FT sd 256) (fk 7 sd) = 1 := by unfold wasS; rw [hf]; rfl
  unfold putE
  rw [if_neg (by simp), if_neg (by simp), if_neg (fun h => by rw [hf] at h; cases h.1), if_pos (by rw [hw, FT_sum]; show 256 - 1 + 2 < _; decide)]
theorem full_long (T : List Lf) (k : List Nat) : putE T ⟨k, List.replicate 65537 0, 2⟩ = 3 := by
  unfold putE
  have hl : (List.replicate 65537 0).length = 65537 := List.length_replicate
  rw [if_neg (fun h => by have h2 : (2 : Nat) = 0 := h.2; omega), if_pos (by show 65536 < (List.replicate 65537 0).length; rw [hl]; omega)]
/-- a long row of noughts is made. -/
theorem make_long (W : World) : ∃ W', (Instr.makeSlice 22 (.int .i64 65537) (.int .i64 65537)).run Tryd.prog W = .ok (.slice (some ⟨W.heap.size, 0, none⟩) 65537 65537) W' ∧ Bytes W' W'.heap.size (.slice (some ⟨W.heap.size, 0, none⟩) 65537 65537) (List.replicate 65537 0) ∧ Below W.heap.size W W' := by
  obtain ⟨n, hn⟩ : ∃ n, n = 65537 := ⟨_, rfl⟩
  obtain ⟨i0, hi, hz0, hz1, hz2⟩ := info_parts info_byte
  obtain ⟨W', h1, h2, h3⟩ := run_make_full W W.heap.size 22 5 i0 _ 1 Tryd.underlying22 hi hz0 hz1 .i64 .i64 n (by rw [hz2]; omega) (by unfold maxLen; omega) (Nat.le_refl _)
  have hcl : (madeCells (Value.int .u8 0).cells (n * 1)).toList = bcells (List.replicate n 0) := by
    rw [Nat.mul_one]
    have := toList_madeCells_one (.int .u8 0) n
    rw [show (Value.int .u8 0).cells = #[Value.int .u8 0] from rfl, this]
    unfold bcells
    rw [List.map_replicate]; rfl
  rw [hcl] at h2
  have hr := RowB.of_own (S := fun _ => True) h2 List.length_replicate (fun x hx => by rw [List.eq_of_mem_replicate hx]; decide) (fun _ _ => trivial)
  have hb : Below W.heap.size W W' := ⟨h3.os, h3.tape, h3.output, h3.size, fun k hk => h3.block k hk (by simp)⟩
  subst hn
  exact ⟨W', h1, hr.bytes (Nat.le_refl _), hb⟩
theorem eq_zero_nd (ZZ : Array Value) (h : ZZ = (ncells (List.replicate 32 0) 0).toArray) (w : World) : (binOp .eql 29 (.agg ZZ) (.agg ZZ)).run Tryd.prog w = .ok (.bool true) w := by
  rw [h]; kernel_rfl
theorem build_zero_nd (ZZ : Array Value) (h : ZZ = (ncells (List.replicate 32 0) 0).toArray) (w : World) : (Instr.build 29 #[]).run Tryd.prog w = .ok (.agg ZZ) w := by
  rw [h]; kernel_rfl
end Go.Proofs.YtcpomddkehhkkaaDoor
