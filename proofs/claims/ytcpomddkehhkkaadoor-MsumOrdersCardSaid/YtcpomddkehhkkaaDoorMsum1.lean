/- The walks of msum.Node.put, sums.Add. -/
import Derived.Test.YtcpomddkehhkkaaDoorSha7
import Derived.Laws.Externs
namespace Go.Proofs.YtcpomddkehhkkaaDoor
set_option linter.unusedVariables false
set_option linter.unusedSimpArgs false
open Go.ChangeShapes Go.WideShapes Go.ChangeAt Go.RowKit

theorem splice_get {α : Type} (L cs : List α) (o i : Nat) (h : o + cs.length ≤ L.length) : (splice L o cs)[i]? = if o ≤ i ∧ i < o + cs.length then cs[i - o]? else L[i]? := by
  unfold splice
  by_cases h1 : i < o
  · rw [List.getElem?_append_left (by rw [List.length_take]; omega), List.getElem?_take, if_pos h1, if_neg (by omega)]
  · rw [List.getElem?_append_right (by rw [List.length_take]; omega), List.length_take, Nat.min_eq_left (by omega)]
    by_cases h2 : i < o + cs.length
    · rw [List.getElem?_append_left (by omega), if_pos ⟨by omega, h2⟩]
    · rw [List.getElem?_append_right (by omega), List.getElem?_drop, if_neg (by omega)]
      congr 1
      omega
theorem splice_len {α : Type} (L cs : List α) (o : Nat) (h : o + cs.length ≤ L.length) : (splice L o cs).length = L.length := length_splice L o cs h
theorem splice_nil {α : Type} (L : List α) (o : Nat) : splice L o [] = L := by simp [splice]
theorem splice_take_set {α : Type} (L cs : List α) (o k : Nat) (x : α) (h : o + cs.length ≤ L.length) (hx : cs[k]? = some x) : (splice L o (cs.take k)).set (o + k) x = splice L o (cs.take (k + 1)) := by
  have hk := (List.getElem?_eq_some_iff.1 hx).1
  apply List.ext_getElem?
  intro i
  rw [List.getElem?_set, splice_len _ _ _ (by rw [List.length_take]; omega), splice_get _ _ _ _ (by rw [List.length_take]; omega), splice_get _ _ _ _ (by rw [List.length_take]; omega), List.length_take, List.length_take]
  by_cases h1 : o + k = i
  · subst h1
    rw [if_pos rfl, if_pos (by omega), if_pos (by omega), List.getElem?_take, if_pos (by omega), Nat.add_sub_cancel_left, hx]
  · rw [if_neg h1]
    by_cases h2 : o ≤ i ∧ i < o + k
    · rw [if_pos (by omega), if_pos (by omega), List.getElem?_take, List.getElem?_take, if_pos (by omega), if_pos (by omega)]
    · rw [if_neg (by omega), if_neg (by omega)]
theorem splice_append {α : Type} (L a b : List α) (o : Nat) (h : o + (a.length + b.length) ≤ L.length) : splice (splice L o a) (o + a.length) b = splice L o (a ++ b) := by
  apply List.ext_getElem?
  intro i
  rw [splice_get _ _ _ _ (by rw [splice_len _ _ _ (by omega)]; omega), splice_get _ _ _ _ (by omega), splice_get _ _ _ _ (by rw [List.length_append]; omega), List.length_append]
  by_cases h1 : o ≤ i ∧ i < o + a.length
  · rw [if_neg (by omega), if_pos h1, if_pos (by omega), List.getElem?_append_left (by omega)]
  · by_cases h2 : o + a.length ≤ i ∧ i < o + a.length + b.length
    · rw [if_pos h2, if_pos (by omega), List.getElem?_append_right (by omega)]
      congr 1
      omega
    · rw [if_neg h2, if_neg h1, if_neg (by omega)]

/-- the cells of a node: a digest, a sum. -/
def ncells (h : List Nat) (s : Nat) : List Value := bcells h ++ [.int .u64 (s : Int)]
def nodeV (h : List Nat) (s : Nat) : Value := .agg (ncells h s).toArray

theorem eight_get (s k : Nat) (hk : k < 8) : (bcells (eight s))[k]? = some (.int .u8 ((s / 2 ^ (8 * (7 - k)) % 256 : Nat) : Int)) := by
  rw [bcells_get _ _ (by rw [eight_length]; exact hk)]
  unfold eight
  simp [List.getD_eq_getElem?_getD, List.getElem?_map, List.getElem?_range hk]

set_option maxRecDepth 100000 in
theorem put_is (w : World) (h : List Nat) (s : Nat) (g o n c : Nat) (t : TypeId) (cur : List Value) (hh : h.length = 32) (hs : s < 18446744073709551616) (hn : 40 ≤ n) (hg : Has w g t cur.toArray) (ho : o + 40 ≤ cur.length) :
    Calls Tryd.prog 42 #[nodeV h s, .slice (some ⟨g, o, none⟩) n c] w fun e w' =>
      e = .returned (.tuple #[]) ∧ Has w' g t (splice cur o (bcells (h ++ eight s))).toArray ∧ Kept (· = g) w w' := by
  have HG := Lib.hid hg
  have HH := Lib.hid hh
  have hgl := hg.lt
  have hbox := Has.new w 29 (ncells h s).toArray
  have HBX := Lib.hid hbox
  have hsrc : ∀ j u, (bcells h)[j]? = some u → (w.alloc (.cells (ncells h s).toArray 29)).cell? ((⟨w.heap.size, 0, none⟩ : Addr).add j) = some u := fun j u hu => by
    have hj := (List.getElem?_eq_some_iff.1 hu).1
    rw [Addr.add_mid]
    refine HBX.out.cell_is ?_
    rw [List.getElem?_toArray, ncells, Nat.zero_add, List.getElem?_append_left hj, hu]
  have HSRC := Lib.hid hsrc
  clear hg hh hbox hsrc
  unfold nodeV
  go_enter Tryd.func42, Tryd.ntmps42
  go_wp2_with (refine wpList_copy_kept rfl (.tmp 5) (.tmp 7) 22 22 rfl 5 Tryd.underlying22 size_u8 (some ⟨g, o, none⟩) (some ⟨w.heap.size, 0, none⟩) n c 32 32 rfl rfl g o cur t (HG.out.alloc _) (bcells h) (by rw [bcells_length, HH.out]; exact (Nat.min_eq_left (by omega)).symm) (fun _ => ⟨rfl, _, rfl, HSRC.out⟩) (by rw [bcells_length, HH.out]; omega) (bcells_one _) ?_)
  intro w1 hw1 hk1
  have hne : w.heap.size ≠ g := by omega
  have cbox : w1.cell? ⟨w.heap.size, 32, none⟩ = some (.int .u64 (s : Int)) := (HBX.out.kept hk1 hne).cell_is (by
    rw [List.getElem?_toArray, ncells, List.getElem?_append_right (by rw [bcells_length, HH.out]; exact Nat.le_refl _), bcells_length, HH.out]; rfl)
  have hk0 : Kept (· = g) w w1 := ((Kept.refl (· = g) w).alloc _).trans hk1
  have hlen : (splice cur o (bcells h)).length = cur.length := splice_len _ _ _ (by rw [bcells_length, HH.out]; omega)
  have HLEN := Lib.hid hlen
  have HW1 := Lib.hid hw1
  have HK0 := Lib.hid hk0
  clear hw1 hk1 hk0 hlen
  go_wp2_with fail
  go_loopw [9] (fun i wr => ∃ k : Nat, k ≤ 8 ∧ i = .int .i64 k ∧ Has wr g t (splice (splice cur o (bcells h)) (o + 32) ((bcells (eight s)).take k)).toArray ∧ Kept (· = g) w1 wr) (fun i _ => 8 - (intOf i).toNat)
  case atStart => exact ⟨0, by omega, rfl, by rw [List.take_zero, splice_nil]; exact HW1.out, Kept.refl _ _⟩
  case round =>
    obtain ⟨k, hk, rfl, hW, hK⟩ := hrel
    have HW := Lib.hid hW
    have HKR := Lib.hid hK
    clear hW hK
    by_cases hlt : k < 8
    · have cb := cell_kept HKR.out cbox hne
      have hf := HW.out.free (o + (32 + k))
      obtain ⟨v0, hv0⟩ : ∃ v, wr.cell? ⟨g, o + (32 + k), none⟩ = some v := by
        refine ⟨_, HW.out.cell_is (by rw [List.getElem?_toArray]; exact List.getElem?_eq_getElem (by rw [splice_len _ _ _ (by rw [HLEN.out, List.length_take, bcells_length, eight_length]; omega), HLEN.out]; omega))⟩
      have hset := HW.out.set (o + 32 + k) (.int .u8 ((s / 2 ^ (8 * (7 - k)) % 256 : Nat) : Int))
      rw [List.setIfInBounds_toArray, splice_take_set _ _ _ _ _ (by rw [HLEN.out, bcells_length, eight_length]; omega) (eight_get s k hlt), Nat.add_assoc] at hset
      have hv : ((s : Int) / 2 ^ (56 - 8 * k) % 256) = ((s / 2 ^ (8 * (7 - k)) % 256 : Nat) : Int) := by
        rw [show 56 - 8 * k = 8 * (7 - k) by omega, show (2 : Int) ^ (8 * (7 - k)) = ((2 ^ (8 * (7 - k)) : Nat) : Int) by simp]
        rfl
      have HV := Lib.hid hv
      have HSET := Lib.hid hset
      clear hset hv
      go_wp2
      go_roundw
      case rel => exact ⟨k + 1, by omega, by go_num, by rw [HV.out]; exact HSET.out, HKR.out.set (.inl rfl) _⟩
      case measure => simp [intOf]; omega
    · have hk8 : k = 8 := by omega
      have hfin : Has wr g t (splice cur o (bcells (h ++ eight s))).toArray := by
        have h1 := HW.out
        rw [hk8, List.take_of_length_le (by rw [bcells_length, eight_length]; exact Nat.le_refl _)] at h1
        have e : bcells (h ++ eight s) = bcells h ++ bcells (eight s) := by simp [bcells]
        rw [e, ← splice_append _ _ _ _ (by rw [bcells_length, bcells_length, eight_length, HH.out]; omega), bcells_length, HH.out]
        exact h1
      have HF := Lib.hid hfin
      have HKF := Lib.hid (HK0.out.trans HKR.out)
      clear hk8 hfin HW HKR
      go_wp2
      go_end0
      exact ⟨rfl, HF.out, HKF.out⟩

theorem add64_is (w : World) (a b : Nat) : (callFunc 61 #[.int .u64 (a : Int), .int .u64 (b : Int), .int .u64 0]).run Tryd.prog w =
    .ok (.value (.tuple #[.int .u64 (((a + b) % 18446744073709551616 : Nat) : Int), .int .u64 (((a + b) / 18446744073709551616 : Nat) : Int)])) w := by
  rw [run_callFunc_extern Tryd.func61 (by kernel_rfl) (by kernel_rfl) (by kernel_rfl) (e := add64Entry) (by kernel_rfl), run_add64 a b 0 (by omega) (by omega) (by omega) (by omega)]
  simp only [Result.andThen]
  congr 5 <;> omega

theorem add_fits (w : World) (a b : Nat) (h : a + b < 18446744073709551616) :
    Calls Tryd.prog 46 #[.int .u64 (a : Int), .int .u64 (b : Int)] w fun e w' => e = .returned (.tuple #[.int .u64 ((a + b : Nat) : Int), .int .i64 0]) ∧ w' = w := by
  have hadd := add64_is w a b
  rw [Nat.mod_eq_of_lt h, Nat.div_eq_of_lt h] at hadd
  obtain ⟨s, hs⟩ : ∃ s, s = a + b := ⟨_, rfl⟩
  rw [← hs] at hadd
  have HS := Lib.hid hs
  have HADD := Lib.hid hadd
  clear hadd hs h
  go_enter Tryd.func46, Tryd.ntmps46
  go_wp2_with (simp only [HADD.out])
  go_ret2
  exact ⟨by rw [HS.out]; rfl, rfl⟩

theorem add_over (w : World) (a b : Nat) (h : 18446744073709551616 ≤ a + b) (h2 : a + b < 36893488147419103232) :
    Calls Tryd.prog 46 #[.int .u64 (a : Int), .int .u64 (b : Int)] w fun e w' => e = .returned (.tuple #[.int .u64 0, .int .i64 10]) ∧ w' = w := by
  have hadd := add64_is w a b
  rw [show (a + b) / 18446744073709551616 = 1 by omega] at hadd
  obtain ⟨s, hs⟩ : ∃ s, s = (a + b) % 18446744073709551616 := ⟨_, rfl⟩
  rw [← hs] at hadd
  have HADD := Lib.hid hadd
  clear hadd hs h h2
  go_enter Tryd.func46, Tryd.ntmps46
  go_wp2_with (simp only [HADD.out])
  go_ret2
  exact ⟨rfl, rfl⟩
end Go.Proofs.YtcpomddkehhkkaaDoor
