/- The walks of the small functions: full, slices.Clone at bytes, step. -/
import Derived.Test.YtcpomddkehhkkaaMem
namespace Go.Proofs.Ytcpomddkehhkkaa
open Go.ChangeShapes Go.WideShapes Go.ChangeAt Go.RowKit

theorem info_u8 : (Try.prog.info? 5).map (fun i => (i.zero, i.size, i.bytes)) = some (some (.int .u8 0), 1, 1) := by kernel_rfl

theorem bcells_one (bs : List Nat) : ∀ u ∈ bcells bs, u.oneCell' = true := by
  intro u hu; obtain ⟨n, _, rfl⟩ := List.mem_map.1 hu; rfl

/-- what comes of a clone: the same bytes in memory of the call's own; nil of nil. -/
def Cloned (w : World) (bs : List Nat) (nil : Bool) (e : Ending) (w' : World) : Prop :=
  ∃ v, e = .returned v ∧ w'.ownsRow w.heap.size 5 1 v bs.length (bcells bs) ∧ Below w.heap.size w w' ∧ (nil = true → v = .slice none 0 0)

theorem eq_nil (w : World) (a : Option Addr) (n c : Nat) : (binOp .eql 32 (.slice a n c) (.slice none 0 0)).run Try.prog w = .ok (.bool a.isNone) w :=
  Lib.run_eql_slice_nil w 32 5 a n c 0 0 Try.underlying32

/-- slices.Clone of nil. -/
theorem clone_nil (w : World) : Calls Try.prog 19 #[.slice none 0 0] w (Cloned w [] true) := by
  have hnil := eq_nil
  go_enter Try.func19, Try.ntmps19
  go_wp2
  go_ret
  exact ⟨_, rfl, World.ownsRow_nil _ _ _ _, Below.refl _ _, fun _ => rfl⟩

/-- slices.Clone of bytes that lie somewhere. -/
theorem clone_some (w : World) (g o n c : Nat) (bs : List Nat) (hn : bs.length = n) (hs : n ≤ 1000000)
    (hc : ∀ j u, (bcells bs)[j]? = some u → w.cell? ((⟨g, o, none⟩ : Addr).add j) = some u) :
    Calls Try.prog 19 #[.slice (some ⟨g, o, none⟩) n c] w (Cloned w bs false) := by
  obtain ⟨i0, hi, hz0, hz1, hz2⟩ := info_parts info_u8
  have HC := Lib.hid hc
  have HN := Lib.hid hn
  have hnil := eq_nil
  clear hc hn
  go_enter Try.func19, Try.ntmps19
  have hc2 : ∀ j u, (bcells bs)[j]? = some u → (w.alloc (.cells #[] 5)).cell? ((⟨g, o, none⟩ : Addr).add j) = some u := fun j u hu => by
    have h1 := HC.out j u hu
    rw [World.cell?_alloc_lt w _ _ (World.block_lt_of_cell? w _ h1)]; exact h1
  have HC2 := Lib.hid hc2
  clear hc2
  go_wp2_with (at_builtin; refine wpList_append_own _ rfl (.tmp 5) (.tmp 6) 32 rfl w.heap.size 5 i0 (.int .u8 0) 1 1 Try.underlying32 hi hz0 hz1 hz2 rfl (by decide) _ 0 [] rfl (World.ownsRow_made w #[] 0 (Nat.le_refl _) (by decide) rfl) ⟨g, o, none⟩ n c (bcells bs) rfl (by rw [bcells_length, HN.out, Nat.mul_one]) HC2.out (bcells_one bs) (by unfold maxLen; omega) (by omega) (by simp) ?_)
  intro v' w' hown hgr _
  go_wp2
  go_ret
  refine ⟨v', rfl, by rw [HN.out]; exact hown, ?_, fun h => by cases h⟩
  exact ((Below.refl _ _).alloc (Nat.le_refl _) _).grown hgr (by simp) (fun k hk => by simp [Value.ownBlock] at hk; omega)

/-- what comes of a clone of some bytes, its shape told. -/
def ClonedAt (w : World) (bs : List Nat) (e : Ending) (w' : World) : Prop :=
  ∃ g cap, e = .returned (.slice (some ⟨g, 0, none⟩) bs.length cap) ∧ w'.ownsRow w.heap.size 5 1 (.slice (some ⟨g, 0, none⟩) bs.length cap) bs.length (bcells bs) ∧ Below w.heap.size w w' ∧ w.heap.size ≤ g ∧ g < w'.heap.size

theorem Cloned.at {w w' : World} {bs : List Nat} {nil : Bool} {e : Ending} (h : Cloned w bs nil e w') (hl : 0 < bs.length) : ClonedAt w bs e w' := by
  obtain ⟨v, rfl, hown, hb, _⟩ := h
  obtain ⟨g, cap, cur, rfl, hg, hh, _⟩ := own_open hown hl
  exact ⟨g, cap, rfl, hown, hb, hg, hh.lt⟩

/-- n bytes, the first k of them b, the others nought. -/
def fillTo (n k b : Nat) : List Nat := List.replicate k b ++ List.replicate (n - k) 0
/-- a sector of one byte. -/
def sector (b : Nat) : List Nat := List.replicate 64 b

theorem fillTo_length (n k b : Nat) (h : k ≤ n) : (fillTo n k b).length = n := by simp [fillTo]; omega
theorem fillTo_zero (n b : Nat) : fillTo n 0 b = List.replicate n 0 := by simp [fillTo]
theorem fillTo_full (b : Nat) : fillTo 64 64 b = sector b := by simp [fillTo, sector]
theorem sector_length (b : Nat) : (sector b).length = 64 := by simp [sector]
theorem fillTo_set (n k b : Nat) (hk : k < n) : (bcells (fillTo n k b)).set k (.int .u8 (b : Int)) = bcells (fillTo n (k + 1) b) := by
  unfold fillTo
  apply List.ext_getElem?
  intro i
  simp only [bcells, List.getElem?_set, List.length_map, List.length_append, List.length_replicate, List.getElem?_map, List.getElem?_append, List.getElem?_replicate]
  by_cases h : k = i
  · subst h; simp; omega
  · rw [if_neg h]
    by_cases h2 : i < k
    · simp [h2, show i < k + 1 by omega]
    · rw [if_neg h2, if_neg (show ¬ i < k + 1 by omega)]
      by_cases h3 : i < n
      · rw [if_pos (by omega), if_pos (by omega)]
      · rw [if_neg (by omega), if_neg (by omega)]

theorem made_zero (n b : Nat) : (madeCells #[Value.int .u8 0] n).toList = bcells (fillTo n 0 b) := by
  rw [fillTo_zero]; exact (toList_madeCells_one (Value.int .u8 0) n).trans (by simp [bcells])

theorem full_nat (w : World) (b : Nat) :
    Calls Try.prog 11 #[.int .u8 b] w (Cloned w (sector b) false) := by
  obtain ⟨i0, hi, hz0, hz1, hz2⟩ := info_parts info_u8
  go_enter Try.func11, Try.ntmps11
  go_wp2_with (refine wpList_make_full w rfl _ _ 32 rfl w.heap.size 5 i0 (.int .u8 0) 1 Try.underlying32 hi hz0 hz1 .i64 .i64 64 64 64 rfl rfl rfl rfl (by rw [hz2]; decide) (by decide) (Nat.le_refl _) ?_)
  intro w1 hown hgr
  have hown := (made_zero 64 b) ▸ hown
  go_wp2
  go_loopw [8] (fun i wr => ∃ k : Nat, k ≤ 64 ∧ i = .int .i64 k ∧ wr.ownsRow w.heap.size 5 1 (.slice (some ⟨w.heap.size, 0, none⟩) 64 64) 64 (bcells (fillTo 64 k b)) ∧ Below w.heap.size w wr) (fun i _ => 64 - (intOf i).toNat)
  case atStart => exact ⟨0, by omega, rfl, hown, (Below.refl _ _).grown hgr (Nat.le_refl _) (fun k hk => by cases hk)⟩
  case round =>
    obtain ⟨k, hk, rfl, hown, hbel⟩ := hrel
    by_cases hlt : k < 64
    · have hc := hown.cellAt k (by omega)
      rw [bcells_get _ _ (by rw [fillTo_length _ _ _ hk]; exact hlt)] at hc
      have hf := hown.frozenAt k
      have hst := hown.stored k (.int .u8 (b : Int))
      rw [fillTo_set 64 k b hlt] at hst
      have HS := Lib.hid hst
      have HO := Lib.hid hown
      clear hst hown
      go_wp2
      go_roundw
      case rel => exact ⟨k + 1, by omega, by go_num, HS.out.1, hbel.setCell (Nat.le_refl _) _⟩
      case measure => simp [intOf]; omega
    · obtain rfl : k = 64 := by omega
      rw [fillTo_full] at hown
      go_wp2
      go_ret
      exact ⟨_, rfl, by rw [sector_length]; exact hown, hbel, fun h => by cases h⟩

end Go.Proofs.Ytcpomddkehhkkaa
