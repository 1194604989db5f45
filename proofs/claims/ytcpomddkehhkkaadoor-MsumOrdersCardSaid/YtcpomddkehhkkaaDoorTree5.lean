/- The search for where keys part: slices.BinarySearchFunc at keys; the closures of part and Beside. -/
import Derived.Test.YtcpomddkehhkkaaDoorTree4
import Derived.Test.YtcpomddkehhkkaaDoorBit1
namespace Go.Proofs.YtcpomddkehhkkaaDoor
set_option linter.unusedVariables false
set_option linter.unusedSimpArgs false
open Go.ChangeShapes Go.WideShapes Go.ChangeAt Go.RowKit Go.Maps

/-- keys in a row. -/
structure KeysAt (w : World) (a : Option Addr) (n : Nat) (ks : List (List Nat)) : Prop where
  len : ks.length = n
  hash : ∀ k ∈ ks, IsHash k
  at_ : 0 < n → ∃ b o, a = some ⟨b, o, none⟩ ∧ b < w.heap.size ∧ ∀ (i : Nat) k, ks[i]? = some k → w.rangeAt b (o + i * 32) (bcells k)
theorem KeysAt.kept {S : Nat → Prop} {w w' : World} {a : Option Addr} {n : Nat} {ks : List (List Nat)} (h : KeysAt w a n ks) (hk : Kept S w w') (hs : ∀ b o, a = some ⟨b, o, none⟩ → ¬ S b) : KeysAt w' a n ks :=
  ⟨h.len, h.hash, fun hn => by
    obtain ⟨b, o, e, hb, hr⟩ := h.at_ hn
    exact ⟨b, o, e, by have := hk.size; omega, fun i k hi => rangeAt_kept (hr i k hi) hk (hs b o e)⟩⟩
theorem KeysAt.below {w w' : World} {a : Option Addr} {n : Nat} {ks : List (List Nat)} (h : KeysAt w a n ks) (hb : Below w.heap.size w w') : KeysAt w' a n ks := h.kept (S := fun _ => False) (Kept.of_below hb) (fun _ _ _ h => h)

theorem turn_part (w : World) (k : List Nat) (hk : IsHash k) (B h : Nat) (hh : h < 256) (hc : w.cell? ⟨B, 0, none⟩ = some (.int .i64 ((h : Int) + 1))) :
    Calls Tryd.prog 63 #[arr k, .int .i64 1, .pointer (some ⟨B, 0, none⟩)] w fun e w' => e = .returned (.int .i64 ((bitAt k h : Nat) - 1 : Int)) ∧ Below w.heap.size w w' := by
  have hbox := Has.new w 27 (bcells k).toArray
  have hBlt := World.block_lt_of_cell? w _ hc
  have hc1 : (w.alloc (.cells (bcells k).toArray 27)).cell? ⟨B, 0, none⟩ = some (.int .i64 ((h : Int) + 1)) := by rw [World.cell?_alloc_lt w _ _ hBlt]; exact hc
  have hbel := (Below.refl w.heap.size w).alloc (Nat.le_refl _) (.cells (bcells k).toArray 27)
  have sz : (Tryd.prog.info? 27).map (·.size) = some (bcells k).toArray.size := by rw [List.size_toArray, bcells_length, hk.1]; kernel_rfl
  have hbit := fun W => bit_in k (h : Int) W hk.1 (by omega) (by omega)
  unfold arr at hbit ⊢
  obtain ⟨C, hC⟩ : ∃ C, C = (bcells k).toArray := ⟨_, rfl⟩
  rw [Int.toNat_natCast] at hbit
  obtain ⟨bt, hbt⟩ : ∃ b : Nat, b = bitAt k h := ⟨_, rfl⟩
  have hb2 : bt < 2 := by rw [hbt]; exact bitAt_lt k h
  rw [← hC] at hbox hc1 hbel sz ⊢
  rw [← hC, ← hbt] at hbit
  rw [← hbt]
  have HBOX := Lib.hid hbox
  have HBEL := Lib.hid hbel
  have HBIT := Lib.hid hbit
  have SZ := Lib.hid sz
  have hq : wrap64 ((h : Int) + 1 - 1) = (h : Int) := by unfold wrap64; omega
  have hq1 : (h : Int) + 1 - 1 = (h : Int) := by omega
  have hq2 : wrap64 ((bt : Int) - 1) = (bt : Int) - 1 := by unfold wrap64; omega
  have hq3 : wrap64 (h : Int) = (h : Int) := by unfold wrap64; omega
  clear hbox hbel hbit sz hC hbt hBlt hc
  go_enter Tryd.func63, Tryd.ntmps63
  go_upto_region 1 with (fail)
  generalize w.alloc (.cells C 27) = W at HBOX HBEL hc1 ⊢
  go_wp2_with (refine wpList_load_row rfl 27 (.tmp 3) rfl w.heap.size rfl 27 C (0, 0) _ HBOX.out Tryd.underlying27 rfl SZ.out ?_)
  refine (HBIT.out _).mono ?_
  rintro _ W1 ⟨rfl, e⟩
  have HB2 := Lib.hid (show Below w.heap.size w W1 by rw [e]; exact HBEL.out.alloc HBEL.out.size _)
  clear e
  go_wp2
  go_ret
  exact ⟨rfl, HB2.out⟩
theorem turn_beside (w : World) (k : List Nat) (hk : IsHash k) (B h : Nat) (hh : h < 256) (hc : w.cell? ⟨B, 0, none⟩ = some (.int .i64 (h : Int))) :
    Calls Tryd.prog 51 #[arr k, .int .i64 1, .pointer (some ⟨B, 0, none⟩)] w fun e w' => e = .returned (.int .i64 ((bitAt k h : Nat) - 1 : Int)) ∧ Below w.heap.size w w' := by
  have hbox := Has.new w 27 (bcells k).toArray
  have hBlt := World.block_lt_of_cell? w _ hc
  have hc1 : (w.alloc (.cells (bcells k).toArray 27)).cell? ⟨B, 0, none⟩ = some (.int .i64 (h : Int)) := by rw [World.cell?_alloc_lt w _ _ hBlt]; exact hc
  have hbel := (Below.refl w.heap.size w).alloc (Nat.le_refl _) (.cells (bcells k).toArray 27)
  have sz : (Tryd.prog.info? 27).map (·.size) = some (bcells k).toArray.size := by rw [List.size_toArray, bcells_length, hk.1]; kernel_rfl
  have hbit := fun W => bit_in k (h : Int) W hk.1 (by omega) (by omega)
  unfold arr at hbit ⊢
  obtain ⟨C, hC⟩ : ∃ C, C = (bcells k).toArray := ⟨_, rfl⟩
  rw [Int.toNat_natCast] at hbit
  obtain ⟨bt, hbt⟩ : ∃ b : Nat, b = bitAt k h := ⟨_, rfl⟩
  have hb2 : bt < 2 := by rw [hbt]; exact bitAt_lt k h
  rw [← hC] at hbox hc1 hbel sz ⊢
  rw [← hC, ← hbt] at hbit
  rw [← hbt]
  have HBOX := Lib.hid hbox
  have HBEL := Lib.hid hbel
  have HBIT := Lib.hid hbit
  have SZ := Lib.hid sz
  have hq2 : wrap64 ((bt : Int) - 1) = (bt : Int) - 1 := by unfold wrap64; omega
  clear hbox hbel hbit sz hC hbt hBlt hc
  go_enter Tryd.func51, Tryd.ntmps51
  go_upto_region 1 with (fail)
  generalize w.alloc (.cells C 27) = W at HBOX HBEL hc1 ⊢
  go_wp2_with (refine wpList_load_row rfl 27 (.tmp 3) rfl w.heap.size rfl 27 C (0, 0) _ HBOX.out Tryd.underlying27 rfl SZ.out ?_)
  refine (HBIT.out _).mono ?_
  rintro _ W1 ⟨rfl, e⟩
  have HB2 := Lib.hid (show Below w.heap.size w W1 by rw [e]; exact HBEL.out.alloc HBEL.out.size _)
  clear e
  go_wp2
  go_ret
  exact ⟨rfl, HB2.out⟩
end Go.Proofs.YtcpomddkehhkkaaDoor
