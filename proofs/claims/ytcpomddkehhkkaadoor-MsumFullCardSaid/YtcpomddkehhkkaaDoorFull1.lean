/- The walk of MsumFull. -/
import Derived.Test.YtcpomddkehhkkaaDoorFull0
namespace Go.Proofs.YtcpomddkehhkkaaDoor
set_option linter.unusedVariables false
set_option linter.unusedSimpArgs false
open Go.ChangeShapes Go.WideShapes Go.ChangeAt Go.RowKit Go.Maps

set_option maxRecDepth 100000 in
set_option maxHeartbeats 8000000 in
theorem full_walk (K s0 : List Wd) (sd : Nat) (hsd : sd < 256) (w : World) (hT : Tabs K s0 w) :
    Calls Tryd.prog 10 #[.int .u8 (sd : Int)] w fun e w' => e = .returned (.bool true) ∧ Below w.heap.size w w' := by
  have HT := Lib.hid hT
  have HSD := Lib.hid hsd
  have HH := Lib.hid (headT_is K s0 w hT)
  have HFK := Lib.hid fk_lit
  have HK2 := Lib.hid k2_lit
  obtain ⟨LZ, hLZ⟩ : ∃ L, L = (bcells (List.replicate 32 0)).toArray := ⟨_, rfl⟩
  have HK0 := Lib.hid k0_lit
  rw [← hLZ] at HK0
  have ELZ := Lib.hid hLZ
  obtain ⟨ZZ, hZZ⟩ : ∃ L, L = (ncells (List.replicate 32 0) 0).toArray := ⟨_, rfl⟩
  have heq : ∀ W, (binOp .eql 29 (.agg ZZ) (.agg ZZ)).run Tryd.prog W = .ok (.bool true) W := fun W => eq_zero_nd ZZ hZZ W
  have HBZ := Lib.hid (fun W => build_zero_nd ZZ hZZ W)
  have EZZ := Lib.hid hZZ
  clear hT hsd hLZ hZZ
  go_enter Tryd.func10, Tryd.ntmps10
  go_wp2_with fail
  refine HH.out.mono ?_
  rintro _ w1 ⟨rfl, hb1⟩
  have HB1 := Lib.hid hb1
  clear hb1
  go_wp2_with fail
  refine (newT_is K s0 (fun k => w1.heap.size ≤ k) w1 (fun _ h => h)).mono ?_
  rintro _ w2 ⟨g, rfl, htr, hb2, hg⟩
  have HTR := Lib.hid htr
  have HB2 := Lib.hid hb2
  have HG := Lib.hid hg
  clear htr hb2 hg
  go_wp2_with fail
  go_loopw [4] (fun i wr => ∃ k : Nat, i = .int .i64 (k : Int) ∧ k ≤ 256 ∧ Tr K s0 (fun k => w1.heap.size ≤ k) wr g (FT sd k) ∧ Below w1.heap.size w1 wr) (fun i _ => 256 - (intOf i).toNat)
  case atStart => exact ⟨0, rfl, by decide, HTR.out, HB2.out⟩
  case round =>
    obtain ⟨k, rfl, hk, htr, hbel⟩ := hrel
    have HTK := Lib.hid htr
    have HBK := Lib.hid hbel
    clear htr hbel HTR
    by_cases hlt : k < 256
    · obtain ⟨e1, e2⟩ := full_put sd k hlt
      have hput := tr_put HTK.out HT.out.len (fun j h => by have := HBK.out.size; omega) (fl k sd) (fk_is k sd hlt HSD.out) (.slice none 0 0) (RowB.nil (fun _ => True) wr none 0 |>.bytes (Nat.le_refl _)) (by show (1 : Nat) < _; decide) (by show (0 : Nat) ≤ _; decide)
      rw [e1, e2] at hput
      unfold arr leafV at hput
      change Calls Tryd.prog 33 #[.pointer (some ⟨g, 0, none⟩), .agg (bcells (fk k sd)).toArray, .agg #[.slice none 0 0, .int .u64 1]] _ _ at hput
      have hfk := fun W => HFK.out k sd W
      obtain ⟨LK, hLK⟩ : ∃ L, L = (bcells (fk k sd)).toArray := ⟨_, rfl⟩
      rw [← hLK] at hput hfk
      have HPUT := Lib.hid hput
      have HFX := Lib.hid hfk
      have hcv : IntKind.u8.wrap (k : Int) = (k : Int) := by rw [IntKind.wrap_u8]; omega
      clear hput hfk e1 e2 hLK
      go_wp2_with (refine wpList_build_run rfl 27 _ rfl #[(0, .int .u8 (k : Int)), (1, .int .u8 (sd : Int))] (by kernel_rfl) (.agg LK) (HFX.out _) ?_)
      refine HPUT.out.mono ?_
      rintro _ w5 ⟨rfl, htr, hk5⟩
      have HE := Lib.hid (And.intro htr (HBK.out.trans (hk5.below HBK.out.size (fun j e => e))))
      clear htr hk5
      go_wp2
      go_roundw
      case rel => exact ⟨k + 1, by go_num, by omega, HE.out⟩
      case measure => simp [intOf]; omega
    · obtain rfl : k = 256 := by omega
      have hlen : s0.length = 8 := HT.out.len
      have hgN : ∀ {v : World}, Below w1.heap.size w1 v → ∀ j, v.heap.size ≤ j → w1.heap.size ≤ j := fun h j hj => by have := h.size; omega
      go_wp2_with (refine wpList_build_run rfl 27 _ rfl #[] (by kernel_rfl) (.agg LZ) (HK0.out _) ?_)
      have hget := nil_get wr (List.replicate 32 0)
      unfold arr leafV at hget
      rw [← ELZ.out] at hget
      refine hget.mono ?_
      rintro _ w3 ⟨rfl, hb3⟩
      have HTR3 := Lib.hid (HTK.out.quiet hb3)
      have HB3 := Lib.hid (HBK.out.trans (hb3.mono HBK.out.size))
      clear hb3 hget
      have hb4 : Below w3.heap.size w3 (w3.alloc (.cells #[.slice none 0 0, .int .u64 0] 25)) := (Below.refl _ _).alloc (Nat.le_refl _) _
      have HTR4 := Lib.hid (HTR3.out.quiet hb4)
      have HB4 := Lib.hid (HB3.out.trans (hb4.mono HB3.out.size))
      clear hb4
      go_upto_region 11 with (fail)
      generalize w3.alloc (.cells #[.slice none 0 0, .int .u64 0] 25) = W4 at HTR4 HB4 ⊢
      obtain ⟨e1, e2⟩ := full_many sd
      have hput := tr_put HTR4.out hlen (hgN HB4.out) ⟨K2 sd, [], 1⟩ (k2_is sd HSD.out) (.slice none 0 0) (RowB.nil (fun _ => True) W4 none 0 |>.bytes (Nat.le_refl _)) (by show (1 : Nat) < _; decide) (by show (0 : Nat) ≤ _; decide)
      rw [e1, e2] at hput
      unfold arr leafV at hput
      change Calls Tryd.prog 33 #[.pointer (some ⟨g, 0, none⟩), .agg (bcells (K2 sd)).toArray, .agg #[.slice none 0 0, .int .u64 1]] _ _ at hput
      have hk2 := fun W => HK2.out sd W
      obtain ⟨L2, hL2⟩ : ∃ L, L = (bcells (K2 sd)).toArray := ⟨_, rfl⟩
      rw [← hL2] at hput hk2
      have HPUT := Lib.hid hput
      have HK2X := Lib.hid hk2
      clear hput hk2 e1 e2 hL2
      go_wp2_with (refine wpList_build_run rfl 27 _ rfl #[(0, .int .u8 0), (1, .int .u8 (sd : Int)), (2, .int .u8 1)] (by kernel_rfl) (.agg L2) (HK2X.out _) ?_)
      refine HPUT.out.mono ?_
      rintro _ w5 ⟨rfl, htr5, hk5⟩
      have hb5 : Below w1.heap.size w1 w5 := HB4.out.trans (hk5.below HB4.out.size (fun j e => e))
      have e3 := full_seven sd htr5.keyed.nodup
      have hput := tr_put htr5 hlen (hgN hb5) ⟨fk 7 sd, [], 2⟩ (fk_is 7 sd (by decide) HSD.out) (.slice none 0 0) (RowB.nil (fun _ => True) w5 none 0 |>.bytes (Nat.le_refl _)) (by show (2 : Nat) < _; decide) (by show (0 : Nat) ≤ _; decide)
      rw [e3] at hput
      unfold arr leafV at hput
      change Calls Tryd.prog 33 #[.pointer (some ⟨g, 0, none⟩), .agg (bcells (fk 7 sd)).toArray, .agg #[.slice none 0 0, .int .u64 2]] _ _ at hput
      have hk7 : ∀ W, (Instr.build 27 #[(0, .int .u8 7), (1, .int .u8 (sd : Int))]).run Tryd.prog W = .ok (.agg (bcells (fk 7 sd)).toArray) W := fun W => HFK.out 7 sd W
      obtain ⟨T7, hT7⟩ : ∃ T, T = putN (FT sd 256) ⟨fk 7 sd, [], 2⟩ := ⟨_, rfl⟩
      obtain ⟨L7, hL7⟩ : ∃ L, L = (bcells (fk 7 sd)).toArray := ⟨_, rfl⟩
      rw [← hL7, ← hT7] at hput
      rw [← hL7] at hk7
      have HPUT7 := Lib.hid hput
      have HK7X := Lib.hid hk7
      have EL7 := Lib.hid hL7
      have HB5 := Lib.hid hb5
      clear hput hk7 hL7 hT7 htr5 hk5 hb5 e3 HPUT
      go_wp2_with (refine wpList_build_run (by kernel_rfl) 27 _ rfl #[(0, .int .u8 7), (1, .int .u8 (sd : Int))] (by kernel_rfl) (.agg L7) (HK7X.out _) ?_)
      refine HPUT7.out.mono ?_
      rintro _ w6 ⟨rfl, htr6, hk6⟩
      have hb6 : Below w1.heap.size w1 w6 := HB5.out.trans (hk6.below HB5.out.size (fun j e => e))
      obtain ⟨W7, hmk, hby, hb7⟩ := make_long w6
      have htr7 := htr6.quiet hb7
      have hb67 : Below w1.heap.size w1 W7 := hb6.trans (hb7.mono hb6.size)
      have e4 := full_long T7 (fk 7 sd)
      obtain ⟨LL, hLL⟩ : ∃ L, L = List.replicate 65537 0 := ⟨_, rfl⟩
      have hll : LL.length ≤ 1000000 := by rw [hLL, List.length_replicate]; decide
      rw [← hLL] at e4 hby
      have hput := tr_put htr7 hlen (hgN hb67) ⟨fk 7 sd, LL, 2⟩ (fk_is 7 sd (by decide) HSD.out) (.slice (some ⟨w6.heap.size, 0, none⟩) 65537 65537) hby (by show (2 : Nat) < _; decide) hll
      rw [e4] at hput
      unfold arr leafV at hput
      change Calls Tryd.prog 33 #[.pointer (some ⟨g, 0, none⟩), .agg (bcells (fk 7 sd)).toArray, .agg #[.slice (some ⟨w6.heap.size, 0, none⟩) 65537 65537, .int .u64 2]] _ _ at hput
      rw [← EL7.out] at hput
      have HPUT8 := Lib.hid hput
      have HB7 := Lib.hid hb67
      clear hput hby hb7 htr6 hk6 hb6 htr7 hb67 e4 hll hLL HPUT7
      go_wp2_with (refine wpList_build_run (by kernel_rfl) 27 _ rfl #[(0, .int .u8 7), (1, .int .u8 (sd : Int))] (by kernel_rfl) (.agg L7) (HK7X.out _) ?_)
      refine HPUT8.out.mono ?_
      rintro _ w8 ⟨rfl, -, hk8⟩
      have HB8 := Lib.hid (HB7.out.trans (hk8.below HB7.out.size (fun j e => e)))
      clear hk8 HPUT8 hmk
      have hnp := nil_put w8 (List.replicate 32 0) none 0 0 1
      unfold arr at hnp
      rw [← ELZ.out] at hnp
      go_wp2_with (refine wpList_build_run (by kernel_rfl) 27 _ rfl #[] (by kernel_rfl) (.agg LZ) (HK0.out _) ?_)
      refine hnp.mono ?_
      rintro _ w9 ⟨rfl, hb9⟩
      have HB9 := Lib.hid (HB8.out.trans (hb9.mono HB8.out.size))
      clear hb9 hnp
      have hnd := nil_drop w9 (List.replicate 32 0)
      unfold arr at hnd
      rw [← ELZ.out] at hnd
      go_wp2_with (refine wpList_build_run (by kernel_rfl) 27 _ rfl #[] (by kernel_rfl) (.agg LZ) (HK0.out _) ?_)
      refine hnd.mono ?_
      rintro _ wA ⟨rfl, hbA⟩
      have HBA := Lib.hid (HB9.out.trans (hbA.mono HB9.out.size))
      clear hbA hnd
      go_wp2_with fail
      refine (nil_keys wA).mono ?_
      rintro _ wB ⟨rfl, eB⟩
      have eC := eB.symm
      subst eC
      have hnr := nil_root wA
      unfold nodeV at hnr
      rw [← EZZ.out] at hnr
      go_wp2_with fail
      refine hnr.mono ?_
      rintro _ wC ⟨rfl, hbC⟩
      have HBC := Lib.hid (HBA.out.trans (hbC.mono HBA.out.size))
      clear hbC hnr
      have hns := nil_beside wC (List.replicate 32 0)
      unfold arr at hns
      rw [← ELZ.out] at hns
      go_wp2_with (first
        | (refine wpList_build_run (by kernel_rfl) 29 _ rfl #[] (by kernel_rfl) (.agg ZZ) (HBZ.out _) ?_)
        | (refine wpList_build_run (by kernel_rfl) 27 _ rfl #[] (by kernel_rfl) (.agg LZ) (HK0.out _) ?_))
      refine hns.mono ?_
      rintro _ wD ⟨rfl, hbD⟩
      have HBD := Lib.hid (HBC.out.trans (hbD.mono HBC.out.size))
      clear hbD hns
      go_wp2
      go_ret
      exact ⟨rfl, HB1.out.trans (HBD.out.mono HB1.out.size)⟩
end Go.Proofs.YtcpomddkehhkkaaDoor
