/- The walks of the law's helpers plain and leaf. -/
import Derived.Test.YtcpomddkehhkkaaDoorRef4
import Derived.Test.YtcpomddkehhkkaaDoorRnEq
import Derived.Test.YtcpomddkehhkkaaDoorTree11
import Derived.Test.YtcpomddkehhkkaaDoorCells
import Derived.Test.YtcpomddkehhkkaaDoorStill2
import Derived.Lib.SlBytesConst
import Derived.Deep.WholeRow
namespace Go.Proofs.YtcpomddkehhkkaaDoor
set_option linter.unusedVariables false
set_option linter.unusedSimpArgs false
open Go.ChangeShapes Go.WideShapes Go.ChangeAt Go.RowKit Go.Maps

set_option maxRecDepth 100000 in
set_option maxHeartbeats 1000000 in
theorem plain_is (w : World) (h : List Nat) (s : Nat) (hh : h.length = 32) :
    Calls Tryd.prog 13 #[nodeV h s] w fun e w' => e = .returned (nodeV h s) ∧ Below w.heap.size w w' := by
  obtain ⟨Z, hz, hZs, hZn, hZe⟩ := rn_zero
  obtain ⟨LN, hLN⟩ : ∃ L, L = ncells h s := ⟨_, rfl⟩
  obtain ⟨LH, hLH⟩ : ∃ L, L = bcells h := ⟨_, rfl⟩
  have ln := nd_row h s hh
  rw [← hLN] at ln
  have lh : LH.length = 32 := by rw [hLH, bcells_length, hh]
  have ev : nodeV h s = .agg LN.toArray := by rw [hLN]; rfl
  rw [ev]
  obtain ⟨F, q1, q2, q3, q4, q5⟩ := rn_ops Z hZe h s hh LH LN hLH hLN
  have s1 : ∀ (x : World) o, (x.alloc o).heap.size = x.heap.size + 1 := fun x o => by simp
  have b0 := (Has.new w 29 LN.toArray).alloc (.cells Z 38)
  have b1 := Has.new (w.alloc (.cells LN.toArray 29)) 38 Z
  rw [s1] at b1
  have hbel := ((Below.refl w.heap.size w).alloc (Nat.le_refl _) (.cells LN.toArray 29)).alloc (by rw [s1]; omega) (.cells Z 38)
  have hrow : ((w.alloc (.cells LN.toArray 29)).alloc (.cells Z 38)).rangeAt w.heap.size 0 LH := fun j u hu => by
    rw [Nat.zero_add]
    refine b0.cell_is ?_
    rw [List.getElem?_toArray, hLN, ncells, List.getElem?_append_left (by rw [← hLH]; exact (List.getElem?_eq_some_iff.1 hu).1), ← hLH]
    exact hu
  have c32 := b0.cell_is (show LN.toArray[32]? = some (.int .u64 (s : Int)) by rw [List.getElem?_toArray]; exact ln.2)
  have HB0 := Lib.hid b0
  have HB1 := Lib.hid b1
  have HBEL := Lib.hid hbel
  have HROW := Lib.hid hrow
  have HQ := Lib.hid (And.intro q1 (And.intro q2 (And.intro q3 (And.intro q4 q5))))
  have SZH := Lib.hid (show (Tryd.prog.info? 27).map (·.size) = some LH.length by rw [lh]; kernel_rfl)
  have SZN := Lib.hid (show (Tryd.prog.info? 38).map (·.size) = some LN.toArray.size by rw [List.size_toArray, ln.1]; kernel_rfl)
  have ONEN := Lib.hid (show LN.toArray.all (·.oneCell') = true by rw [hLN]; exact all_oneCell_toArray (ncells_one _ _))
  have HZL := Lib.hid (show Z.size = LN.toArray.size by rw [hZs, List.size_toArray, ln.1])
  clear q1 q2 q3 q4 q5 b0 b1 hbel hrow ln lh ev hLN hLH hZs hZe
  go_enter Tryd.func13, Tryd.ntmps13
  go_upto_region 1 with (fail)
  generalize (w.alloc (.cells LN.toArray 29)).alloc (.cells Z 38) = W0 at HB0 HB1 HBEL HROW c32 ⊢
  obtain ⟨B0, hB0⟩ : ∃ B, B = w.heap.size := ⟨_, rfl⟩
  obtain ⟨B1, hB1⟩ : ∃ B, B = w.heap.size + 1 := ⟨_, rfl⟩
  rw [← hB1] at HB1 ⊢
  rw [← hB0] at HB0 HROW c32 ⊢
  have hres : Has (W0.setRow B1 LN.toArray) B1 38 LN.toArray := HB1.out.setRow
  have hbf : Below w.heap.size w (W0.setRow B1 LN.toArray) := HBEL.out.trans ((kept_setRow (g := B1) W0 LN.toArray).below HBEL.out.size (fun k e => by have e' : k = B1 := e; omega))
  have HRES := Lib.hid hres
  have HBF := Lib.hid hbf
  clear hres hbf hB0 hB1
  obtain ⟨q1, q2, q3, q4, q5⟩ := HQ.out
  go_wp2_with (first
    | (refine wpList_load_mid rfl 27 (.tmp 3) rfl B0 0 rfl LH _ HROW.out Tryd.underlying27 rfl SZH.out ?_)
    | (refine wpList_store_row rfl 38 (.tmp 2) (.tmp 7) rfl B1 LN.toArray rfl rfl 38 Z HB1.out SZN.out HZL.out ONEN.out ?_))
  refine bodyPost_ret (results_cell_row rfl _ _ B1 38 LN.toArray (0, 0) _ rfl HRES.out Tryd.underlying38 rfl SZN.out) rfl ?_
  exact ⟨rfl, HBF.out⟩
theorem dig_a : ¬ digest KS SS ([97] ++ eight 7) = List.replicate 32 0 := by decide +kernel
theorem zero32 : IsHash (List.replicate 32 0) := ⟨List.length_replicate, fun k hk => by rw [List.eq_of_mem_replicate hk]; decide⟩
theorem zn_node : ∃ Z : Array Value, (∀ w, (zeroValue 29).run Tryd.prog w = .ok (.agg Z) w) ∧ (∀ w, (Instr.build 29 #[]).run Tryd.prog w = .ok (.agg Z) w) ∧ Z.size = 33 ∧ ¬ Z = #[] ∧ Z = (ncells (List.replicate 32 0) 0).toArray := by
  have hs : (ncells (List.replicate 32 0) 0).toArray.size = 33 := by kernel_rfl
  exact ⟨_, fun w => by kernel_rfl, fun w => by kernel_rfl, hs, (fun e => (by rw [e] at hs; cases hs)), rfl⟩
set_option maxRecDepth 100000 in
set_option maxHeartbeats 2000000 in
theorem leaf_is (w : World) (hT : Tabs KS SS w) : Calls Tryd.prog 11 #[] w fun e w' => e = .returned (.bool true) ∧ Below w.heap.size w w' := by
  have hlow := hT.low
  obtain ⟨Z, hz, -, hZs, hZn, -⟩ := zn_node
  obtain ⟨D, hD⟩ : ∃ D, D = digest KS SS ([97] ++ eight 7) := ⟨_, rfl⟩
  have hdl : IsHash D := by rw [hD]; exact digest_hash KS SS ss_len _
  have hd0 : ¬ D = List.replicate 32 0 := by rw [hD]; exact dig_a
  obtain ⟨LD, hLD⟩ : ∃ L, L = bcells D := ⟨_, rfl⟩
  obtain ⟨LZ, hLZ⟩ : ∃ L, L = bcells (List.replicate 32 0) := ⟨_, rfl⟩
  obtain ⟨LN, hLN⟩ : ∃ L, L = ncells D 7 := ⟨_, rfl⟩
  have ln := nd_row D 7 hdl.1
  rw [← hLN] at ln
  have hneq : ∀ W : World, (binOp .neq 27 (.agg LD.toArray) (.agg LZ.toArray)).run Tryd.prog W = .ok (.bool true) W := fun W => by
    have h := hash_eq_at 9998 D (List.replicate 32 0) hdl zero32 W
    rw [decide_eq_false hd0] at h
    rw [hLD, hLZ, run_neq_struct, h]
    rfl
  have hb1 : Below w.heap.size w (w.alloc (.cells #[.int .u8 97] 5 (1, 2))) := (Below.refl _ _).alloc (Nat.le_refl _) _
  have hcv : (convert 22 22 (.slice (some ⟨w.heap.size, 0, none⟩) 1 1)).run Tryd.prog (w.alloc (.cells #[.int .u8 97] 5)) = .ok (.slice (some ⟨w.heap.size, 0, none⟩) 1 1) (w.alloc (.cells #[.int .u8 97] 5 (1, 2))) := Lib.run_convert_bytes_const w 22 5 #[.int .u8 97] 1 1 Tryd.underlying22 Tryd.underlying5
  have hbox : (w.alloc (.cells #[.int .u8 97] 5 (1, 2))).cell? ⟨w.heap.size, 0, none⟩ = some (.int .u8 97) := by
    unfold World.cell?
    rw [heap_alloc_new]; rfl
  have hby : Bytes (w.alloc (.cells #[.int .u8 97] 5 (1, 2))) (w.alloc (.cells #[.int .u8 97] 5 (1, 2))).heap.size (.slice (some ⟨w.heap.size, 0, none⟩) 1 1) [97] :=
    ⟨_, _, rfl, Nat.le_refl _, by decide, fun _ => ⟨w.heap.size, 0, rfl, by simp, fun i hi => by
      obtain rfl : i = 0 := by simpa using hi
      exact hbox⟩⟩
  have hnode := leafNode_is KS SS _ (.slice (some ⟨w.heap.size, 0, none⟩) 1 1) [97] 7 (hT.below hb1 hlow) hby (by decide) (by decide)
  rw [← hD] at hnode
  have ev : nodeV D 7 = .agg LN.toArray := by rw [hLN]; rfl
  rw [ev] at hnode
  change Calls Tryd.prog 14 #[.agg #[.slice (some ⟨w.heap.size, 0, none⟩) 1 1, .int .u64 7]] _ _ at hnode
  have hz32 : ∀ W, (Instr.build 27 #[]).run Tryd.prog W = .ok (.agg LZ.toArray) W := fun W => by rw [hLZ]; kernel_rfl
  have hn0 : ∀ W, Calls Tryd.prog 16 #[.agg #[.slice none 0 0, .int .u64 0]] W fun e w' => e = .returned (.bool true) ∧ Below W.heap.size W w' := fun W => none_is W none 0 0 0 (by decide)
  have hn1 : ∀ W, Calls Tryd.prog 16 #[.agg #[.slice none 0 0, .int .u64 1]] W fun e w' => e = .returned (.bool false) ∧ Below W.heap.size W w' := fun W => none_is W none 0 0 1 (by decide)
  have HN0 := Lib.hid hn0
  have HN1 := Lib.hid hn1
  have HZ0 := Lib.hid hz32
  have HNODE := Lib.hid hnode
  have HB1 := Lib.hid hb1
  have HLD := Lib.hid hLD
  have HLN := Lib.hid hLN
  have HLDL := Lib.hid (show LD.length = 32 by rw [hLD, bcells_length, hdl.1])
  have HC32 := Lib.hid ln.2
  have SZH := Lib.hid (show (Tryd.prog.info? 27).map (·.size) = some LD.length by rw [HLDL.out]; kernel_rfl)
  have SZN := Lib.hid (show (Tryd.prog.info? 29).map (·.size) = some LN.toArray.size by rw [List.size_toArray, ln.1]; kernel_rfl)
  have ONEN := Lib.hid (show LN.toArray.all (·.oneCell') = true by rw [hLN]; exact all_oneCell_toArray (ncells_one _ _))
  have HZL := Lib.hid (show Z.size = LN.toArray.size by rw [hZs, List.size_toArray, ln.1])
  clear hT hlow hD hdl hd0 hLD hLZ hLN ln hb1 hbox hby hnode ev hz32 hn0 hn1 hZs
  go_enter Tryd.func11, Tryd.ntmps11
  go_wp2_with fail
  refine HNODE.out.mono ?_
  rintro _ w2 ⟨rfl, hb2⟩
  have h9 := Has.new w2 29 Z
  have HB2 := Lib.hid (HB1.out.trans (hb2.mono HB1.out.size))
  have hw3 : Has ((w2.alloc (.cells Z 29)).setRow w2.heap.size LN.toArray) w2.heap.size 29 LN.toArray ∧ Below w.heap.size w ((w2.alloc (.cells Z 29)).setRow w2.heap.size LN.toArray) := by
    rw [World.setRow_alloc_new]
    exact ⟨Has.new _ _ _, HB2.out.alloc HB2.out.size _⟩
  have H9 := Lib.hid h9
  have HW3 := Lib.hid hw3
  clear hcv hb2 h9 hw3
  go_upto_region 2 with (refine wpList_store_row rfl 29 (.tmp 1) (.tmp 5) rfl w2.heap.size LN.toArray rfl rfl 29 Z H9.out SZN.out HZL.out ONEN.out ?_)
  generalize (w2.alloc (.cells Z 29)).setRow w2.heap.size LN.toArray = W3 at HW3 ⊢
  obtain ⟨B, hB⟩ : ∃ B, B = w2.heap.size := ⟨_, rfl⟩
  rw [← hB] at HW3 ⊢
  clear hB H9
  have c32 : W3.cell? ⟨B, 32, none⟩ = some (.int .u64 7) := HW3.out.1.cell_is (by rw [List.getElem?_toArray]; exact HC32.out)
  have hrow : W3.rangeAt B 0 LD := fun j u hu => by
    rw [Nat.zero_add]
    refine HW3.out.1.cell_is ?_
    rw [List.getElem?_toArray, HLN.out, ncells, List.getElem?_append_left (by rw [← HLD.out]; exact (List.getElem?_eq_some_iff.1 hu).1), ← HLD.out]
    exact hu
  have HROW := Lib.hid hrow
  clear hrow
  go_wp2_with (first
    | (refine wpList_load_midG (by kernel_rfl) 27 (.tmp 10) rfl B 0 rfl LD _ HROW.out Tryd.underlying27 rfl SZH.out ?_)
    | (refine wpList_build_run (by kernel_rfl) 27 _ rfl #[] (by kernel_rfl) (.agg LZ.toArray) (HZ0.out _) ?_))
  refine (HN0.out _).mono ?_
  rintro _ w4 ⟨rfl, hb4⟩
  have HB4 := Lib.hid (HW3.out.2.trans (hb4.mono HW3.out.2.size))
  clear hb4 c32 hneq
  go_wp2_with fail
  refine (HN1.out _).mono ?_
  rintro _ w5 ⟨rfl, hb5⟩
  have HB5 := Lib.hid (HB4.out.trans (hb5.mono HB4.out.size))
  clear hb5
  go_wp2
  go_ret
  exact ⟨rfl, HB5.out⟩
end Go.Proofs.YtcpomddkehhkkaaDoor
