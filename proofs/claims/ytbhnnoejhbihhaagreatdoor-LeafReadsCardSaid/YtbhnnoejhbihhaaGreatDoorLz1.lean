/- The walks of the reference's number, Read32, Right. -/
import Derived.Test.YtbhnnoejhbihhaaGreatDoorLb1
import Derived.Test.YtbhnnoejhbihhaaGreatDoorRz2
namespace Go.Proofs.YtbhnnoejhbihhaaGreatDoor
set_option linter.unusedVariables false
set_option linter.unusedSimpArgs false
open Go.ChangeShapes Go.WideShapes Go.ChangeAt Go.RowKit Go.Maps

set_option maxRecDepth 100000 in
set_option maxHeartbeats 4000000 in
theorem rzNumber_is (w : World) (a : Option Addr) (L cv : Nat) (b : List Nat) (hb : Bytes w w.heap.size (.slice a L cv) b) (h8 : b.length ≤ 8) :
    Calls Tryz.prog 63 #[.slice a L cv] w fun e w' => e = .returned (.int .u64 (numB b : Int)) ∧ w' = w := by
  obtain ⟨hl, hlc, hlt, hop⟩ := hb.openT
  have HLT := Lib.hid hlt
  have HOP := Lib.hid hop
  have hL8 : L ≤ 8 := by omega
  have EL := Lib.hid hl
  clear hb hlt hop hl h8
  go_enter Tryz.func63, Tryz.ntmps63
  go_wp2_with fail
  go_loop [3, 8] (fun xv iv => ∃ j : Nat, iv = .int .i64 (j : Int) ∧ j ≤ L ∧ xv = .int .u64 (numB (b.take j) : Int)) (fun _ iv => L - (intOf iv).toNat)
  case atStart => exact ⟨0, rfl, Nat.zero_le _, rfl⟩
  case round =>
    obtain ⟨j, rfl, hj, rfl⟩ := hrel
    by_cases hjL : j < L
    · have hjL' : (j : Int) < (L : Int) := by omega
      obtain ⟨bg, bo, rfl, _, hc⟩ := HOP.out (by omega)
      have hjb : j < b.length := by rw [← EL.out]; exact hjL
      have cb := hc j hjL
      have hct := HLT.out (b.getD j 0) (by rw [List.getD_eq_getElem?_getD, List.getElem?_eq_getElem hjb]; exact List.getElem_mem _)
      obtain ⟨ct, hce⟩ : ∃ z, z = b.getD j 0 := ⟨_, rfl⟩
      rw [← hce] at cb hct
      obtain ⟨x, hxe⟩ : ∃ z, z = numB (b.take j) := ⟨_, rfl⟩
      have hx7 : x < 256 ^ 7 := by rw [hxe]; exact numB_lt2 HLT.out j 7 (by omega)
      have HNX := Lib.hid (show numB (b.take (j + 1)) = x * 256 + ct by rw [List.take_add_one, List.getElem?_eq_getElem hjb]; show numB (b.take j ++ [b[j]]) = _; rw [numB_snoc, ← hxe, hce, List.getD_eq_getElem?_getD, List.getElem?_eq_getElem hjb]; rfl)
      rw [← hxe]
      have hat : ∀ v, (Instr.indexAt 22 (.slice (some ⟨bg, bo, none⟩) L cv) (.int .i64 (j : Int))).run Tryz.prog v = .ok (.pointer (some ⟨bg, bo + j, none⟩)) v := fun v => at_byte bg bo L cv j hjL v
      have HW1 := Lib.hid (show IntKind.u64.wrap (IntKind.u64.wrap ((x : Int) * 256) + (ct : Int)) = ((x * 256 + ct : Nat) : Int) by rw [IntKind.wrap_u64, IntKind.wrap_u64]; omega)
      have HW2 := Lib.hid (show IntKind.u64.wrap ((x : Int) * 256 + (ct : Int)) = ((x * 256 + ct : Nat) : Int) by rw [IntKind.wrap_u64]; omega)
      have hct2 : (ct : Int) < 256 := by omega
      have HJ := Lib.hid hjL
      clear hce hxe hjb hc hx7 hct
      go_wp2_with fail
      go_round
      case rel => exact ⟨j + 1, by go_num, by have := HJ.out; omega, by rw [HNX.out]; first | rw [HW1.out] | rw [HW2.out] | skip⟩
      case measure => have := HJ.out; simp [intOf]; omega
    · obtain rfl : j = L := by omega
      have hjL' : ¬ (j : Int) < (j : Int) := by omega
      have HE := Lib.hid (show numB (b.take j) = numB b by rw [EL.out, List.take_length])
      go_wp2_with fail
      go_ret
      rw [HE.out]
      exact ⟨rfl, rfl⟩
theorem zero_arr : ∃ Z : Array Value, (∀ w, (zeroValue 25).run Tryz.prog w = .ok (.agg Z) w) ∧ (∀ w, (Instr.build 25 #[]).run Tryz.prog w = .ok (.agg Z) w) ∧ Z = (bcells (List.replicate 32 0)).toArray ∧ Z.size = 32 ∧ ¬ Z = #[] := ⟨(bcells (List.replicate 32 0)).toArray, fun w => by kernel_rfl, fun w => by kernel_rfl, rfl, by simp [bcells], by decide⟩
theorem bcells_take (l : List Nat) (i : Nat) : (bcells l).take i = bcells (l.take i) := by simp [bcells]
set_option maxRecDepth 100000 in
set_option maxHeartbeats 4000000 in
theorem rzRead32_is (w : World) (a : Option Addr) (L cv : Nat) (b : List Nat) (hb : Bytes w w.heap.size (.slice a L cv) b) (h32 : 32 ≤ b.length) :
    Calls Tryz.prog 62 #[.slice a L cv] w fun e w' => e = .returned (arr (b.take 32)) ∧ Below w.heap.size w w' := by
  obtain ⟨hl, hlc, hlt, hop⟩ := hb.openT
  obtain ⟨bg, bo, rfl, hbg, hc⟩ := hop (by omega)
  obtain ⟨Z, hz, hzb, hZ, hZs, hZn⟩ := zero_arr
  have HZ := Lib.hid hZ
  have HLT := Lib.hid hlt
  have hL32 : 32 ≤ L := by omega
  have EL := Lib.hid hl
  obtain ⟨W0, hW0⟩ : ∃ v, v = ((w.alloc (.cells Z 25)).alloc (.cells Z 25)).setRow (w.heap.size + 1) Z := ⟨_, rfl⟩
  have h0 : Has W0 w.heap.size 25 Z ∧ Has W0 (w.heap.size + 1) 25 Z ∧ Below w.heap.size w W0 := by
    have p1 := (Has.new w 25 Z).alloc (.cells Z 25)
    have p2 : Has ((w.alloc (.cells Z 25)).alloc (.cells Z 25)) (w.heap.size + 1) 25 Z := by
      have := Has.new (w.alloc (.cells Z 25)) 25 Z
      simpa using this
    have hk := kept_setRow (g := w.heap.size + 1) ((w.alloc (.cells Z 25)).alloc (.cells Z 25)) Z
    rw [hW0]
    refine ⟨p1.kept hk (fun e => by have e' : w.heap.size = w.heap.size + 1 := e; omega), p2.setRow, (((Below.refl _ _).alloc (Nat.le_refl _) _).alloc (by simp) _).trans (hk.below (by simp; omega) (fun k e => by have e' : k = w.heap.size + 1 := e; omega))⟩
  have H1 := Lib.hid (show Has ((w.alloc (.cells Z 25)).alloc (.cells Z 25)) (w.heap.size + 1) 25 Z from by
      have := Has.new (w.alloc (.cells Z 25)) 25 Z
      simpa using this)
  have SZ := Lib.hid (show (Tryz.prog.info? 25).map (·.size) = some Z.size by rw [hZs]; kernel_rfl)
  have HON := Lib.hid (show Z.all (·.oneCell') = true by rw [hZ]; exact all_oneCell_toArray (bcells_one _))
  have H0 := Lib.hid h0
  have EW0 := Lib.hid hW0
  have HC := Lib.hid (show ∀ v : World, Below w.heap.size w v → ∀ i, i < L → v.cell? ⟨bg, bo + i, none⟩ = some (.int .u8 (b.getD i 0 : Nat)) from fun v hv i hi => cell_kept (Kept.of_below (S := fun _ => False) hv) (hc i hi) (fun h => h))
  have HAT := Lib.hid (show ∀ (j : Nat), j < L → ∀ v, (Instr.indexAt 22 (.slice (some ⟨bg, bo, none⟩) L cv) (.int .i64 (j : Int))).run Tryz.prog v = .ok (.pointer (some ⟨bg, bo + j, none⟩)) v from fun j hj v => at_byte bg bo L cv j hj v)
  clear hb hlt hop hl h0 hW0 hc hZ
  go_enter Tryz.func62, Tryz.ntmps62
  go_upto_region 2 with (refine wpList_store_row rfl 25 (.tmp 3) (.tmp 5) rfl (w.heap.size + 1) Z rfl rfl 25 Z H1.out SZ.out rfl HON.out ?_)
  rw [← EW0.out]
  go_wp2_with fail
  go_loopw [4] (fun i wr => ∃ k : Nat, k ≤ 32 ∧ i = .int .i64 (k : Int) ∧ Has wr (w.heap.size + 1) 25 (splice (bcells (List.replicate 32 0)) 0 ((bcells (b.take 32)).take k)).toArray ∧ Has wr w.heap.size 25 Z ∧ Below w.heap.size w wr) (fun i _ => 32 - (intOf i).toNat)
  case atStart => exact ⟨0, by omega, rfl, by rw [List.take_zero, splice_nil, ← HZ.out]; exact H0.out.2.1, H0.out.1, H0.out.2.2⟩
  case round =>
    obtain ⟨k, hk, rfl, hW, hR, hK⟩ := hrel
    have HW := Lib.hid hW
    have HR := Lib.hid hR
    have HKR := Lib.hid hK
    have ll : (bcells (b.take 32)).length = 32 := by rw [bcells_length, List.length_take, ← EL.out]; omega
    have HLL := Lib.hid ll
    clear hW hR hK ll
    by_cases hlt : k < 32
    · have hlt' : (k : Int) < 32 := by omega
      have hf := HW.out.free k
      have hct := HLT.out (b.getD k 0) (by rw [List.getD_eq_getElem?_getD, List.getElem?_eq_getElem (by rw [← EL.out]; omega)]; exact List.getElem_mem _)
      have cb := HC.out wr HKR.out k (by omega)
      obtain ⟨v0, hv0⟩ : ∃ v, wr.cell? ⟨w.heap.size + 1, k, none⟩ = some v := by
        refine ⟨_, HW.out.cell_is (by rw [List.getElem?_toArray]; exact List.getElem?_eq_getElem (by rw [splice_len _ _ _ (by rw [List.length_take, HLL.out, bcells_length]; simp; omega)]; rw [bcells_length]; simpa using hlt))⟩
      obtain ⟨ct, hce⟩ : ∃ z, z = b.getD k 0 := ⟨_, rfl⟩
      have hset := HW.out.set (0 + k) (.int .u8 (ct : Int))
      rw [List.setIfInBounds_toArray, splice_take_set _ _ _ _ _ (by rw [HLL.out, bcells_length]; simp) (by rw [hce, bcells_get _ k (by rw [List.length_take, ← EL.out]; omega)]; simp [List.getD_eq_getElem?_getD, List.getElem?_take, hlt]), Nat.zero_add] at hset
      rw [← hce] at cb hct
      have HSET := Lib.hid hset
      have HRS := Lib.hid (HR.out.far (p := ⟨w.heap.size + 1, k, none⟩) (by show w.heap.size ≠ w.heap.size + 1; omega) (.int .u8 (ct : Int)))
      have hat := HAT.out k (by omega)
      have HBS := Lib.hid (HKR.out.setCell (p := ⟨w.heap.size + 1, k, none⟩) (by show w.heap.size ≤ w.heap.size + 1; omega) (.int .u8 (ct : Int)))
      have HLK := Lib.hid hlt
      clear hset hce
      go_wp2
      go_roundw
      case rel => exact ⟨k + 1, by have := HLK.out; omega, by go_num, HSET.out, HRS.out, HBS.out⟩
      case measure => have := HLK.out; simp [intOf]; omega
    · obtain rfl : k = 32 := by omega
      have hlt' : ¬ ((32 : Nat) : Int) < 32 := by omega
      have hfin : Has wr (w.heap.size + 1) 25 (bcells (b.take 32)).toArray := by
        have h1 := HW.out
        rw [List.take_of_length_le (by rw [HLL.out]; exact Nat.le_refl _), splice_all _ _ (by rw [HLL.out, bcells_length]; simp)] at h1
        exact h1
      have HF := Lib.hid hfin
      obtain ⟨C, hC⟩ : ∃ C, C = (bcells (b.take 32)).toArray := ⟨_, rfl⟩
      have hcs : C.size = 32 := by rw [hC, List.size_toArray]; exact HLL.out
      have SZC := Lib.hid (show (Tryz.prog.info? 25).map (·.size) = some C.size by rw [hcs]; kernel_rfl)
      have HZC := Lib.hid (show Z.size = C.size by rw [hZs, hcs])
      have HOC := Lib.hid (show C.all (·.oneCell') = true by rw [hC]; exact all_oneCell_toArray (bcells_one _))
      have hk2 := kept_setRow (g := w.heap.size) wr C
      have HFIN := Lib.hid (show Has (wr.setRow w.heap.size C) w.heap.size 25 C ∧ Below w.heap.size w (wr.setRow w.heap.size C) from ⟨HR.out.setRow, HKR.out.trans (hk2.below HKR.out.size (fun j e => by have e' : j = w.heap.size := e; omega))⟩)
      have EC := Lib.hid hC
      rw [← hC] at HF
      clear hfin hC hcs hk2
      go_wp2_with (first
        | (refine wpList_load_row rfl 25 (.tmp 3) rfl (w.heap.size + 1) rfl 25 C (0, 0) _ HF.out Tryz.underlying25 rfl SZC.out ?_)
        | (refine wpList_store_row rfl 25 (.tmp 2) (.tmp 16) rfl w.heap.size C rfl rfl 25 Z HR.out SZC.out HZC.out HOC.out ?_))
      refine bodyPost_ret (results_cell_row rfl _ _ w.heap.size 25 C (0, 0) _ rfl HFIN.out.1 Tryz.underlying25 rfl SZC.out) rfl ?_
      refine ⟨?_, HFIN.out.2⟩
      rw [EC.out]
      rfl
set_option maxRecDepth 100000 in
set_option maxHeartbeats 4000000 in
theorem rzRight_is (w : World) (l : LeafT) (h : l.ok) : Calls Tryz.prog 48 #[.agg l.cells.toArray] w fun e w' => e = .returned (.bool (!leafBad l)) ∧ w' = w.alloc (.cells l.cells.toArray 38) := by
  obtain ⟨LC, hLC⟩ : ∃ L, L = l.cells := ⟨_, rfl⟩
  have hb := Has.new w 38 LC.toArray
  have c32 : (w.alloc (.cells LC.toArray 38)).cell? ⟨w.heap.size, 32, none⟩ = some (.int .u64 (l.am : Int)) := hb.cell_is (by rw [List.getElem?_toArray, hLC]; exact LeafT.at_am h)
  have c65 : (w.alloc (.cells LC.toArray 38)).cell? ⟨w.heap.size, 65, none⟩ = some (.int .i64 l.pl) := hb.cell_is (by rw [List.getElem?_toArray, hLC]; exact LeafT.at_pl h)
  have c98 : (w.alloc (.cells LC.toArray 38)).cell? ⟨w.heap.size, 98, none⟩ = some (.int .u64 (l.sp.s : Int)) := hb.cell_is (by rw [List.getElem?_toArray, hLC]; exact LeafT.at_ss h)
  rw [← hLC]
  obtain ⟨am, ham⟩ : ∃ x, x = l.am := ⟨_, rfl⟩
  obtain ⟨ss, hss⟩ : ∃ x, x = l.sp.s := ⟨_, rfl⟩
  obtain ⟨pl, hpl⟩ : ∃ x, x = l.pl := ⟨_, rfl⟩
  obtain ⟨B, hB⟩ : ∃ b, b = leafBad l := ⟨_, rfl⟩
  have EB : B = decide (am = 0 ∨ pl < 0 ∨ 256 ≤ pl ∨ ss < am) := by rw [hB, ham, hss, hpl]; rfl
  rw [← ham] at c32
  rw [← hss] at c98
  rw [← hpl] at c65
  rw [← hB]
  have HB := Lib.hid EB
  clear hb hLC ham hss hpl hB EB h
  by_cases b1 : am = 0
  · have b1' : ¬ (am : Int) > 0 := by omega
    have HE := Lib.hid (show B = true by rw [HB.out]; exact decide_eq_true (.inl b1))
    clear b1
    go_enter Tryz.func48, Tryz.ntmps48
    go_wp2_with fail
    go_ret
    rw [HE.out]
    exact ⟨rfl, rfl⟩
  have b1' : (am : Int) > 0 := by omega
  by_cases b2 : pl < 0
  · have b2' : ¬ pl ≥ 0 := by omega
    have HE := Lib.hid (show B = true by rw [HB.out]; exact decide_eq_true (.inr (.inl b2)))
    clear b1 b2
    go_enter Tryz.func48, Tryz.ntmps48
    go_wp2_with fail
    go_ret
    rw [HE.out]
    exact ⟨rfl, rfl⟩
  have b2' : pl ≥ 0 := by omega
  by_cases b3 : 256 ≤ pl
  · have b3' : ¬ pl < 256 := by omega
    have HE := Lib.hid (show B = true by rw [HB.out]; exact decide_eq_true (.inr (.inr (.inl b3))))
    clear b1 b2 b3
    go_enter Tryz.func48, Tryz.ntmps48
    go_wp2_with fail
    go_ret
    rw [HE.out]
    exact ⟨rfl, rfl⟩
  have b3' : pl < 256 := by omega
  by_cases b4 : ss < am
  · have b4' : ¬ (ss : Int) ≥ (am : Int) := by omega
    have HE := Lib.hid (show B = true by rw [HB.out]; exact decide_eq_true (.inr (.inr (.inr b4))))
    clear b1 b2 b3 b4
    go_enter Tryz.func48, Tryz.ntmps48
    go_wp2_with fail
    go_ret
    rw [HE.out]
    exact ⟨rfl, rfl⟩
  have b4' : (ss : Int) ≥ (am : Int) := by omega
  have HE := Lib.hid (show B = false by rw [HB.out]; exact decide_eq_false (fun h => by rcases h with h | h | h | h <;> omega))
  clear b1 b2 b3 b4
  go_enter Tryz.func48, Tryz.ntmps48
  go_wp2_with fail
  go_ret
  rw [HE.out]
  exact ⟨rfl, rfl⟩
end Go.Proofs.YtbhnnoejhbihhaaGreatDoor
