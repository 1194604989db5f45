/- The walk of msum.Empty. -/
import Derived.Test.YtngmpcmeebcdmaaDoorTree7
import Derived.Test.YtngmpcmeebcdmaaDoorStill2
import Derived.Test.YtngmpcmeebcdmaaDoorCells
import Derived.Deep.WholeRow
namespace Go.Proofs.YtngmpcmeebcdmaaDoor
set_option linter.unusedVariables false
set_option linter.unusedSimpArgs false
open Go.ChangeShapes Go.WideShapes Go.ChangeAt Go.RowKit Go.Maps

theorem empty_sum0 (K s0 : List Wd) : ∀ h, (emptyNd K s0 h).s = 0
  | 0 => rfl
  | h + 1 => by show (emptyNd K s0 h).s + (emptyNd K s0 h).s = 0; rw [empty_sum0 K s0 h]
theorem nil_bytes (w : World) (g : Nat) : Bytes w g (.slice none 0 0) [] := ⟨none, 0, rfl, Nat.le_refl _, (fun x hx => by cases hx), fun h => absurd h (by decide)⟩
set_option maxRecDepth 100000 in
set_option maxHeartbeats 2000000 in
theorem empty_out (w : World) (x : Int) (hx : x < 0 ∨ 256 < x) (hx1 : -9223372036854775808 ≤ x) (hx2 : x ≤ 9223372036854775807) :
    Calls Tryd.prog 34 #[.int .i64 x] w fun e w' => e = .returned (nodeV (List.replicate 32 0) 0) ∧ Below w.heap.size w w' := by
  obtain ⟨Z, hz, hZs, hZn, hZ⟩ := zero_node
  have hbd : ∀ W, (Instr.build 58 #[]).run Tryd.prog W = .ok (.agg Z) W := fun W => by rw [hZ]; kernel_rfl
  have HBD := Lib.hid hbd
  have HSZ := Lib.hid (show (Tryd.prog.info? 58).map (·.size) = some Z.size by rw [hZs]; kernel_rfl)
  have HONE := Lib.hid (show Z.all (·.oneCell') = true by rw [hZ]; exact all_oneCell_toArray (ncells_one _ _))
  have EZ := Lib.hid hZ
  have h1 := Has.new w 58 Z
  have hb : Below w.heap.size w ((w.alloc (.cells Z 58)).setRow w.heap.size Z) := ((Below.refl _ _).alloc (Nat.le_refl _) _).trans ((kept_setRow (g := w.heap.size) (w.alloc (.cells Z 58)) Z).below (by simp) (fun k e => by have e' : k = w.heap.size := e; omega))
  have HB := Lib.hid hb
  have H1 := Lib.hid h1
  have HR := Lib.hid (show Has ((w.alloc (.cells Z 58)).setRow w.heap.size Z) w.heap.size 58 Z from h1.setRow)
  clear hbd hZ h1 hb hZs
  by_cases h0 : x < 0
  · go_enter Tryd.func34, Tryd.ntmps34
    go_wp2_with (first
      | (refine wpList_build_run (by kernel_rfl) 58 _ rfl #[] (by kernel_rfl) (.agg Z) (HBD.out _) ?_)
      | (refine wpList_store_row rfl 58 (.tmp 2) (.tmp 10) rfl w.heap.size Z rfl rfl 58 Z H1.out HSZ.out rfl HONE.out ?_))
    refine bodyPost_ret (results_cell_row rfl _ _ w.heap.size 58 Z (0, 0) _ rfl HR.out Tryd.underlying58 rfl HSZ.out) rfl ?_
    exact ⟨by rw [EZ.out]; rfl, HB.out⟩
  · have h2 : 256 < x := by omega
    go_enter Tryd.func34, Tryd.ntmps34
    go_wp2_with (first
      | (refine wpList_build_run (by kernel_rfl) 58 _ rfl #[] (by kernel_rfl) (.agg Z) (HBD.out _) ?_)
      | (refine wpList_store_row rfl 58 (.tmp 2) (.tmp 10) rfl w.heap.size Z rfl rfl 58 Z H1.out HSZ.out rfl HONE.out ?_))
    refine bodyPost_ret (results_cell_row rfl _ _ w.heap.size 58 Z (0, 0) _ rfl HR.out Tryd.underlying58 rfl HSZ.out) rfl ?_
    exact ⟨by rw [EZ.out]; rfl, HB.out⟩
set_option maxRecDepth 100000 in
set_option maxHeartbeats 4000000 in
theorem empty_in (K s0 : List Wd) (w : World) (hT : Tabs K s0 w) (h : Nat) (hh : h ≤ 256) :
    Calls Tryd.prog 34 #[.int .i64 (h : Int)] w fun e w' => e = .returned (.agg (ndV (emptyNd K s0 h)).toArray) ∧ Below w.heap.size w w' := by
  obtain ⟨Z, hz, hZs, hZn, -⟩ := zero_node
  have hlow := hT.low
  have hlf : ∀ x, Tabs K s0 x → Calls Tryd.prog 38 #[.agg #[.slice none 0 0, .int .u64 0]] x fun e w' => e = .returned (.agg (ndV (emptyNd K s0 0)).toArray) ∧ Below x.heap.size x w' := fun x ht =>
    leafNode_is K s0 x (.slice none 0 0) [] 0 ht (nil_bytes _ _) (by decide) (by decide)
  obtain ⟨LE, hLE⟩ : ∃ L, L = fun k => ndV (emptyNd K s0 k) := ⟨_, rfl⟩
  have hle : ∀ k, (LE k).length = 33 := fun k => by rw [hLE]; exact ndV_len (empty_hash K s0 hT.len k)
  have hbr : ∀ x k, Tabs K s0 x → Calls Tryd.prog 36 #[.agg (LE k).toArray, .agg (LE k).toArray] x fun e w' => e = .returned (.tuple #[.agg (LE (k + 1)).toArray, .int .i64 0]) ∧ Below x.heap.size x w' := fun x k ht => by
    have hk := empty_hash K s0 ht.len k
    have hs := empty_sum0 K s0 k
    have := branch_fits K s0 x (emptyNd K s0 k).h (emptyNd K s0 k).h (emptyNd K s0 k).s (emptyNd K s0 k).s ht hk hk (by rw [hs]; decide)
    rw [hLE]; exact this
  have HLF := Lib.hid (show ∀ x, Tabs K s0 x → Calls Tryd.prog 38 #[.agg #[.slice none 0 0, .int .u64 0]] x fun e w' => e = .returned (.agg (LE 0).toArray) ∧ Below x.heap.size x w' from fun x ht => by rw [hLE]; exact hlf x ht)
  have HBR := Lib.hid hbr
  have HLE := Lib.hid hle
  have HT := Lib.hid hT
  have ELE := Lib.hid hLE
  have SZL := Lib.hid (show ∀ k, (Tryd.prog.info? 58).map (·.size) = some (LE k).length from fun k => by rw [hle]; kernel_rfl)
  have SZA := Lib.hid (show ∀ k, (Tryd.prog.info? 58).map (·.size) = some (LE k).toArray.size from fun k => by rw [List.size_toArray]; exact SZL.out k)
  have ONE := Lib.hid (show ∀ k, (LE k).toArray.all (·.oneCell') = true from fun k => by rw [hLE]; exact ndV_one _)
  have HZL := Lib.hid (show ∀ k, Z.size = (LE k).toArray.size from fun k => by rw [hZs, List.size_toArray, hle])
  have HLL := Lib.hid (show ∀ k j, (LE k).toArray.size = (LE j).toArray.size from fun k j => by rw [List.size_toArray, List.size_toArray, hle, hle])
  have h1 := Has.new w 58 Z
  have hb1 : Below w.heap.size w (w.alloc (.cells Z 58)) := (Below.refl _ _).alloc (Nat.le_refl _) _
  have H1 := Lib.hid h1
  have HB1 := Lib.hid hb1
  clear hlf hbr hle hLE hT h1 hb1 hZs
  go_enter Tryd.func34, Tryd.ntmps34
  go_wp2_with fail
  refine (HLF.out _ (HT.out.below HB1.out hlow)).mono ?_
  rintro _ w2 ⟨rfl, hb2⟩
  obtain ⟨B2, hB2⟩ : ∃ B, B = w.heap.size := ⟨_, rfl⟩
  have h9 := Has.new w2 58 Z
  have hk2 : Kept (fun _ => False) (w.alloc (.cells Z 58)) w2 := Kept.of_below hb2
  have hw3 : Has ((w2.alloc (.cells Z 58)).setRow w2.heap.size (LE 0).toArray) w2.heap.size 58 (LE 0).toArray ∧ Has ((w2.alloc (.cells Z 58)).setRow w2.heap.size (LE 0).toArray) B2 58 Z ∧ Below w.heap.size w ((w2.alloc (.cells Z 58)).setRow w2.heap.size (LE 0).toArray) := by
    rw [World.setRow_alloc_new, hB2]
    exact ⟨Has.new _ _ _, (H1.out.kept hk2 (fun h => h)).alloc _, (HB1.out.trans (hb2.mono HB1.out.size)).alloc (by have h3 := HB1.out.size; have h4 := hb2.size; omega) _⟩
  have H9 := Lib.hid h9
  have HW3 := Lib.hid hw3
  have HNE := Lib.hid (show B2 ≠ w2.heap.size ∧ w.heap.size ≤ w2.heap.size by have h3 : w.heap.size + 1 ≤ w2.heap.size := by (have := hb2.size; simpa using this)
                                                                              omega)
  rw [← hB2]
  have EB2 := Lib.hid hB2
  clear hb2 h9 hw3 hk2 hB2
  go_upto_region 4 with (refine wpList_store_row rfl 58 (.tmp 3) (.tmp 12) rfl w2.heap.size (LE 0).toArray rfl rfl 58 Z H9.out (SZA.out 0) (HZL.out 0) (ONE.out 0) ?_)
  generalize (w2.alloc (.cells Z 58)).setRow w2.heap.size (LE 0).toArray = W3 at HW3 ⊢
  clear H9
  generalize w2.heap.size = B3 at HW3 HNE ⊢
  go_wp2_with fail
  go_loopw [14] (fun i wr => ∃ k : Nat, i = .int .i64 (k : Int) ∧ k ≤ h ∧ Has wr B3 58 (LE k).toArray ∧ Has wr B2 58 Z ∧ Below w.heap.size w wr) (fun i _ => h - (intOf i).toNat)
  case atStart => exact ⟨0, rfl, Nat.zero_le _, HW3.out⟩
  case round =>
    clear HW3
    obtain ⟨k, rfl, hk, hr3, hr2, hbel⟩ := hrel
    have HR3 := Lib.hid hr3
    have HR2 := Lib.hid hr2
    have HBE := Lib.hid hbel
    have HROW := Lib.hid (hr3.row0)
    clear hr3 hr2 hbel
    by_cases hlt : k < h
    · have HC := Lib.hid (HBR.out wr k (HT.out.below HBE.out hlow))
      have hlt' : (k : Int) < (h : Int) := by omega
      go_wp2_with (refine wpList_load_mid rfl 58 (.tmp 3) rfl B3 0 rfl (LE k) _ HROW.out Tryd.underlying58 rfl (SZL.out k) ?_)
      refine HC.out.mono ?_
      rintro _ w5 ⟨rfl, hb5⟩
      have hk5 := Kept.of_below (S := fun _ => False) hb5
      have hr5 := HR3.out.kept hk5 (fun h => h)
      have hset : Has (w5.setRow B3 (LE (k + 1)).toArray) B3 58 (LE (k + 1)).toArray := hr5.setRow
      have hks : Kept (· = B3) wr (w5.setRow B3 (LE (k + 1)).toArray) := (hk5.mono (fun _ _ h => h.elim)).trans (kept_setRow (g := B3) w5 _)
      have HFIN := Lib.hid (show Has (w5.setRow B3 (LE (k + 1)).toArray) B3 58 (LE (k + 1)).toArray ∧ Has (w5.setRow B3 (LE (k + 1)).toArray) B2 58 Z ∧ Below w.heap.size w (w5.setRow B3 (LE (k + 1)).toArray) from
        ⟨hset, HR2.out.kept hks HNE.out.1, HBE.out.trans (hks.below HBE.out.size (fun j e => by have e' : j = B3 := e; rw [e']; exact HNE.out.2))⟩)
      have HR5 := Lib.hid hr5
      have hke : (k : Int) + 1 = ((k + 1 : Nat) : Int) := by omega
      have HKE := Lib.hid hke
      clear hb5 hk5 hr5 hset hks hke
      go_wp2_with (refine wpList_store_row rfl 58 (.tmp 3) (.tmp 20) rfl B3 (LE (k + 1)).toArray rfl rfl 58 (LE k).toArray HR5.out (SZA.out (k + 1)) (HLL.out k (k + 1)) (ONE.out (k + 1)) ?_)
      go_roundw
      case rel => exact ⟨k + 1, by go_num, by omega, HFIN.out⟩
      case measure => simp [intOf]; omega
    · obtain rfl : k = h := by omega
      have hset : Has (wr.setRow B2 (LE k).toArray) B2 58 (LE k).toArray := HR2.out.setRow
      have hbf : Below w.heap.size w (wr.setRow B2 (LE k).toArray) := HBE.out.trans ((kept_setRow (g := B2) wr (LE k).toArray).below HBE.out.size (fun j e => by have e' : j = B2 := e; have := EB2.out; omega))
      have HSET := Lib.hid hset
      have HBF := Lib.hid hbf
      clear hset hbf hlt
      have hlt' : ¬ (k : Int) < (k : Int) := by omega
      go_wp2_with (first
        | (refine wpList_load_mid rfl 58 (.tmp 3) rfl B3 0 rfl (LE k) _ HROW.out Tryd.underlying58 rfl (SZL.out k) ?_)
        | (refine wpList_store_row rfl 58 (.tmp 2) (.tmp 23) rfl B2 (LE k).toArray rfl rfl 58 Z HR2.out (SZA.out k) (HZL.out k) (ONE.out k) ?_))
      refine bodyPost_ret (results_cell_row rfl _ _ B2 58 (LE k).toArray (0, 0) _ rfl HSET.out Tryd.underlying58 rfl (SZA.out k)) rfl ?_
      exact ⟨by rw [ELE.out], HBF.out⟩
end Go.Proofs.YtngmpcmeebcdmaaDoor
