/- The walk of msum.Empty. -/
import Derived.Test.YtcpomddkehhkkaaDoorTree7
import Derived.Test.YtcpomddkehhkkaaDoorStill2
import Derived.Test.YtcpomddkehhkkaaDoorCells
import Derived.Deep.WholeRow
import Derived.Test.YtcpomddkehhkkaaDoorRef4
import Derived.Test.YtcpomddkehhkkaaDoorApp
namespace Go.Proofs.YtcpomddkehhkkaaDoor
set_option linter.unusedVariables false
set_option linter.unusedSimpArgs false
open Go.ChangeShapes Go.WideShapes Go.ChangeAt Go.RowKit Go.Maps

theorem empty_sum0 (K s0 : List Wd) : ∀ h, (emptyNd K s0 h).s = 0
  | 0 => rfl
  | h + 1 => by show (emptyNd K s0 h).s + (emptyNd K s0 h).s = 0; rw [empty_sum0 K s0 h]
theorem nil_bytes (w : World) (g : Nat) : Bytes w g (.slice none 0 0) [] := ⟨none, 0, rfl, Nat.le_refl _, (fun x hx => by cases hx), fun h => absurd h (by decide)⟩
set_option maxRecDepth 100000 in
set_option maxHeartbeats 2000000 in
theorem empty_out (w : World) (x : Int) (hx : x < 0 ∨ 256 < x) (hx1 : -9223372036854775808 ≤ x) (hx2 : x ≤ 9223372036854775807) :
    Calls Tryd.prog 24 #[.int .i64 x] w fun e w' => e = .returned (nodeV (List.replicate 32 0) 0) ∧ Below w.heap.size w w' := by
  obtain ⟨Z, hz, hZs, hZn, hZ⟩ := zero_node
  have hbd : ∀ W, (Instr.build 29 #[]).run Tryd.prog W = .ok (.agg Z) W := fun W => by rw [hZ]; kernel_rfl
  have HBD := Lib.hid hbd
  have HSZ := Lib.hid (show (Tryd.prog.info? 29).map (·.size) = some Z.size by rw [hZs]; kernel_rfl)
  have HONE := Lib.hid (show Z.all (·.oneCell') = true by rw [hZ]; exact all_oneCell_toArray (ncells_one _ _))
  have EZ := Lib.hid hZ
  have h1 := Has.new w 29 Z
  have hb : Below w.heap.size w ((w.alloc (.cells Z 29)).setRow w.heap.size Z) := ((Below.refl _ _).alloc (Nat.le_refl _) _).trans ((kept_setRow (g := w.heap.size) (w.alloc (.cells Z 29)) Z).below (by simp) (fun k e => by have e' : k = w.heap.size := e; omega))
  have HB := Lib.hid hb
  have H1 := Lib.hid h1
  have HR := Lib.hid (show Has ((w.alloc (.cells Z 29)).setRow w.heap.size Z) w.heap.size 29 Z from h1.setRow)
  clear hbd hZ h1 hb hZs
  by_cases h0 : x < 0
  · go_enter Tryd.func24, Tryd.ntmps24
    go_wp2_with (first
      | (refine wpList_build_run (by kernel_rfl) 29 _ rfl #[] (by kernel_rfl) (.agg Z) (HBD.out _) ?_)
      | (refine wpList_store_row rfl 29 (.tmp 2) (.tmp 10) rfl w.heap.size Z rfl rfl 29 Z H1.out HSZ.out rfl HONE.out ?_))
    refine bodyPost_ret (results_cell_row rfl _ _ w.heap.size 29 Z (0, 0) _ rfl HR.out Tryd.underlying29 rfl HSZ.out) rfl ?_
    exact ⟨by rw [EZ.out]; rfl, HB.out⟩
  · have h2 : 256 < x := by omega
    go_enter Tryd.func24, Tryd.ntmps24
    go_wp2_with (first
      | (refine wpList_build_run (by kernel_rfl) 29 _ rfl #[] (by kernel_rfl) (.agg Z) (HBD.out _) ?_)
      | (refine wpList_store_row rfl 29 (.tmp 2) (.tmp 10) rfl w.heap.size Z rfl rfl 29 Z H1.out HSZ.out rfl HONE.out ?_))
    refine bodyPost_ret (results_cell_row rfl _ _ w.heap.size 29 Z (0, 0) _ rfl HR.out Tryd.underlying29 rfl HSZ.out) rfl ?_
    exact ⟨by rw [EZ.out]; rfl, HB.out⟩
set_option maxRecDepth 100000 in
set_option maxHeartbeats 4000000 in
theorem empty_in (K s0 : List Wd) (w : World) (hT : Tabs K s0 w) (h : Nat) (hh : h ≤ 256) :
    Calls Tryd.prog 24 #[.int .i64 (h : Int)] w fun e w' => e = .returned (.agg (ndV (emptyNd K s0 h)).toArray) ∧ Below w.heap.size w w' := by
  obtain ⟨Z, hz, hZs, hZn, -⟩ := zero_node
  have hlow := hT.low
  have hlf : ∀ x, Tabs K s0 x → Calls Tryd.prog 14 #[.agg #[.slice none 0 0, .int .u64 0]] x fun e w' => e = .returned (.agg (ndV (emptyNd K s0 0)).toArray) ∧ Below x.heap.size x w' := fun x ht =>
    leafNode_is K s0 x (.slice none 0 0) [] 0 ht (nil_bytes _ _) (by decide) (by decide)
  obtain ⟨LE, hLE⟩ : ∃ L, L = fun k => ndV (emptyNd K s0 k) := ⟨_, rfl⟩
  have hle : ∀ k, (LE k).length = 33 := fun k => by rw [hLE]; exact ndV_len (empty_hash K s0 hT.len k)
  have hbr : ∀ x k, Tabs K s0 x → Calls Tryd.prog 17 #[.agg (LE k).toArray, .agg (LE k).toArray] x fun e w' => e = .returned (.tuple #[.agg (LE (k + 1)).toArray, .int .i64 0]) ∧ Below x.heap.size x w' := fun x k ht => by
    have hk := empty_hash K s0 ht.len k
    have hs := empty_sum0 K s0 k
    have := branch_fits K s0 x (emptyNd K s0 k).h (emptyNd K s0 k).h (emptyNd K s0 k).s (emptyNd K s0 k).s ht hk hk (by rw [hs]; decide)
    rw [hLE]; exact this
  have HLF := Lib.hid (show ∀ x, Tabs K s0 x → Calls Tryd.prog 14 #[.agg #[.slice none 0 0, .int .u64 0]] x fun e w' => e = .returned (.agg (LE 0).toArray) ∧ Below x.heap.size x w' from fun x ht => by rw [hLE]; exact hlf x ht)
  have HBR := Lib.hid hbr
  have HLE := Lib.hid hle
  have HT := Lib.hid hT
  have ELE := Lib.hid hLE
  have SZL := Lib.hid (show ∀ k, (Tryd.prog.info? 29).map (·.size) = some (LE k).length from fun k => by rw [hle]; kernel_rfl)
  have SZA := Lib.hid (show ∀ k, (Tryd.prog.info? 29).map (·.size) = some (LE k).toArray.size from fun k => by rw [List.size_toArray]; exact SZL.out k)
  have ONE := Lib.hid (show ∀ k, (LE k).toArray.all (·.oneCell') = true from fun k => by rw [hLE]; exact ndV_one _)
  have HZL := Lib.hid (show ∀ k, Z.size = (LE k).toArray.size from fun k => by rw [hZs, List.size_toArray, hle])
  have HLL := Lib.hid (show ∀ k j, (LE k).toArray.size = (LE j).toArray.size from fun k j => by rw [List.size_toArray, List.size_toArray, hle, hle])
  have h1 := Has.new w 29 Z
  have hb1 : Below w.heap.size w (w.alloc (.cells Z 29)) := (Below.refl _ _).alloc (Nat.le_refl _) _
  have H1 := Lib.hid h1
  have HB1 := Lib.hid hb1
  clear hlf hbr hle hLE hT h1 hb1 hZs
  go_enter Tryd.func24, Tryd.ntmps24
  go_wp2_with fail
  refine (HLF.out _ (HT.out.below HB1.out hlow)).mono ?_
  rintro _ w2 ⟨rfl, hb2⟩
  obtain ⟨B2, hB2⟩ : ∃ B, B = w.heap.size := ⟨_, rfl⟩
  have h9 := Has.new w2 29 Z
  have hk2 : Kept (fun _ => False) (w.alloc (.cells Z 29)) w2 := Kept.of_below hb2
  have hw3 : Has ((w2.alloc (.cells Z 29)).setRow w2.heap.size (LE 0).toArray) w2.heap.size 29 (LE 0).toArray ∧ Has ((w2.alloc (.cells Z 29)).setRow w2.heap.size (LE 0).toArray) B2 29 Z ∧ Below w.heap.size w ((w2.alloc (.cells Z 29)).setRow w2.heap.size (LE 0).toArray) := by
    rw [World.setRow_alloc_new, hB2]
    exact ⟨Has.new _ _ _, (H1.out.kept hk2 (fun h => h)).alloc _, (HB1.out.trans (hb2.mono HB1.out.size)).alloc (by have h3 := HB1.out.size; have h4 := hb2.size; omega) _⟩
  have H9 := Lib.hid h9
  have HW3 := Lib.hid hw3
  have HNE := Lib.hid (show B2 ≠ w2.heap.size ∧ w.heap.size ≤ w2.heap.size by have h3 : w.heap.size + 1 ≤ w2.heap.size := by (have := hb2.size; simpa using this)
                                                                              omega)
  rw [← hB2]
  have EB2 := Lib.hid hB2
  clear hb2 h9 hw3 hk2 hB2
  go_upto_region 4 with (refine wpList_store_row rfl 29 (.tmp 3) (.tmp 12) rfl w2.heap.size (LE 0).toArray rfl rfl 29 Z H9.out (SZA.out 0) (HZL.out 0) (ONE.out 0) ?_)
  generalize (w2.alloc (.cells Z 29)).setRow w2.heap.size (LE 0).toArray = W3 at HW3 ⊢
  clear H9
  generalize w2.heap.size = B3 at HW3 HNE ⊢
  go_wp2_with fail
  go_loopw [14] (fun i wr => ∃ k : Nat, i = .int .i64 (k : Int) ∧ k ≤ h ∧ Has wr B3 29 (LE k).toArray ∧ Has wr B2 29 Z ∧ Below w.heap.size w wr) (fun i _ => h - (intOf i).toNat)
  case atStart => exact ⟨0, rfl, Nat.zero_le _, HW3.out⟩
  case round =>
    clear HW3
    obtain ⟨k, rfl, hk, hr3, hr2, hbel⟩ := hrel
    have HR3 := Lib.hid hr3
    have HR2 := Lib.hid hr2
    have HBE := Lib.hid hbel
    have HROW := Lib.hid (hr3.row0)
    clear hr3 hr2 hbel
    by_cases hlt : k < h
    · have HC := Lib.hid (HBR.out wr k (HT.out.below HBE.out hlow))
      have hlt' : (k : Int) < (h : Int) := by omega
      go_wp2_with (refine wpList_load_mid rfl 29 (.tmp 3) rfl B3 0 rfl (LE k) _ HROW.out Tryd.underlying29 rfl (SZL.out k) ?_)
      refine HC.out.mono ?_
      rintro _ w5 ⟨rfl, hb5⟩
      have hk5 := Kept.of_below (S := fun _ => False) hb5
      have hr5 := HR3.out.kept hk5 (fun h => h)
      have hset : Has (w5.setRow B3 (LE (k + 1)).toArray) B3 29 (LE (k + 1)).toArray := hr5.setRow
      have hks : Kept (· = B3) wr (w5.setRow B3 (LE (k + 1)).toArray) := (hk5.mono (fun _ _ h => h.elim)).trans (kept_setRow (g := B3) w5 _)
      have HFIN := Lib.hid (show Has (w5.setRow B3 (LE (k + 1)).toArray) B3 29 (LE (k + 1)).toArray ∧ Has (w5.setRow B3 (LE (k + 1)).toArray) B2 29 Z ∧ Below w.heap.size w (w5.setRow B3 (LE (k + 1)).toArray) from
        ⟨hset, HR2.out.kept hks HNE.out.1, HBE.out.trans (hks.below HBE.out.size (fun j e => by have e' : j = B3 := e; rw [e']; exact HNE.out.2))⟩)
      have HR5 := Lib.hid hr5
      have hke : (k : Int) + 1 = ((k + 1 : Nat) : Int) := by omega
      have HKE := Lib.hid hke
      clear hb5 hk5 hr5 hset hks hke
      go_wp2_with (refine wpList_store_row rfl 29 (.tmp 3) (.tmp 20) rfl B3 (LE (k + 1)).toArray rfl rfl 29 (LE k).toArray HR5.out (SZA.out (k + 1)) (HLL.out k (k + 1)) (ONE.out (k + 1)) ?_)
      go_roundw
      case rel => exact ⟨k + 1, by go_num, by omega, HFIN.out⟩
      case measure => simp [intOf]; omega
    · obtain rfl : k = h := by omega
      have hset : Has (wr.setRow B2 (LE k).toArray) B2 29 (LE k).toArray := HR2.out.setRow
      have hbf : Below w.heap.size w (wr.setRow B2 (LE k).toArray) := HBE.out.trans ((kept_setRow (g := B2) wr (LE k).toArray).below HBE.out.size (fun j e => by have e' : j = B2 := e; have := EB2.out; omega))
      have HSET := Lib.hid hset
      have HBF := Lib.hid hbf
      clear hset hbf hlt
      have hlt' : ¬ (k : Int) < (k : Int) := by omega
      go_wp2_with (first
        | (refine wpList_load_mid rfl 29 (.tmp 3) rfl B3 0 rfl (LE k) _ HROW.out Tryd.underlying29 rfl (SZL.out k) ?_)
        | (refine wpList_store_row rfl 29 (.tmp 2) (.tmp 23) rfl B2 (LE k).toArray rfl rfl 29 Z HR2.out (SZA.out k) (HZL.out k) (ONE.out k) ?_))
      refine bodyPost_ret (results_cell_row rfl _ _ B2 29 (LE k).toArray (0, 0) _ rfl HSET.out Tryd.underlying29 rfl (SZA.out k)) rfl ?_
      exact ⟨by rw [ELE.out], HBF.out⟩
end Go.Proofs.YtcpomddkehhkkaaDoor

/- The walk of the reference's Empties: what stands where nothing does, at all heights. -/
namespace Go.Proofs.YtcpomddkehhkkaaDoor
set_option linter.unusedVariables false
set_option linter.unusedSimpArgs false
open Go.ChangeShapes Go.WideShapes Go.ChangeAt Go.RowKit Go.Maps

/-- rows, one behind the other. -/
def flatE (LE : Nat → List Value) (n : Nat) : List Value := (List.range n).flatMap LE
theorem flatE_succ (LE : Nat → List Value) (n : Nat) : flatE LE (n + 1) = flatE LE n ++ LE n := by simp [flatE, List.range_succ, List.flatMap_append]
theorem flatE_len (LE : Nat → List Value) (h : ∀ k, (LE k).length = 33) (n : Nat) : (flatE LE n).length = n * 33 := by
  induction n with
  | zero => rfl
  | succ n ih => rw [flatE_succ, List.length_append, ih, h]; omega
theorem flatE_get (LE : Nat → List Value) (h : ∀ k, (LE k).length = 33) {n k j : Nat} {u : Value} (hk : k < n) (hu : (LE k)[j]? = some u) : (flatE LE n)[k * 33 + j]? = some u := by
  induction n with
  | zero => omega
  | succ n ih =>
    have hj := (List.getElem?_eq_some_iff.1 hu).1
    rw [h] at hj
    rw [flatE_succ]
    rcases Nat.lt_or_ge k n with hlt | hge
    · rw [List.getElem?_append_left (by rw [flatE_len LE h]; omega)]
      exact ih hlt
    · obtain rfl : k = n := by omega
      rw [List.getElem?_append_right (by rw [flatE_len LE h]; omega), flatE_len LE h, Nat.add_sub_cancel_left]
      exact hu
theorem info_rn : (Tryd.prog.info? 38).map (fun i => (i.zero, i.size, i.bytes)) = some (some (.agg (ncells (List.replicate 32 0) 0).toArray), 33, 40) := by kernel_rfl
/-- what the reference says of the empty parts. -/
def EmpAt (w : World) (K s0 : List Wd) (g : Nat) : Prop := g < w.heap.size ∧ ∀ h, h ≤ 256 → w.rangeAt g (h * 33) (ndV (emptyNd K s0 h))
def EmpP (w : World) (K s0 : List Wd) (e : Ending) (w' : World) : Prop := ∃ g c, e = .returned (.slice (some ⟨g, 0, none⟩) 257 c) ∧ EmpAt w' K s0 g ∧ w.heap.size ≤ g ∧ Below w.heap.size w w'
theorem at_rn (b n c k : Nat) (hk : k < n) (w : World) : (Instr.indexAt 56 (.slice (some ⟨b, 0, none⟩) n c) (.int .i64 (k : Int))).run Tryd.prog w = .ok (.pointer (some ⟨b, k * 33, none⟩)) w := by
  have hu : Tryd.prog.underlying 56 = some (.slice (Tryd.prog.elem 56)) := by kernel_rfl
  have he : Tryd.prog.elem 56 = 38 := by kernel_rfl
  have hz : ∀ w, (sizeOf 38).run Tryd.prog w = .ok 33 w := fun w => by kernel_rfl
  rw [run_indexAt_slice w 56 ⟨b, 0, none⟩ n c .i64 (k : Int) hu, if_pos ⟨by omega, by omega⟩, he, hz]
  simp only [Result.andThen, Int.toNat_natCast, Addr.add_mid, Nat.zero_add]
set_option maxRecDepth 100000 in
set_option maxHeartbeats 4000000 in
theorem refEmpties_is (K s0 : List Wd) (hK : K.length = 64) (hs0 : s0.length = 8) (w : World) :
    Calls Tryd.prog 25 #[.agg (tabsL s0 K).toArray] w (EmpP w K s0) := by
  obtain ⟨irn, hir, hir0, hir1, hir2⟩ := info_parts info_rn
  obtain ⟨LT, hLT⟩ : ∃ L, L = tabsL s0 K := ⟨_, rfl⟩
  have hlt72 := tabs_length K s0 hK hs0
  rw [← hLT] at hlt72 ⊢
  obtain ⟨LE, hLE⟩ : ∃ L, L = fun k => ndV (emptyNd K s0 k) := ⟨_, rfl⟩
  have hle : ∀ k, (LE k).length = 33 := fun k => by rw [hLE]; exact ndV_len (empty_hash K s0 hs0 k)
  have hof : ∀ x, Calls Tryd.prog 15 #[.agg LT.toArray, .slice none 0 0, .int .u64 0] x fun e w' => e = .returned (.agg (LE 0).toArray) ∧ Below x.heap.size x w' := fun x => by
    rw [hLT, hLE]; exact refOf_is K s0 hK hs0 x (.slice none 0 0) [] 0 (nil_bytes _ _) (by decide) (by decide)
  have hbr : ∀ x k, Calls Tryd.prog 21 #[.agg LT.toArray, .agg (LE k).toArray, .agg (LE k).toArray] x fun e w' => e = .returned (.agg (LE (k + 1)).toArray) ∧ Below x.heap.size x w' := fun x k => by
    have hk := empty_hash K s0 hs0 k
    have hs := empty_sum0 K s0 k
    rw [hLT, hLE]; exact refBranch_is K s0 hK hs0 x (emptyNd K s0 k).h (emptyNd K s0 k).h (emptyNd K s0 k).s (emptyNd K s0 k).s hk hk (by rw [hs]; decide)
  have HOF := Lib.hid hof
  have HBR := Lib.hid hbr
  have HLE := Lib.hid hle
  have ELE := Lib.hid hLE
  have SZT := Lib.hid (show (Tryd.prog.info? 35).map (·.size) = some LT.length by rw [hlt72]; kernel_rfl)
  have SZL := Lib.hid (show ∀ k, (Tryd.prog.info? 38).map (·.size) = some (LE k).length from fun k => by rw [hle]; kernel_rfl)
  have HONE := Lib.hid (show ∀ k, ∀ u ∈ LE k, u.oneCell' = true from fun k => by rw [hLE]; exact ncells_one _ _)
  have HZ33 := Lib.hid (show (Value.agg (ncells (List.replicate 32 0) 0).toArray).cells.size = 33 by kernel_rfl)
  have hb0 := Has.new w 35 LT.toArray
  have hbel := (Below.refl w.heap.size w).alloc (Nat.le_refl _) (.cells LT.toArray 35)
  have HB0 := Lib.hid hb0
  have HBEL := Lib.hid hbel
  have HS0 := Lib.hid hs0
  clear hlt72 hLT hle hLE hof hbr hb0 hbel hK hs0
  go_enter Tryd.func25, Tryd.ntmps25
  go_upto_region 1 with (fail)
  generalize w.alloc (.cells LT.toArray 35) = W0 at HB0 HBEL ⊢
  obtain ⟨Bt, hBt⟩ : ∃ B, B = w.heap.size := ⟨_, rfl⟩
  rw [← hBt] at HB0 ⊢
  have EBT := Lib.hid hBt
  clear hBt
  have HR0 := Lib.hid HB0.out.row0
  go_wp2_with (refine wpList_load_mid rfl 35 (.tmp 1) rfl Bt 0 rfl LT _ HR0.out Tryd.underlying35 rfl SZT.out ?_)
  refine (HOF.out _).mono ?_
  rintro _ w2 ⟨rfl, hb2⟩
  have hk2 : Kept (fun _ => False) W0 w2 := Kept.of_below hb2
  have hal := (Kept.refl (fun _ => False) w2).alloc (.cells (LE 0).toArray 38)
  have hst : Has (w2.alloc (.cells (LE 0).toArray 38)) Bt 35 LT.toArray := HB0.out.kept (hk2.trans hal) (fun h => h)
  have hown : (w2.alloc (.cells (LE 0).toArray 38)).ownsRow w.heap.size 38 33 (.slice (some ⟨w2.heap.size, 0, none⟩) 1 1) 1 (flatE LE 1) := by
    refine ⟨by rw [flatE_len LE HLE.out], .inr ⟨w2.heap.size, 1, (LE 0).toArray, rfl, ?_, heap_alloc_new w2 _, Nat.le_refl _, by decide, by rw [List.size_toArray, HLE.out], ?_⟩⟩
    · have h1 := HBEL.out.size
      have h2 := hk2.size
      omega
    · show (LE 0).take (1 * 33) = _
      rw [List.take_of_length_le (by rw [HLE.out]; decide)]
      simp [flatE]
  have hbe : Below w.heap.size w (w2.alloc (.cells (LE 0).toArray 38)) := HBEL.out.trans ((hk2.trans hal).below HBEL.out.size (fun _ h => h.elim))
  have hne : Bt ≠ w2.heap.size := by
    have h1 := HB0.out.lt
    have h2 := hk2.size
    omega
  have HST := Lib.hid hst
  have HOW := Lib.hid hown
  have HBE1 := Lib.hid hbe
  have HNE := Lib.hid hne
  clear hb2 hk2 hal hst hown hbe hne
  go_wp2_with (refine wpList_build1 rfl 56 38 (.tmp 6) rfl irn _ Tryd.underlying56 hir hir0 (LE 0) (by rw [hir1, HLE.out]) (by rw [HLE.out]; kernel_rfl) (by rw [HLE.out]; decide) (by rw [HLE.out]; decide) rfl ?_)
  go_loopw [3, 4] (fun ov iv wr => ∃ (k g oc : Nat), iv = .int .i64 (k : Int) ∧ ov = .slice (some ⟨g, 0, none⟩) (k + 1) oc ∧ k ≤ 256 ∧ wr.ownsRow w.heap.size 38 33 (.slice (some ⟨g, 0, none⟩) (k + 1) oc) (k + 1) (flatE LE (k + 1)) ∧ Has wr Bt 35 LT.toArray ∧ Bt ≠ g ∧ Below w.heap.size w wr) (fun _ iv _ => 256 - (intOf iv).toNat)
  case atStart => exact ⟨0, _, _, rfl, rfl, by decide, HOW.out, HST.out, HNE.out, HBE1.out⟩
  case round =>
    clear HOW HST HNE HBE1 HB0 HR0 HBEL HOF
    obtain ⟨k, g, oc, rfl, rfl, hk, hown, hst, hne, hbe⟩ := hrel
    have hcells : wr.rangeAt g (k * 33) (LE k) := fun j u hu => by
      have := hown.cells (g := g) rfl _ u (flatE_get LE HLE.out (Nat.lt_succ_self k) hu)
      rwa [Addr.add_mid, Nat.zero_add] at this
    have HOW := Lib.hid hown
    have HST := Lib.hid hst
    have HBE := Lib.hid hbe
    have HCE := Lib.hid hcells
    have HNE := Lib.hid hne
    clear hown hst hbe hcells
    by_cases hlt : k < 256
    · have HKS := Lib.hid (show ∀ v, Kept (fun _ => False) wr v → v.rangeAt Bt 0 LT ∧ v.rangeAt g (k * 33) (LE k) from fun v hk => ⟨(HST.out.kept hk (fun h => h)).row0, rangeAt_kept HCE.out hk (fun h => h)⟩)
      have HOWN := Lib.hid (show ∀ v, Kept (fun _ => False) wr v → v.ownsRow w.heap.size 38 33 (.slice (some ⟨g, 0, none⟩) (k + 1) oc) (k + 1) (flatE LE (k + 1)) from fun v hk => own_kept HOW.out hk (fun _ _ h => h))
      have HTB := Lib.hid (show ∀ (v x : World), v.grownBy x (Value.slice (some ⟨g, 0, none⟩) (k + 1) oc).ownBlock → Has v Bt 35 LT.toArray → Has x Bt 35 LT.toArray from fun v x hg hr => (hg.block Bt hr.lt (by simpa [Value.ownBlock] using HNE.out)).trans hr)
      have hKept0 : Kept (fun _ => False) wr wr.drew := (Kept.refl _ _).drew
      have HML := Lib.hid (show k + 1 + 1 ≤ maxLen by unfold maxLen; omega)
      have HBY := Lib.hid (show (k + 1 + 1) * 40 ≤ 140737488355328 by omega)
      have hat := at_rn g (k + 1) oc k (Nat.lt_succ_self k)
      have hlt' : (k : Int) < 256 := by omega
      have hS0 := HKS.out wr (Kept.refl _ _)
      have HK2 := Lib.hid (show k + 1 ≤ 256 ∧ 256 - (k + 1) < 256 - k by omega)
      have HWK := Lib.hid (wrap64_succ k (by omega))
      have HLT := Lib.hid hlt
      clear hlt hk hne
      go_upto_region 5 with (fail)
      refine wp_region_noPanic ?_
      refine wp_region_held_drew (S := (fun v => v.rangeAt Bt 0 LT ∧ v.rangeAt g (k * 33) (LE k))) (by kernel_rfl) hS0 (fun hH0 => ?_)
      refine wpAnyH_take (i := 0) (v := ((.slice (some ⟨g, 0, none⟩) (k + 1) oc))) rfl (by kernel_rfl) (by kernel_rfl) (by kernel_rfl) (fun _ _ _ h => h) (Or.inl ⟨by kernel_rfl, by intro w' hS; obtain ⟨z0, z1⟩ := hS; go_simp⟩) hH0 ?_
      simp only [Act.put, List.getElem_toArray, List.getElem_cons_zero, List.getElem_cons_succ, List.setIfInBounds_toArray, List.set_cons_zero, List.set_cons_succ]
      refine wpAnyH_take (i := 1) (v := (.agg LT.toArray)) rfl (by kernel_rfl) (by kernel_rfl) (by kernel_rfl) (fun _ _ _ h => h) (yieldsIf_load_mid (by kernel_rfl) 35 (.tmp 1) rfl Bt 0 rfl LT _ (fun w' h => h.1) Tryd.underlying35 rfl SZT.out) hH0 ?_
      simp only [Act.put, List.getElem_toArray, List.getElem_cons_zero, List.getElem_cons_succ, List.setIfInBounds_toArray, List.set_cons_zero, List.set_cons_succ]
      refine wpAnyH_take (i := 2) (v := ((.slice (some ⟨g, 0, none⟩) (k + 1) oc))) rfl (by kernel_rfl) (by kernel_rfl) (by kernel_rfl) (fun _ _ _ h => h) (Or.inl ⟨by kernel_rfl, by intro w' hS; obtain ⟨z0, z1⟩ := hS; go_simp⟩) hH0 ?_
      simp only [Act.put, List.getElem_toArray, List.getElem_cons_zero, List.getElem_cons_succ, List.setIfInBounds_toArray, List.set_cons_zero, List.set_cons_succ]
      refine wpAnyH_take (i := 3) (v := ((.int .i64 (k : Int)))) rfl (by kernel_rfl) (by kernel_rfl) (by kernel_rfl) (fun _ _ _ h => h) (Or.inl ⟨by kernel_rfl, by intro w' hS; obtain ⟨z0, z1⟩ := hS; go_simp⟩) hH0 ?_
      simp only [Act.put, List.getElem_toArray, List.getElem_cons_zero, List.getElem_cons_succ, List.setIfInBounds_toArray, List.set_cons_zero, List.set_cons_succ]
      refine wpAnyH_take (i := 4) (v := ((.pointer (some ⟨g, k * 33, none⟩)))) rfl (by kernel_rfl) (by kernel_rfl) (by kernel_rfl) (fun _ _ _ h => h) (Or.inl ⟨by kernel_rfl, by intro w' hS; obtain ⟨z0, z1⟩ := hS; go_simp⟩) hH0 ?_
      simp only [Act.put, List.getElem_toArray, List.getElem_cons_zero, List.getElem_cons_succ, List.setIfInBounds_toArray, List.set_cons_zero, List.set_cons_succ]
      refine wpAnyH_take (i := 5) (v := (.agg (LE k).toArray)) rfl (by kernel_rfl) (by kernel_rfl) (by kernel_rfl) (fun _ _ _ h => h) (yieldsIf_load_mid (by kernel_rfl) 38 (.tmp 16) rfl g (k * 33) rfl (LE k) _ (fun w' h => h.2) Tryd.underlying38 rfl (SZL.out k)) hH0 ?_
      simp only [Act.put, List.getElem_toArray, List.getElem_cons_zero, List.getElem_cons_succ, List.setIfInBounds_toArray, List.set_cons_zero, List.set_cons_succ]
      refine wpAnyH_take (i := 6) (v := ((.slice (some ⟨g, 0, none⟩) (k + 1) oc))) rfl (by kernel_rfl) (by kernel_rfl) (by kernel_rfl) (fun _ _ _ h => h) (Or.inl ⟨by kernel_rfl, by intro w' hS; obtain ⟨z0, z1⟩ := hS; go_simp⟩) hH0 ?_
      simp only [Act.put, List.getElem_toArray, List.getElem_cons_zero, List.getElem_cons_succ, List.setIfInBounds_toArray, List.set_cons_zero, List.set_cons_succ]
      refine wpAnyH_take (i := 7) (v := ((.int .i64 (k : Int)))) rfl (by kernel_rfl) (by kernel_rfl) (by kernel_rfl) (fun _ _ _ h => h) (Or.inl ⟨by kernel_rfl, by intro w' hS; obtain ⟨z0, z1⟩ := hS; go_simp⟩) hH0 ?_
      simp only [Act.put, List.getElem_toArray, List.getElem_cons_zero, List.getElem_cons_succ, List.setIfInBounds_toArray, List.set_cons_zero, List.set_cons_succ]
      refine wpAnyH_take (i := 8) (v := ((.pointer (some ⟨g, k * 33, none⟩)))) rfl (by kernel_rfl) (by kernel_rfl) (by kernel_rfl) (fun _ _ _ h => h) (Or.inl ⟨by kernel_rfl, by intro w' hS; obtain ⟨z0, z1⟩ := hS; go_simp⟩) hH0 ?_
      simp only [Act.put, List.getElem_toArray, List.getElem_cons_zero, List.getElem_cons_succ, List.setIfInBounds_toArray, List.set_cons_zero, List.set_cons_succ]
      refine wpAnyH_take (i := 9) (v := (.agg (LE k).toArray)) rfl (by kernel_rfl) (by kernel_rfl) (by kernel_rfl) (fun _ _ _ h => h) (yieldsIf_load_mid (by kernel_rfl) 38 (.tmp 20) rfl g (k * 33) rfl (LE k) _ (fun w' h => h.2) Tryd.underlying38 rfl (SZL.out k)) hH0 ?_
      simp only [Act.put, List.getElem_toArray, List.getElem_cons_zero, List.getElem_cons_succ, List.setIfInBounds_toArray, List.set_cons_zero, List.set_cons_succ]
      refine wpAnyH_ready (rs := [10]) (by kernel_rfl) (by simp) ?_
      refine AllReadyH.cons rfl (fun K hK => ?_) AllReadyH.nil
      go_simp
      refine (HBR.out _ k).mono ?_
      rintro _ x1 ⟨rfl, hc1⟩
      have hk1 : Kept (fun _ => False) wr x1 := hKept0.trans (Kept.of_below hc1)
      have hs1 := HKS.out _ hk1
      have hal : Kept (fun _ => False) x1 (x1.alloc (.cells (LE (k + 1)).toArray 38)) := (Kept.refl _ _).alloc _
      have hk2 := hk1.trans hal
      have hs2 := HKS.out _ hk2
      have HST2 := Lib.hid (HST.out.kept hk2 (fun h => h))
      have hown2 := HOWN.out _ hk2
      have HOWN2 := Lib.hid hown2
      have HN1 := Lib.hid (World.news_of_block (w := x1.alloc (.cells (LE (k + 1)).toArray 38)) (cs := (LE (k + 1)).toArray) (t := 38) (fr := (0, 0)) (heap_alloc_new x1 _))
      have HBS2 := Lib.hid (show w.heap.size ≤ (x1.alloc (.cells (LE (k + 1)).toArray 38)).heap.size from (HBE.out.trans (hk2.below HBE.out.size (fun _ h => h.elim))).size)
      have HBE2 := Lib.hid (HBE.out.trans (hk2.below HBE.out.size (fun _ h => h.elim)))
      clear hc1 hk1 hal hown2 hk2
      refine Shut.out hK _ _ hs1 (fun hH1 => ?_)
      clear hK K
      try simp only [Act.put, List.getElem_toArray, List.getElem_cons_zero, List.getElem_cons_succ, List.setIfInBounds_toArray, List.set_cons_zero, List.set_cons_succ]
      refine wpAnyH_ready (rs := [11]) (by kernel_rfl) (by simp) ?_
      refine AllReadyH.cons rfl (fun K hK => ?_) AllReadyH.nil
      refine step_build1 (by rfl) 56 38 (.tmp 22) (by rfl) irn _ Tryd.underlying56 hir hir0 (LE (k + 1)) (by rw [hir1, HLE.out]) (by rw [HLE.out]; kernel_rfl) (by rw [HLE.out]; decide) (by rw [HLE.out]; decide) (by rfl) ?_
      refine Shut.out hK _ _ hs2 (fun hH2 => ?_)
      clear hK K
      try simp only [Act.put, List.getElem_toArray, List.getElem_cons_zero, List.getElem_cons_succ, List.setIfInBounds_toArray, List.set_cons_zero, List.set_cons_succ]
      refine wpAnyH_ready (rs := [12]) (by kernel_rfl) (by simp) ?_
      refine AllReadyH.cons rfl (fun K hK => ?_) AllReadyH.nil
      refine step_append_stays (by rfl) _ _ 56 (by rfl) w.heap.size 38 irn _ 33 40 Tryd.underlying56 hir hir0 hir1 hir2 HZ33.out (by decide) (.slice (some ⟨g, 0, none⟩) (k + 1) oc) (k + 1) (flatE LE (k + 1)) (by rfl) HOWN2.out ⟨x1.heap.size, 0, none⟩ 1 1 (LE (k + 1)) (by rfl) (by rw [HLE.out]) HN1.out (HONE.out (k + 1)) (by decide) HML.out HBY.out HBS2.out _ rfl ?_
      intro g6 cap6 w6 hown6 hgr6 hat6 hlt6 hsy6
      have hbe6 : Below w.heap.size w w6 := HBE2.out.grown hgr6 HBS2.out (own_blk HOWN2.out)
      have hst6 := HTB.out _ _ hgr6 HST2.out
      have HNE6 := Lib.hid (show Bt ≠ g6 from by rcases hat6 with h | h; (have e : g = g6 := by simpa [Value.ownBlock] using h); (rw [← e]; exact HNE.out); (have := HST2.out.lt; omega))
      have HST6 := Lib.hid hst6
      have hs6 : w6.rangeAt Bt 0 LT ∧ w6.rangeAt g (k * 33) (LE k) := ⟨hst6.row0, fun j u hu => hsy6 g rfl _ u (flatE_get LE HLE.out (Nat.lt_succ_self k) hu)⟩
      have HBE6 := Lib.hid hbe6
      have HOWN6 := Lib.hid hown6
      clear hgr6 hat6 hlt6 hsy6 hst6 hbe6 hown6
      refine Shut.out hK _ _ hs6 (fun hH3 => ?_)
      clear hK K
      try simp only [Act.put, List.getElem_toArray, List.getElem_cons_zero, List.getElem_cons_succ, List.setIfInBounds_toArray, List.set_cons_zero, List.set_cons_succ]
      refine wpAnyH_take (i := 13) (v := ((.slice (some ⟨g6, 0, none⟩) (k + 1 + 1) cap6))) rfl (by kernel_rfl) (by kernel_rfl) (by kernel_rfl) (fun _ _ _ h => h) (Or.inl ⟨by kernel_rfl, by intro w' hS; obtain ⟨z0, z1⟩ := hS; go_simp⟩) hH3 ?_
      simp only [Act.put, List.getElem_toArray, List.getElem_cons_zero, List.getElem_cons_succ, List.setIfInBounds_toArray, List.set_cons_zero, List.set_cons_succ]
      refine wpAnyH_done (by kernel_rfl) ?_ _
      refine NoPanic.normal ?_
      clear hS0 hH0 hH1 hH2 hH3 hs1 hs2 hs6 hat hKept0
      go_wp2
      go_roundw
      case rel => exact ⟨k + 1, g6, cap6, by first | exact congrArg (Value.int .i64) HWK.out | rfl, rfl, HK2.out.1, by rw [flatE_succ]; exact HOWN6.out, HST6.out, HNE6.out, HBE6.out⟩
      case measure =>
        first | exact HK2.out.2 | (show 256 - (intOf (Value.int .i64 (wrap64 ((k : Int) + 1)))).toNat < _; rw [HWK.out]; exact HK2.out.2)
    · obtain rfl : k = 256 := by omega
      have hno : ¬ ((256 : Nat) : Int) < 256 := by omega
      have HFIN := Lib.hid (show EmpAt wr K s0 g from ⟨by
        have := World.block_lt_of_cell? wr _ (HCE.out 32 _ (by rw [ELE.out]; exact (nd_row _ _ (empty_hash K s0 HS0.out 256).1).2))
        exact this, fun h hh j u hu => by
        have := HOW.out.cells (g := g) rfl _ u (flatE_get LE HLE.out (show h < 256 + 1 by omega) (by rw [ELE.out]; exact hu))
        rwa [Addr.add_mid, Nat.zero_add] at this⟩)
      have HGE := Lib.hid (own_blk HOW.out g rfl)
      go_wp2
      go_ret
      exact ⟨g, oc, rfl, HFIN.out, HGE.out, HBE.out⟩
end Go.Proofs.YtcpomddkehhkkaaDoor
