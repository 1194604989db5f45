/- The walk of the reference's Beside. -/
import Derived.Test.YtcpomddkehhkkaaDoorPart2
import Derived.Test.YtcpomddkehhkkaaDoorClimb2
import Derived.Test.YtcpomddkehhkkaaDoorSome4
namespace Go.Proofs.YtcpomddkehhkkaaDoor
set_option linter.unusedVariables false
set_option linter.unusedSimpArgs false
open Go.ChangeShapes Go.WideShapes Go.ChangeAt Go.RowKit Go.Maps

theorem rpart_is (K s0 : List Wd) (hK : K.length = 64) (hs0 : s0.length = 8) (ge ce : Nat) : ∀ (h : Nat), h ≤ 256 → ∀ (w : World) (A : Option Addr) (n c : Nat) (xs : List Sel), SelsAt w A n xs → n ≤ 1000 → EmpAt w K s0 ge → sumS xs < 18446744073709551616 → PartC K s0 ge ce h w A n c xs := by
  intro h
  induction h with
  | zero =>
    intro hh w A n c xs hx hn he hs
    cases xs with
    | nil =>
      obtain rfl : n = 0 := by have := hx.len; simpa using this.symm
      exact rpart_none K s0 hK hs0 ge ce 0 hh w A c he
    | cons x xs => exact rpart_leaf K s0 hK hs0 ge ce w A n c x xs hx
  | succ h ih =>
    intro hh w A n c xs hx hn he hs
    rcases Nat.eq_zero_or_pos n with h0 | h0
    · subst h0
      obtain rfl : xs = [] := List.eq_nil_of_length_eq_zero hx.len
      exact rpart_none K s0 hK hs0 ge ce (h + 1) hh w A c he
    · exact rpart_step K s0 hK hs0 ge ce h hh (ih (by omega)) w A n c xs hx hn he hs h0
/-- the bits from one height on, up to another, are alike. -/
def alike (k key : List Nat) (h : Nat) : Nat → Bool
  | 0 => true
  | j + 1 => alike k key h j && (decide (j < h + 1) || decide (bitAt k j = bitAt key j))
/-- does a leaf stand beside a key's way at a height? -/
def besB (k key : List Nat) (h : Nat) : Bool := !(((bitAt k h : Nat) : Int) == ((bitAt key h : Nat) : Int)) && alike k key h 256
def besS (xs : List Sel) (key : List Nat) (h : Nat) : List Sel := xs.filter fun x => besB x.key key h
theorem besS_snoc (xs : List Sel) (k : Nat) (x : Sel) (hx : xs[k]? = some x) (key : List Nat) (h : Nat) : besS (xs.take (k + 1)) key h = if besB x.key key h = true then besS (xs.take k) key h ++ [x] else besS (xs.take k) key h := by
  unfold besS
  rw [List.take_add_one, hx, Option.toList_some, List.filter_append, List.filter_cons, List.filter_nil]
  split
  · rfl
  · rw [List.append_nil]
theorem besS_len (xs : List Sel) (key : List Nat) (h : Nat) : (besS xs key h).length ≤ xs.length := List.length_filter_le _ _
theorem besS_mem {xs : List Sel} {key : List Nat} {h : Nat} {x : Sel} (hx : x ∈ besS xs key h) : x ∈ xs := (List.mem_filter.1 hx).1
theorem besS_sum (xs : List Sel) (key : List Nat) (h : Nat) : sumS (besS xs key h) ≤ sumS xs := by
  induction xs with
  | nil => exact Nat.le_refl _
  | cons x xs ih =>
    unfold besS sumS at ih ⊢
    rw [List.filter_cons]
    split
    · simp only [List.map_cons, List.sum_cons]; omega
    · simp only [List.map_cons, List.sum_cons]; omega
theorem alike_low (k key : List Nat) (h : Nat) : ∀ j, j ≤ h + 1 → alike k key h j = true
  | 0, _ => rfl
  | j + 1, hj => by
    show (alike k key h j && (decide (j < h + 1) || decide (bitAt k j = bitAt key j))) = true
    rw [alike_low k key h j (by omega), decide_eq_true (show j < h + 1 by omega)]; rfl
theorem alike_next (k key : List Nat) (h j : Nat) (hj : h + 1 ≤ j) : alike k key h (j + 1) = (alike k key h j && ((bitAt k j : Nat) : Int) == ((bitAt key j : Nat) : Int)) := by
  show (alike k key h j && (decide (j < h + 1) || decide (bitAt k j = bitAt key j))) = _
  rw [decide_eq_false (show ¬ j < h + 1 by omega), Bool.false_or]
  congr 1
  by_cases e : bitAt k j = bitAt key j
  · rw [decide_eq_true e, e]; simp
  · rw [decide_eq_false e]; simp; omega
/-- what Beside has gathered. -/
def BInv (xs : List Sel) (key : List Nat) (h B5 B8 B10 B11 : Nat) (LT LC : List Value) (Z : Array Value) (w wr : World) (k : Nat) (ov : Value) : Prop :=
  wr.ownsRow B11 63 34 ov (besS (xs.take k) key h).length ((besS (xs.take k) key h).flatMap Sel.cells) ∧ Has wr B5 35 LT.toArray ∧ Has wr B8 26 LC.toArray ∧ Has wr B10 38 Z ∧ Below w.heap.size w wr ∧ B11 ≤ wr.heap.size
theorem BInv.kept {xs : List Sel} {key : List Nat} {h B5 B8 B10 B11 : Nat} {LT LC : List Value} {Z : Array Value} {w wr v : World} {k : Nat} {ov : Value} (hp : BInv xs key h B5 B8 B10 B11 LT LC Z w wr k ov) (hk : Kept (fun _ => False) wr v) : BInv xs key h B5 B8 B10 B11 LT LC Z w v k ov := by
  obtain ⟨h1, h2, h3, h4, h5, h6⟩ := hp
  exact ⟨own_kept h1 hk (fun _ _ h => h), h2.kept hk (fun h => h), h3.kept hk (fun h => h), h4.kept hk (fun h => h), h5.trans (hk.below h5.size (fun _ h => h.elim)), Nat.le_trans h6 hk.size⟩
set_option maxRecDepth 100000 in
set_option maxHeartbeats 8000000 in
theorem rbes_is (K s0 : List Wd) (hK : K.length = 64) (hs0 : s0.length = 8) (ge ce h : Nat) (hh : h < 256) (key : List Nat) (hkey : IsHash key)
    (w : World) (A : Option Addr) (n c : Nat) (xs : List Sel) (hx : SelsAt w A n xs) (hn : n ≤ 1000) (he : EmpAt w K s0 ge) (hsum : sumS xs < 18446744073709551616) :
    Calls Tryd.prog 31 #[.agg (tabsL s0 K).toArray, .slice (some ⟨ge, 0, none⟩) 257 ce, .slice A n c, arr key, .int .i64 (h : Int)] w fun e w' => e = .returned (.agg (ndV (partNd K s0 h ((besS xs key h).map Sel.leaf))).toArray) ∧ Below w.heap.size w w' := by
  obtain ⟨Z, hz, hZs, hZn, -⟩ := rn_zero
  obtain ⟨ZL, hzl, hZLs, hZLn⟩ := zero_sel
  obtain ⟨isl, hil, hil0, hil1, hil2⟩ := info_parts info_leafR
  obtain ⟨LT, hLT⟩ : ∃ L, L = tabsL s0 K := ⟨_, rfl⟩
  obtain ⟨LC, hLC⟩ : ∃ L, L = bcells key := ⟨_, rfl⟩
  obtain ⟨LN, hLN⟩ : ∃ L, L = ndV (partNd K s0 h ((besS xs key h).map Sel.leaf)) := ⟨_, rfl⟩
  have ln : LN.length = 33 := by rw [hLN]; exact ndV_len (part_hash K s0 hs0 _ _)
  have lc : LC.length = 32 := by rw [hLC, bcells_length, hkey.1]
  have ec : arr key = .agg LC.toArray := by rw [hLC]; rfl
  rw [← hLN, ← hLT, ec]
  have s1 : ∀ (x : World) o, (x.alloc o).heap.size = x.heap.size + 1 := fun x o => by simp
  have b0 := ((Has.new w 35 LT.toArray).alloc (.cells LC.toArray 26)).alloc (.cells Z 38)
  have b1 := (Has.new (w.alloc (.cells LT.toArray 35)) 26 LC.toArray).alloc (.cells Z 38)
  have b2 := Has.new ((w.alloc (.cells LT.toArray 35)).alloc (.cells LC.toArray 26)) 38 Z
  rw [s1] at b1
  rw [s1, s1] at b2
  have hbel := (((Below.refl w.heap.size w).alloc (Nat.le_refl _) (.cells LT.toArray 35)).alloc (by rw [s1]; omega) (.cells LC.toArray 26)).alloc (by rw [s1, s1]; omega) (.cells Z 38)
  have hsz : (((w.alloc (.cells LT.toArray 35)).alloc (.cells LC.toArray 26)).alloc (.cells Z 38)).heap.size = w.heap.size + 3 := by rw [s1, s1, s1]
  have HX := Lib.hid hx
  have HE := Lib.hid he
  have HB5 := Lib.hid b0
  have HB8 := Lib.hid b1
  have HB10 := Lib.hid b2
  have HBEL := Lib.hid hbel
  have HSZ := Lib.hid hsz
  have EZ := Lib.hid hZs
  have EZL := Lib.hid hZLs
  have HLNL := Lib.hid ln
  have ELN := Lib.hid hLN
  have ELT := Lib.hid hLT
  have HL := Lib.hid (And.intro hK hs0)
  have HSUM := Lib.hid hsum
  have HN := Lib.hid hn
  have HH := Lib.hid hh
  have HBC := Lib.hid (show ∀ (j : Nat), j < 256 → ∀ y, Calls Tryd.prog 49 #[.agg LC.toArray, .int .i64 (j : Int)] y fun e w' => e = .returned (.int .i64 ((bitAt key j : Nat) : Int)) ∧ Below y.heap.size y w' from fun j hj y => by
    rw [hLC]
    exact (refBit_in key (j : Int) y hkey (by omega) (by omega)).mono fun e w' ⟨h1, h2⟩ => ⟨by rw [h1, Int.toNat_natCast], by rw [h2]; exact (Below.refl _ _).alloc (Nat.le_refl _) _⟩)
  have SZT := Lib.hid (show (Tryd.prog.info? 35).map (·.size) = some LT.length by rw [hLT, tabs_length K s0 hK hs0]; kernel_rfl)
  have SZN := Lib.hid (show (Tryd.prog.info? 38).map (·.size) = some LN.toArray.size by rw [List.size_toArray, ln]; kernel_rfl)
  have SZC := Lib.hid (show (Tryd.prog.info? 26).map (·.size) = some LC.length by rw [lc]; kernel_rfl)
  have ONEN := Lib.hid (show LN.toArray.all (·.oneCell') = true by rw [hLN]; exact ndV_one _)
  have HZN := Lib.hid (show Z.size = LN.toArray.size by rw [hZs, List.size_toArray, ln])
  have HZ34 := Lib.hid (show (Value.agg (Sel.cells ⟨List.replicate 32 0, none, 0, [], 0, z32k⟩).toArray).cells.size = 34 by kernel_rfl)
  have hhi : (h : Int) < 256 := by omega
  have hnn : (n : Int) ≤ 1000 := by omega
  clear b0 b1 b2 hbel hsz ln lc ec s1 hLN hLT hLC hZs hZLs hx he hK hs0 hsum hn hh hkey
  go_enter Tryd.func31, Tryd.ntmps31
  go_upto_region 1 with (fail)
  generalize ((w.alloc (.cells LT.toArray 35)).alloc (.cells LC.toArray 26)).alloc (.cells Z 38) = W0 at HB5 HB8 HB10 HBEL HSZ ⊢
  obtain ⟨B5, hB5⟩ : ∃ B, B = w.heap.size := ⟨_, rfl⟩
  obtain ⟨B8, hB8⟩ : ∃ B, B = w.heap.size + 1 := ⟨_, rfl⟩
  obtain ⟨B10, hB10⟩ : ∃ B, B = w.heap.size + 1 + 1 := ⟨_, rfl⟩
  rw [← hB10] at HB10
  rw [← hB8] at HB8
  rw [← hB5] at HB5
  rw [← hB5]
  try rw [show B5 + 1 + 1 = B10 by omega]
  try rw [show B5 + 2 = B10 by omega]
  rw [show B5 + 1 = B8 by omega]
  have EB := Lib.hid (And.intro hB5 (And.intro hB8 hB10))
  clear hB5 hB8 hB10
  obtain ⟨B11, hB11⟩ : ∃ B, B = W0.heap.size := ⟨_, rfl⟩
  have hal : Kept (fun _ => False) W0 (W0.alloc (.cells #[] 63)) := (Kept.refl _ _).alloc _
  have hst : BInv xs key h B5 B8 B10 B11 LT LC Z w (W0.alloc (.cells #[] 63)) 0 (.slice (some ⟨W0.heap.size, 0, none⟩) 0 0) :=
    ⟨by rw [hB11]; exact World.ownsRow_made W0 #[] 0 (Nat.le_refl _) (by decide) rfl, HB5.out.kept hal (fun h => h), HB8.out.kept hal (fun h => h), HB10.out.kept hal (fun h => h), HBEL.out.trans (hal.below HBEL.out.size (fun _ h => h.elim)), by rw [hB11]; exact hal.size⟩
  have HST := Lib.hid hst
  have EB11 := Lib.hid (show B11 = w.heap.size + 3 by rw [hB11, HSZ.out])
  clear hal hst HB5 HB8 HB10
  go_wp2_with fail
  go_loopw [11, 19] (fun ov i wr => ∃ k : Nat, i = .int .i64 (k : Int) ∧ k ≤ n ∧ BInv xs key h B5 B8 B10 B11 LT LC Z w wr k ov) (fun _ i _ => n - (intOf i).toNat)
  case atStart => exact ⟨0, rfl, Nat.zero_le _, HST.out⟩
  case round =>
    clear HST hB11
    obtain ⟨k, rfl, hk, hinv⟩ := hrel
    have HI := Lib.hid hinv
    obtain ⟨oa, oc, rfl⟩ := own_form hinv.1
    obtain ⟨q, hq⟩ : ∃ q, q = (besS (xs.take k) key h).length := ⟨_, rfl⟩
    rw [← hq] at HI
    have EQ := Lib.hid hq
    change Hid (BInv xs key h B5 B8 B10 B11 LT LC Z w wr k (.slice oa q oc)) at HI
    clear hinv
    rw [← hq]
    by_cases hlt : k < n
    · obtain ⟨x, hx⟩ : ∃ x, xs[k]? = some x := ⟨_, List.getElem?_eq_getElem (by rw [HX.out.len]; exact hlt)⟩
      obtain ⟨sb, so, hA, hsb, hrow⟩ := HX.out.at_ (by omega)
      subst hA
      have hbel := HI.out.2.2.2.2.1
      have hrw := rangeAt_kept (hrow k x hx) (Kept.of_below (S := fun _ => False) hbel) (fun h => h)
      obtain ⟨LX, hLX⟩ : ∃ L, L = x.cells := ⟨_, rfl⟩
      obtain ⟨LK, hLK⟩ : ∃ L, L = bcells x.key := ⟨_, rfl⟩
      have lx : LX.length = 34 := by rw [hLX]; exact Sel.len' x
      have lk : LK.length = 32 := by rw [hLK, bcells_length, x.h.1]
      rw [← hLX] at hrw
      have HBX := Lib.hid (show ∀ (j : Nat), j < 256 → ∀ y, Calls Tryd.prog 49 #[.agg LK.toArray, .int .i64 (j : Int)] y fun e w' => e = .returned (.int .i64 ((bitAt x.key j : Nat) : Int)) ∧ Below y.heap.size y w' from fun j hj y => by
        rw [hLK]
        exact (refBit_in x.key (j : Int) y x.h (by omega) (by omega)).mono fun e w' ⟨h1, h2⟩ => ⟨by rw [h1, Int.toNat_natCast], by rw [h2]; exact (Below.refl _ _).alloc (Nat.le_refl _) _⟩)
      have HRW := Lib.hid hrw
      have HXK := Lib.hid hx
      have HLX := Lib.hid lx
      have ELX := Lib.hid hLX
      have ELK := Lib.hid hLK
      have SZX := Lib.hid (show (Tryd.prog.info? 63).map (·.size) = some LX.length by rw [lx]; kernel_rfl)
      have SZXA := Lib.hid (show (Tryd.prog.info? 63).map (·.size) = some LX.toArray.size by rw [List.size_toArray]; exact SZX.out)
      have SZK := Lib.hid (show (Tryd.prog.info? 26).map (·.size) = some LK.length by rw [lk]; kernel_rfl)
      have HONEX := Lib.hid (show ∀ u ∈ LX, u.oneCell' = true by rw [hLX]; exact Sel.one x)
      have ONEXA := Lib.hid (show LX.toArray.all (·.oneCell') = true from all_oneCell_toArray HONEX.out)
      have HZX := Lib.hid (show ZL.size = LX.toArray.size by rw [EZL.out, List.size_toArray, lx])
      have h9 := Has.new wr 63 ZL
      have hw9 : Has ((wr.alloc (.cells ZL 63)).setRow wr.heap.size LX.toArray) wr.heap.size 63 LX.toArray ∧ Kept (fun _ => False) wr ((wr.alloc (.cells ZL 63)).setRow wr.heap.size LX.toArray) := by
        rw [World.setRow_alloc_new]
        exact ⟨Has.new _ _ _, (Kept.refl _ _).alloc _⟩
      have H9 := Lib.hid h9
      have HW9 := Lib.hid hw9
      have HK2 := Lib.hid (show k + 1 ≤ n ∧ n - (k + 1) < n - k by omega)
      have HWK := Lib.hid (wrap64_succ k (by have := HN.out; omega))
      have hlt' : (k : Int) < (n : Int) := by omega
      have hat := at_sel sb so n c k hlt
      clear hbel hrw hx hLX hLK lx lk h9 hw9 hlt hk hrow hsb hq
      go_upto_region 5 with (first
        | (refine wpList_load_mid rfl 63 (.tmp 21) rfl sb (so + k * 34) rfl LX _ HRW.out Tryd.underlying63 rfl SZX.out ?_)
        | (refine wpList_store_row rfl 63 (.tmp 13) (.tmp 22) rfl wr.heap.size LX.toArray rfl rfl 63 ZL H9.out SZXA.out HZX.out ONEXA.out ?_))
      have hiv := HI.out.kept HW9.out.2
      obtain ⟨Bx, hBx⟩ : ∃ B, B = wr.heap.size := ⟨_, rfl⟩
      rw [← hBx] at HW9 hiv ⊢
      generalize (wr.alloc (.cells ZL 63)).setRow Bx LX.toArray = W5 at HW9 hiv ⊢
      have EBX := Lib.hid hBx
      have HIV := Lib.hid hiv
      have HKX := Lib.hid (show W5.rangeAt Bx 0 LK from fun j u hu => by
        rw [Nat.zero_add]
        refine HW9.out.1.cell_is ?_
        rw [List.getElem?_toArray, ELX.out, Sel.cells, List.getElem?_append_left (by rw [← ELK.out]; exact (List.getElem?_eq_some_iff.1 hu).1), ← ELK.out]
        exact hu)
      have HOBX := Lib.hid (show ∀ j, (Value.slice oa q oc).ownBlock = some j → j ≠ Bx from fun j e => by
        rcases HI.out.1.2 with ⟨e4, _⟩ | ⟨gs, cap, cur, e4, g1, g2, _⟩
        · rw [e4] at e; simp [Value.ownBlock] at e
        · rw [e4] at e
          obtain rfl : gs = j := by simpa [Value.ownBlock] using e
          have := (Array.getElem?_eq_some_iff.1 g2).1
          omega)
      clear hBx H9 HRW hiv hat HI
      have HKS := Lib.hid (show ∀ v, Kept (fun _ => False) W5 v → v.rangeAt Bx 0 LK ∧ v.rangeAt B8 0 LC from fun v hk => ⟨rangeAt_kept HKX.out hk (fun h => h), (HIV.out.kept hk).2.2.1.row0⟩)
      have hKept0 : Kept (fun _ => False) W5 W5.drew := (Kept.refl _ _).drew
      have hS0 := HKS.out W5 (Kept.refl _ _)
      obtain ⟨b1, hb1⟩ : ∃ b, b = bitAt x.key h := ⟨_, rfl⟩
      obtain ⟨b2, hb2⟩ : ∃ b, b = bitAt key h := ⟨_, rfl⟩
      have HBXh := Lib.hid (HBX.out h HH.out)
      have HBCh := Lib.hid (HBC.out h HH.out)
      rw [← hb1] at HBXh
      rw [← hb2] at HBCh
      have HB1E := Lib.hid hb1
      have HB2E := Lib.hid hb2
      clear hb1 hb2
      refine wp_region_noPanic ?_
      refine wp_region_held_drew (S := (fun v => v.rangeAt Bx 0 LK ∧ v.rangeAt B8 0 LC)) (by kernel_rfl) hS0 (fun hH0 => ?_)
      refine wpAnyH_take (i := 0) (v := ((.pointer (some ⟨Bx, 0, none⟩)))) rfl (by kernel_rfl) (by kernel_rfl) (by kernel_rfl) (fun _ _ _ h => h) (Or.inl ⟨by kernel_rfl, by intro w' hS; obtain ⟨z0, z1⟩ := hS; go_simp⟩) hH0 ?_
      simp only [Act.put, List.getElem_toArray, List.getElem_cons_zero, List.getElem_cons_succ, List.setIfInBounds_toArray, List.set_cons_zero, List.set_cons_succ]
      refine wpAnyH_take (i := 1) (v := (.agg LK.toArray)) rfl (by kernel_rfl) (by kernel_rfl) (by kernel_rfl) (fun _ _ _ h => h) (yieldsIf_load_mid (by kernel_rfl) 26 (.tmp 23) rfl Bx 0 rfl LK _ (fun w' h => h.1) Tryd.underlying26 rfl SZK.out) hH0 ?_
      simp only [Act.put, List.getElem_toArray, List.getElem_cons_zero, List.getElem_cons_succ, List.setIfInBounds_toArray, List.set_cons_zero, List.set_cons_succ]
      refine wpAnyH_take (i := 2) (v := ((.int .i64 (h : Int)))) rfl (by kernel_rfl) (by kernel_rfl) (by kernel_rfl) (fun _ _ _ h => h) (Or.inl ⟨by kernel_rfl, by intro w' hS; obtain ⟨z0, z1⟩ := hS; go_simp⟩) hH0 ?_
      simp only [Act.put, List.getElem_toArray, List.getElem_cons_zero, List.getElem_cons_succ, List.setIfInBounds_toArray, List.set_cons_zero, List.set_cons_succ]
      refine wpAnyH_take (i := 4) (v := (.agg LC.toArray)) rfl (by kernel_rfl) (by kernel_rfl) (by kernel_rfl) (fun _ _ _ h => h) (yieldsIf_load_mid (by kernel_rfl) 26 (.tmp 8) rfl B8 0 rfl LC _ (fun w' h => h.2) Tryd.underlying26 rfl SZC.out) hH0 ?_
      simp only [Act.put, List.getElem_toArray, List.getElem_cons_zero, List.getElem_cons_succ, List.setIfInBounds_toArray, List.set_cons_zero, List.set_cons_succ]
      refine wpAnyH_take (i := 5) (v := ((.int .i64 (h : Int)))) rfl (by kernel_rfl) (by kernel_rfl) (by kernel_rfl) (fun _ _ _ h => h) (Or.inl ⟨by kernel_rfl, by intro w' hS; obtain ⟨z0, z1⟩ := hS; go_simp⟩) hH0 ?_
      simp only [Act.put, List.getElem_toArray, List.getElem_cons_zero, List.getElem_cons_succ, List.setIfInBounds_toArray, List.set_cons_zero, List.set_cons_succ]
      refine wpAnyH_ready (rs := [3]) (by kernel_rfl) (by simp) ?_
      refine AllReadyH.cons rfl (fun K hK => ?_) AllReadyH.nil
      go_simp
      refine (HBXh.out _).mono ?_
      rintro _ x1 ⟨rfl, hc1⟩
      have hk1 : Kept (fun _ => False) W5 x1 := hKept0.trans (Kept.of_below hc1)
      have hs1 := HKS.out _ hk1
      refine Shut.out hK _ _ hs1 (fun hH1 => ?_)
      clear hK K
      try simp only [Act.put, List.getElem_toArray, List.getElem_cons_zero, List.getElem_cons_succ, List.setIfInBounds_toArray, List.set_cons_zero, List.set_cons_succ]
      refine wpAnyH_ready (rs := [6]) (by kernel_rfl) (by simp) ?_
      refine AllReadyH.cons rfl (fun K hK => ?_) AllReadyH.nil
      go_simp
      refine (HBCh.out _).mono ?_
      rintro _ x2 ⟨rfl, hc2⟩
      have hk2 := hk1.trans (Kept.of_below hc2)
      have hs2 := HKS.out _ hk2
      refine Shut.out hK _ _ hs2 (fun hH2 => ?_)
      clear hK K
      try simp only [Act.put, List.getElem_toArray, List.getElem_cons_zero, List.getElem_cons_succ, List.setIfInBounds_toArray, List.set_cons_zero, List.set_cons_succ]
      refine wpAnyH_take (i := 7) (v := ((.bool ((b1 : Int) != (b2 : Int))))) rfl (by kernel_rfl) (by kernel_rfl) (by kernel_rfl) (fun _ _ _ h => h) (Or.inl ⟨by kernel_rfl, by intro w' hS; obtain ⟨z0, z1⟩ := hS; go_simp⟩) hH2 ?_
      simp only [Act.put, List.getElem_toArray, List.getElem_cons_zero, List.getElem_cons_succ, List.setIfInBounds_toArray, List.set_cons_zero, List.set_cons_succ]
      refine wpAnyH_take (i := 8) (v := ((.bool ((b1 : Int) != (b2 : Int))))) rfl (by kernel_rfl) (by kernel_rfl) (by kernel_rfl) (fun _ _ _ h => h) (Or.inl ⟨by kernel_rfl, by intro w' hS; obtain ⟨z0, z1⟩ := hS; go_simp⟩) hH2 ?_
      simp only [Act.put, List.getElem_toArray, List.getElem_cons_zero, List.getElem_cons_succ, List.setIfInBounds_toArray, List.set_cons_zero, List.set_cons_succ]
      refine wpAnyH_done (by kernel_rfl) ?_ _
      refine NoPanic.normal ?_
      obtain ⟨sm, hsm⟩ : ∃ s : Bool, s = ((b1 : Int) != (b2 : Int)) := ⟨_, rfl⟩
      rw [← hsm]
      have ESM := Lib.hid (show sm = !(((bitAt x.key h : Nat) : Int) == ((bitAt key h : Nat) : Int)) by rw [hsm, HB1E.out, HB2E.out]; rfl)
      have HK2X := Lib.hid hk2
      have HAL0 := Lib.hid (show (sm && alike x.key key h (h + 1)) = sm by rw [alike_low _ _ _ _ (Nat.le_refl _), Bool.and_true])
      obtain ⟨h1, hh1⟩ : ∃ m, m = h + 1 := ⟨_, rfl⟩
      have HWH := Lib.hid (show (h : Int) + 1 = (h1 : Int) by omega)
      have EH1 := Lib.hid hh1
      clear hh1
      clear hS0 hH0 hH1 hH2 hs1 hs2 hk1 hk2 hc1 hc2 hsm HBXh HBCh hKept0
      obtain ⟨W6, hW6⟩ : ∃ W, W = x2 := ⟨_, rfl⟩
      subst hW6
      go_wp2_with fail
      rw [HWH.out]
      go_loopw [14, 15] (fun sv jv wr => ∃ j : Nat, jv = .int .i64 (j : Int) ∧ sv = .bool (sm && alike x.key key h j) ∧ h + 1 ≤ j ∧ j ≤ 256 ∧ Kept (fun _ => False) W5 wr) (fun _ jv _ => 256 - (intOf jv).toNat)
      case atStart => exact ⟨h1, rfl, by rw [EH1.out, HAL0.out], by rw [EH1.out]; exact Nat.le_refl _, by rw [EH1.out]; exact HH.out, HK2X.out⟩
      case round =>
        clear HK2X HAL0
        obtain ⟨j, rfl, rfl, hj1, hj2, hkw⟩ := hrel
        have HKW := Lib.hid hkw
        clear hkw
        by_cases hj : j < 256
        · have HNX := Lib.hid (alike_next x.key key h j hj1)
          have HKSW := Lib.hid (show ∀ v, Kept (fun _ => False) wr v → v.rangeAt Bx 0 LK ∧ v.rangeAt B8 0 LC from fun v hk => HKS.out v (HKW.out.trans hk))
          have hKept0 : Kept (fun _ => False) wr wr.drew := (Kept.refl _ _).drew
          have hS0 := HKSW.out wr (Kept.refl _ _)
          obtain ⟨c1, hb1⟩ : ∃ b, b = bitAt x.key j := ⟨_, rfl⟩
          obtain ⟨c2, hb2⟩ : ∃ b, b = bitAt key j := ⟨_, rfl⟩
          have HBXj := Lib.hid (HBX.out j hj)
          have HBCj := Lib.hid (HBC.out j hj)
          rw [← hb1] at HBXj
          rw [← hb2] at HBCj
          rw [← hb1, ← hb2] at HNX
          have hj' : (j : Int) < 256 := by omega
          have HJ2 := Lib.hid (show h + 1 ≤ j + 1 ∧ j + 1 ≤ 256 ∧ 256 - (j + 1) < 256 - j by omega)
          have HWJ := Lib.hid (wrap64_succ j (by omega))
          clear hb1 hb2 hj hj1 hj2
          go_upto_region 9 with (fail)
          refine wp_region_noPanic ?_
          refine wp_region_held_drew (S := (fun v => v.rangeAt Bx 0 LK ∧ v.rangeAt B8 0 LC)) (by kernel_rfl) hS0 (fun hH0 => ?_)
          refine wpAnyH_take (i := 0) (v := ((.pointer (some ⟨Bx, 0, none⟩)))) rfl (by kernel_rfl) (by kernel_rfl) (by kernel_rfl) (fun _ _ _ h => h) (Or.inl ⟨by kernel_rfl, by intro w' hS; obtain ⟨z0, z1⟩ := hS; go_simp⟩) hH0 ?_
          simp only [Act.put, List.getElem_toArray, List.getElem_cons_zero, List.getElem_cons_succ, List.setIfInBounds_toArray, List.set_cons_zero, List.set_cons_succ]
          refine wpAnyH_take (i := 1) (v := (.agg LK.toArray)) rfl (by kernel_rfl) (by kernel_rfl) (by kernel_rfl) (fun _ _ _ h => h) (yieldsIf_load_mid (by kernel_rfl) 26 (.tmp 37) rfl Bx 0 rfl LK _ (fun w' h => h.1) Tryd.underlying26 rfl SZK.out) hH0 ?_
          simp only [Act.put, List.getElem_toArray, List.getElem_cons_zero, List.getElem_cons_succ, List.setIfInBounds_toArray, List.set_cons_zero, List.set_cons_succ]
          refine wpAnyH_take (i := 2) (v := ((.int .i64 (j : Int)))) rfl (by kernel_rfl) (by kernel_rfl) (by kernel_rfl) (fun _ _ _ h => h) (Or.inl ⟨by kernel_rfl, by intro w' hS; obtain ⟨z0, z1⟩ := hS; go_simp⟩) hH0 ?_
          simp only [Act.put, List.getElem_toArray, List.getElem_cons_zero, List.getElem_cons_succ, List.setIfInBounds_toArray, List.set_cons_zero, List.set_cons_succ]
          refine wpAnyH_take (i := 4) (v := (.agg LC.toArray)) rfl (by kernel_rfl) (by kernel_rfl) (by kernel_rfl) (fun _ _ _ h => h) (yieldsIf_load_mid (by kernel_rfl) 26 (.tmp 8) rfl B8 0 rfl LC _ (fun w' h => h.2) Tryd.underlying26 rfl SZC.out) hH0 ?_
          simp only [Act.put, List.getElem_toArray, List.getElem_cons_zero, List.getElem_cons_succ, List.setIfInBounds_toArray, List.set_cons_zero, List.set_cons_succ]
          refine wpAnyH_take (i := 5) (v := ((.int .i64 (j : Int)))) rfl (by kernel_rfl) (by kernel_rfl) (by kernel_rfl) (fun _ _ _ h => h) (Or.inl ⟨by kernel_rfl, by intro w' hS; obtain ⟨z0, z1⟩ := hS; go_simp⟩) hH0 ?_
          simp only [Act.put, List.getElem_toArray, List.getElem_cons_zero, List.getElem_cons_succ, List.setIfInBounds_toArray, List.set_cons_zero, List.set_cons_succ]
          refine wpAnyH_ready (rs := [3]) (by kernel_rfl) (by simp) ?_
          refine AllReadyH.cons rfl (fun K hK => ?_) AllReadyH.nil
          go_simp
          refine (HBXj.out _).mono ?_
          rintro _ x1 ⟨rfl, hc1⟩
          have hk1 : Kept (fun _ => False) wr x1 := hKept0.trans (Kept.of_below hc1)
          have hs1 := HKSW.out _ hk1
          refine Shut.out hK _ _ hs1 (fun hH1 => ?_)
          clear hK K
          try simp only [Act.put, List.getElem_toArray, List.getElem_cons_zero, List.getElem_cons_succ, List.setIfInBounds_toArray, List.set_cons_zero, List.set_cons_succ]
          refine wpAnyH_ready (rs := [6]) (by kernel_rfl) (by simp) ?_
          refine AllReadyH.cons rfl (fun K hK => ?_) AllReadyH.nil
          go_simp
          refine (HBCj.out _).mono ?_
          rintro _ x2 ⟨rfl, hc2⟩
          have hk2 := hk1.trans (Kept.of_below hc2)
          have hs2 := HKSW.out _ hk2
          refine Shut.out hK _ _ hs2 (fun hH2 => ?_)
          clear hK K
          try simp only [Act.put, List.getElem_toArray, List.getElem_cons_zero, List.getElem_cons_succ, List.setIfInBounds_toArray, List.set_cons_zero, List.set_cons_succ]
          refine wpAnyH_take (i := 7) (v := ((.bool ((c1 : Int) != (c2 : Int))))) rfl (by kernel_rfl) (by kernel_rfl) (by kernel_rfl) (fun _ _ _ h => h) (Or.inl ⟨by kernel_rfl, by intro w' hS; obtain ⟨z0, z1⟩ := hS; go_simp⟩) hH2 ?_
          simp only [Act.put, List.getElem_toArray, List.getElem_cons_zero, List.getElem_cons_succ, List.setIfInBounds_toArray, List.set_cons_zero, List.set_cons_succ]
          refine wpAnyH_done (by kernel_rfl) ?_ _
          refine NoPanic.normal ?_
          have HK2X := Lib.hid (HKW.out.trans hk2)
          clear hS0 hH0 hH1 hH2 hs1 hs2 hk1 hk2 hc1 hc2 HBXj HBCj hKept0 HKSW
          by_cases hcc : ((c1 : Int) == (c2 : Int)) = true
          · have HAL := Lib.hid (show (sm && alike x.key key h (j + 1)) = (sm && alike x.key key h j) by rw [HNX.out, hcc, Bool.and_true])
            have hne : ((c1 : Int) != (c2 : Int)) = false := by unfold bne; rw [hcc]; rfl
            rw [hne]
            clear hcc hne
            go_wp2
            go_roundw
            case rel => exact ⟨j + 1, by first | rfl | exact congrArg (Value.int .i64) HWJ.out, by rw [HAL.out], HJ2.out.1, HJ2.out.2.1, HK2X.out⟩
            case measure =>
              first | exact HJ2.out.2.2 | (show 256 - (intOf (Value.int .i64 (wrap64 ((j : Int) + 1)))).toNat < _; rw [HWJ.out]; exact HJ2.out.2.2)
          · have hcf : ((c1 : Int) == (c2 : Int)) = false := by simpa using hcc
            have HAL := Lib.hid (show (sm && alike x.key key h (j + 1)) = false by rw [HNX.out, hcf, Bool.and_false, Bool.and_false])
            have hne : ((c1 : Int) != (c2 : Int)) = true := by unfold bne; rw [hcf]; rfl
            rw [hne]
            clear hcc hcf hne
            go_wp2
            go_roundw
            case rel => exact ⟨j + 1, by first | rfl | exact congrArg (Value.int .i64) HWJ.out, by rw [HAL.out], HJ2.out.1, HJ2.out.2.1, HK2X.out⟩
            case measure =>
              first | exact HJ2.out.2.2 | (show 256 - (intOf (Value.int .i64 (wrap64 ((j : Int) + 1)))).toNat < _; rw [HWJ.out]; exact HJ2.out.2.2)
        · obtain rfl : j = 256 := by omega
          have hno : ¬ ((256 : Nat) : Int) < 256 := by omega
          have HSB := Lib.hid (show (sm && alike x.key key h 256) = besB x.key key h by rw [ESM.out]; rfl)
          have HXR := Lib.hid (show Has wr Bx 63 LX.toArray from HW9.out.1.kept HKW.out (fun h => h))
          have HIR := Lib.hid (HIV.out.kept HKW.out)
          rw [HSB.out]
          have HSNOC := Lib.hid (besS_snoc xs k x HXK.out key h)
          clear hj hj1 hj2
          by_cases hbb : besB x.key key h = true
          · rw [hbb]
            have HNE := Lib.hid (show besS (xs.take (k + 1)) key h = besS (xs.take k) key h ++ [x] by rw [HSNOC.out, if_pos hbb])
            have hal : Kept (fun _ => False) wr (wr.alloc (.cells LX.toArray 63)) := (Kept.refl _ _).alloc _
            have hi2 := HIR.out.kept hal
            obtain ⟨FC, hFC⟩ : ∃ L, L = (besS (xs.take k) key h).flatMap Sel.cells := ⟨_, rfl⟩
            have hown : (wr.alloc (.cells LX.toArray 63)).ownsRow B11 63 34 (.slice oa q oc) q FC := by
              have h1 := hi2.1
              rw [← EQ.out, ← hFC] at h1
              exact h1
            have hql : q ≤ 1000 := by
              have h1 := besS_len (xs.take k) key h
              have h2 := List.length_take_le k xs
              have h3 := HK2.out.1
              have h4 := HN.out
              have h5 := EQ.out
              omega
            have hend : ∀ g6 cap6 w6, w6.ownsRow B11 63 34 (.slice (some ⟨g6, 0, none⟩) (q + 1) cap6) (q + 1) (FC ++ LX) → (wr.alloc (.cells LX.toArray 63)).grownBy w6 (Value.slice oa q oc).ownBlock →
                BInv xs key h B5 B8 B10 B11 LT LC Z w w6 (k + 1) (.slice (some ⟨g6, 0, none⟩) (q + 1) cap6) := fun g6 cap6 w6 ho6 hg6 => by
              obtain ⟨i1, i2, i3, i4, i5, i6⟩ := hi2
              have hk6 : Kept (fun j => (Value.slice oa q oc).ownBlock = some j) (wr.alloc (.cells LX.toArray 63)) w6 := (Kept.refl _ _).grown hg6 (fun k e => .inl e)
              have hge : ∀ j, (Value.slice oa q oc).ownBlock = some j → B11 ≤ j := own_blk hown
              have e1 := EB.out
              have e2 := EB11.out
              refine ⟨?_, i2.kept hk6 (fun e => by have := hge _ e; omega), i3.kept hk6 (fun e => by have := hge _ e; omega), i4.kept hk6 (fun e => by have := hge _ e; omega), i5.trans (hk6.below i5.size (fun j e => by have := hge _ e; omega)), Nat.le_trans i6 hk6.size⟩
              rw [HNE.out, List.length_append, List.flatMap_append, ← hFC, ← EQ.out]
              simpa [← ELX.out] using ho6
            have HEND := Lib.hid hend
            have HOWN := Lib.hid hown
            have HBS := Lib.hid (show B11 ≤ (wr.alloc (.cells LX.toArray 63)).heap.size from hi2.2.2.2.2.2)
            have HML := Lib.hid (show q + 1 ≤ maxLen by unfold maxLen; omega)
            have HBY := Lib.hid (show (q + 1) * 64 ≤ 140737488355328 by omega)
            have HRX := Lib.hid (HXR.out.row0)
            clear hbb hal hi2 hFC hown hql hend
            go_wp2_with (first
              | (refine wpList_load_mid rfl 63 (.tmp 13) rfl Bx 0 rfl LX _ HRX.out Tryd.underlying63 rfl SZX.out ?_)
              | (refine wpList_build1 rfl 60 63 (.tmp 47) rfl isl _ Tryd.underlying60 hil hil0 LX (by rw [hil1, HLX.out]) (by rw [HLX.out]; kernel_rfl) (by rw [HLX.out]; decide) (by rw [HLX.out]; decide) rfl ?_)
              | (at_builtin; refine wpList_append_lies _ rfl (.tmp 46) (.tmp 48) 60 rfl B11 63 isl _ 34 64 Tryd.underlying60 hil hil0 hil1 hil2 HZ34.out (by decide) _ q _ rfl HOWN.out ⟨wr.heap.size, 0, none⟩ 1 1 LX rfl HLX.out (World.news_of_block (cs := LX.toArray) (heap_alloc_new wr _)) HONEX.out (by decide) HML.out HBY.out HBS.out _ rfl ?_; intro g6 cap6 w6 hown6 hgr6 hat6 hlt6))
            have hfin := HEND.out g6 cap6 w6 hown6 hgr6
            have HFIN := Lib.hid hfin
            clear hfin hown6 hgr6 hat6 hlt6
            go_wp2
            go_roundw
            case rel => exact ⟨k + 1, by first | rfl | exact congrArg (Value.int .i64) HWK.out, HK2.out.1, HFIN.out⟩
            case measure =>
              first | exact HK2.out.2 | (show n - (intOf (Value.int .i64 (wrap64 ((k : Int) + 1)))).toNat < _; rw [HWK.out]; exact HK2.out.2)
          · have hbf : besB x.key key h = false := by simpa using hbb
            rw [hbf]
            have HFIN := Lib.hid (show BInv xs key h B5 B8 B10 B11 LT LC Z w wr (k + 1) (.slice oa q oc) by
              obtain ⟨i1, i2⟩ := HIR.out
              refine ⟨?_, i2⟩
              rw [HSNOC.out, if_neg hbb]
              exact i1)
            clear hbb hbf
            go_wp2
            go_roundw
            case rel => exact ⟨k + 1, by first | rfl | exact congrArg (Value.int .i64) HWK.out, HK2.out.1, HFIN.out⟩
            case measure =>
              first | exact HK2.out.2 | (show n - (intOf (Value.int .i64 (wrap64 ((k : Int) + 1)))).toNat < _; rw [HWK.out]; exact HK2.out.2)
    · obtain rfl : k = n := by omega
      have hno : ¬ (k : Int) < (k : Int) := by omega
      obtain ⟨i1, i2, i3, i4, i5, i6⟩ := HI.out
      have hxs : xs.take k = xs := List.take_of_length_le (by rw [HX.out.len]; exact Nat.le_refl _)
      rw [hxs] at i1 hq
      have hbl := besS_len xs key h
      have hxl := HX.out.len
      have hemp : EmpAt wr K s0 ge := HE.out.kept (Kept.of_below (S := fun _ => False) i5) (fun h => h)
      have hss := besS_sum xs key h
      have hp : Calls Tryd.prog 29 #[.agg LT.toArray, .slice (some ⟨ge, 0, none⟩) 257 ce, .slice oa q oc, .int .i64 (h : Int)] wr fun e w' => e = .returned (.agg LN.toArray) ∧ Below wr.heap.size wr w' := by
        have := rpart_is K s0 HL.out.1 HL.out.2 ge ce h (by have := HH.out; omega) wr oa q oc (besS xs key h) (own_sels (c := oc) i1 (fun y hy => (HX.out.ok y (besS_mem hy)).below i5) (by have := HN.out; omega)) (by have := HN.out; omega) hemp (by have := HSUM.out; omega)
        unfold PartC at this
        rw [ELT.out, ELN.out]; exact this
      have HP := Lib.hid hp
      have HR5 := Lib.hid i2.row0
      have HR10 := Lib.hid i4
      have HBE := Lib.hid i5
      clear i1 i2 i3 i4 i5 i6 hxs hbl hxl hemp hss hp hq HI
      go_wp2_with (refine wpList_load_mid rfl 35 (.tmp 5) rfl B5 0 rfl LT _ HR5.out Tryd.underlying35 rfl SZT.out ?_)
      refine HP.out.mono ?_
      rintro _ w5 ⟨rfl, hb5⟩
      have hz5 := HR10.out.below hb5 HR10.out.lt
      have hb5w := HBE.out.trans (hb5.mono HBE.out.size)
      have hres : Has (w5.setRow B10 LN.toArray) B10 38 LN.toArray := hz5.setRow
      have hbf : Below w.heap.size w (w5.setRow B10 LN.toArray) := hb5w.trans ((kept_setRow (g := B10) w5 LN.toArray).below hb5w.size (fun j e => by have e' : j = B10 := e; have := EB.out; omega))
      have HZ5 := Lib.hid hz5
      have HRES := Lib.hid hres
      have HBF := Lib.hid hbf
      clear hb5 hz5 hb5w hres hbf
      go_wp2_with (refine wpList_store_row rfl 38 (.tmp 10) (.tmp 55) rfl B10 LN.toArray rfl rfl 38 Z HZ5.out SZN.out HZN.out ONEN.out ?_)
      refine bodyPost_ret (results_cell_row rfl _ _ B10 38 LN.toArray (0, 0) _ rfl HRES.out Tryd.underlying38 rfl SZN.out) rfl ?_
      exact ⟨rfl, HBF.out⟩
end Go.Proofs.YtcpomddkehhkkaaDoor

/- The plain law of MsumRoots: leaves that are something, in a tree and in a list; what stands beside a key's way, in both. -/
namespace Go.Proofs.YtcpomddkehhkkaaDoor
set_option linter.unusedVariables false
set_option linter.unusedSimpArgs false
open Go.ChangeShapes Go.WideShapes Go.ChangeAt Go.RowKit Go.Maps

def isB (x : Sel) : Bool := decide (0 < x.v.length) || decide (0 < x.s)
def fullS (xs : List Sel) : List Sel := xs.filter isB
theorem fullS_snoc (xs : List Sel) (k : Nat) (x : Sel) (hx : xs[k]? = some x) : fullS (xs.take (k + 1)) = if isB x = true then fullS (xs.take k) ++ [x] else fullS (xs.take k) := by
  unfold fullS
  rw [List.take_add_one, hx, Option.toList_some, List.filter_append, List.filter_cons, List.filter_nil]
  split
  · rfl
  · rw [List.append_nil]
theorem fullS_len (xs : List Sel) : (fullS xs).length ≤ xs.length := List.length_filter_le _ _
theorem fullS_mem {xs : List Sel} {x : Sel} (h : x ∈ fullS xs) : x ∈ xs ∧ isB x = true := List.mem_filter.1 h
theorem fullS_nodup {xs : List Sel} (h : (xs.map (·.key)).Nodup) : ((fullS xs).map (·.key)).Nodup := h.sublist (List.filter_sublist.map _)
/-- leaves with small sums, none of them nothing, fit one after the other. -/
theorem full_fits (xs : List Sel) (hl : xs.length ≤ 256) (hs : ∀ x ∈ xs, x.s < 281474976710656) (hv : ∀ x ∈ xs, x.v.length ≤ 65536) (hf : ∀ x ∈ xs, isB x = true) (k : Nat) (x : Sel) (hk : xs[k]? = some x) : putE (buildT (xs.take k)) x.leaf = 0 := by
  have hkl := (List.getElem?_eq_some_iff.1 hk).1
  have hm := List.mem_of_getElem? hk
  have hb := build_fits (xs.take k) (fun y hy => hs y (List.mem_of_mem_take hy))
  have htl : (xs.take k).length = k := by rw [List.length_take]; omega
  rw [htl] at hb
  have h1 := hs x hm
  have h2 := hv x hm
  have h3 := hf x hm
  rcases put_fits (T := buildT (xs.take k)) (l := x.leaf) h2 (by omega) (show sumT _ + x.s < _ by omega) with h | ⟨-, h4, h5⟩
  · exact h
  · exfalso
    have e1 : x.v.length = 0 := h4
    have e2 : x.s = 0 := h5
    unfold isB at h3
    rw [e1, e2] at h3
    simp at h3
theorem find_not {T : List Lf} {k : List Nat} (h : ∀ t ∈ T, t.k ≠ k) : findT T k = none := by
  cases hf : findT T k with
  | none => rfl
  | some l =>
    obtain ⟨h1, h2⟩ := find_key hf
    exact absurd h1 (h l h2)
/-- a tree of leaves with different keys is their list. -/
theorem build_list (xs : List Sel) (hn : (xs.map (·.key)).Nodup) (hp : ∀ (k : Nat) x, xs[k]? = some x → putE (buildT (xs.take k)) x.leaf = 0) : ∀ k, k ≤ xs.length → buildT (xs.take k) = (xs.take k).map Sel.leaf := by
  intro k
  induction k with
  | zero => exact fun _ => rfl
  | succ k ih =>
    intro hk
    obtain ⟨x, hx⟩ : ∃ x, xs[k]? = some x := ⟨_, List.getElem?_eq_getElem hk⟩
    have h1 := ih (by omega)
    rw [buildT_take xs k x hx]
    unfold putN
    rw [if_pos (hp k x hx), h1, put_new, List.take_add_one, hx, Option.toList_some, List.map_append]
    · rfl
    · refine find_not fun t ht e => ?_
      obtain ⟨y, hy, rfl⟩ := List.mem_map.1 ht
      obtain ⟨i, hi⟩ := List.getElem?_of_mem hy
      have hik := (List.getElem?_eq_some_iff.1 hi).1
      rw [List.length_take] at hik
      rw [List.getElem?_take_of_lt (by omega)] at hi
      have e1 : (xs.map (·.key))[i]? = some y.key := by rw [List.getElem?_map, hi]; rfl
      have e2 : (xs.map (·.key))[k]? = some x.key := by rw [List.getElem?_map, hx]; rfl
      have e3 : y.key = x.key := e
      rw [e3] at e1
      have hi' : i < (xs.map (·.key)).length := by rw [List.length_map]; omega
      have hk' : k < (xs.map (·.key)).length := by rw [List.length_map]; exact hk
      refine List.pairwise_iff_getElem.1 hn i k hi' hk' (by omega) ?_
      rw [List.getElem?_eq_getElem hi'] at e1
      rw [List.getElem?_eq_getElem hk'] at e2
      exact (Option.some.inj e1).trans (Option.some.inj e2).symm
theorem build_all (xs : List Sel) (hn : (xs.map (·.key)).Nodup) (hp : ∀ (k : Nat) x, xs[k]? = some x → putE (buildT (xs.take k)) x.leaf = 0) : buildT xs = xs.map Sel.leaf := by
  have := build_list xs hn hp xs.length (Nat.le_refl _)
  rwa [List.take_length] at this
theorem alike_iff (k key : List Nat) (h : Nat) : ∀ n, alike k key h n = true ↔ ∀ j, h + 1 ≤ j → j < n → bitAt k j = bitAt key j
  | 0 => ⟨fun _ j _ h => absurd h (by omega), fun _ => rfl⟩
  | n + 1 => by
    show (alike k key h n && (decide (n < h + 1) || decide (bitAt k n = bitAt key n))) = true ↔ _
    rw [Bool.and_eq_true, alike_iff k key h n, Bool.or_eq_true, decide_eq_true_eq, decide_eq_true_eq]
    refine ⟨fun ⟨h1, h2⟩ j hj1 hj2 => ?_, fun h1 => ⟨fun j hj1 hj2 => h1 j hj1 (by omega), ?_⟩⟩
    · rcases Nat.lt_or_ge j n with hlt | hge
      · exact h1 j hj1 hlt
      · obtain rfl : j = n := by omega
        rcases h2 with h2 | h2
        · omega
        · exact h2
    · rcases Nat.lt_or_ge n (h + 1) with hlt | hge
      · exact .inl hlt
      · exact .inr (h1 n hge (Nat.lt_succ_self n))
theorem own_filter (T : List Lf) (key : List Nat) : ∀ d, d ≤ 255 → ownT T key d = T.filter fun t => alike t.k key (255 - d) 256
  | 0, _ => by
    show T = _
    refine (List.filter_eq_self.2 fun t _ => ?_).symm
    exact (alike_iff _ _ _ _).2 fun j h1 h2 => absurd h2 (by omega)
  | d + 1, hd => by
    show side (ownT T key d) (255 - d) (bitAt key (255 - d)) = _
    rw [own_filter T key d (by omega)]
    unfold side
    rw [List.filter_filter]
    refine List.filter_congr fun t _ => ?_
    rw [Bool.eq_iff_iff, Bool.and_eq_true, decide_eq_true_eq, alike_iff, alike_iff]
    refine ⟨fun ⟨h1, h2⟩ j hj1 hj2 => ?_, fun h1 => ⟨h1 _ (by omega) (by omega), fun j hj1 hj2 => h1 j (by omega) hj2⟩⟩
    rcases Nat.lt_or_ge (255 - d) j with hlt | hge
    · exact h2 j (by omega) hj2
    · obtain rfl : j = 255 - d := by omega
      exact h1
theorem bes_leaf (xs : List Sel) (key : List Nat) (h : Nat) (hh : h < 256) : (besS xs key h).map Sel.leaf = besideT (xs.map Sel.leaf) key h := by
  unfold besideT
  rw [own_filter _ _ _ (by omega)]
  unfold side besS
  rw [List.filter_filter, List.filter_map]
  congr 1
  refine List.filter_congr fun x _ => ?_
  show besB x.key key h = (decide (bitAt x.key h = 1 - bitAt key h) && alike x.key key (255 - (255 - h)) 256)
  rw [show 255 - (255 - h) = h by omega]
  unfold besB
  congr 1
  have h1 := bitAt_lt x.key h
  have h2 := bitAt_lt key h
  rw [Bool.eq_iff_iff, decide_eq_true_eq]
  simp
  omega
theorem and_255 (n : Int) : bits BinOp.and .i64 n 255 = n % 256 := by
  unfold bits
  have e : (BitVec.ofInt IntKind.i64.bits n &&& BitVec.ofInt IntKind.i64.bits 255).toNat = (n % 256).toNat := by
    show (BitVec.ofInt 64 n &&& BitVec.ofInt 64 255).toNat = _
    rw [BitVec.toNat_and, BitVec.toNat_ofInt, BitVec.toNat_ofInt]
    have h31 : ((255 : Int) % ((2 ^ 64 : Nat) : Int)).toNat = 2 ^ 8 - 1 := by decide
    rw [h31, Nat.and_two_pow_sub_one_eq_mod]
    have : ((2 ^ 64 : Nat) : Int) = 18446744073709551616 := by decide
    rw [this]
    show _ % 256 = _
    omega
  simp only [e]
  rw [IntKind.wrap_i64]
  omega
end Go.Proofs.YtcpomddkehhkkaaDoor
