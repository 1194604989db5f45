/- The walk of LeafPlaces. -/
import Derived.Test.YtngmpcmeebcdmaaDoorLh
namespace Go.Proofs.YtngmpcmeebcdmaaDoor
set_option linter.unusedVariables false
set_option linter.unusedSimpArgs false
open Go.ChangeShapes Go.WideShapes Go.ChangeAt Go.RowKit Go.Maps

theorem and_16 (n : Int) (hn : 0 ≤ n) : bits BinOp.and .u64 n 65535 = n % 65536 := by
  unfold bits
  have e : (BitVec.ofInt IntKind.u64.bits n &&& BitVec.ofInt IntKind.u64.bits 65535).toNat = (n % 65536).toNat := by
    show (BitVec.ofInt 64 n &&& BitVec.ofInt 64 65535).toNat = _
    rw [BitVec.toNat_and, BitVec.toNat_ofInt, BitVec.toNat_ofInt]
    have h31 : ((65535 : Int) % ((2 ^ 64 : Nat) : Int)).toNat = 2 ^ 16 - 1 := by decide
    rw [h31, Nat.and_two_pow_sub_one_eq_mod]
    have : ((2 ^ 64 : Nat) : Int) = 18446744073709551616 := by decide
    rw [this]
    show _ % 65536 = _
    omega
  simp only [e]
  rw [IntKind.wrap_u64]
  omega
/-- a leaf with another amount. -/
def amF (n : Nat) (l : LeafT) : LeafT := { l with am := n }
theorem amF_ok {l : LeafT} (h : l.ok) (n : Nat) (hn : n < 18446744073709551616) : (amF n l).ok := ⟨h.id, hn, h.ow, h.lo, h.hi, h.sp, h.ss⟩
theorem amF_set {l : LeafT} (h : l.ok) (n : Nat) : l.cells.toArray.setIfInBounds 32 (.int .u64 (n : Int)) = (amF n l).cells.toArray := by
  rw [List.setIfInBounds_toArray]
  refine congrArg List.toArray ?_
  unfold LeafT.cells
  rw [List.set_append_right _ _ (by rw [bcells_length, h.id.1]; exact Nat.le_refl _), bcells_length, h.id.1, Nat.sub_self, List.set_cons_zero]
  rfl
/-- two leaves of amounts that fit make a transfer. -/
theorem two_tree {x y : LeafT} (hx : x.ok) (hy : y.ok) (h1 : x.am ≠ 0) (h2 : y.am ≠ 0) (hs : x.am + y.am < 18446744073709551616) : tlAt KS SS (placed [x, y]) 2 = .ok (partsT KS SS (placed [x, y])) := by
  have hok : ∀ l ∈ [x, y], l.ok := fun l hl => by
    simp only [List.mem_cons, List.not_mem_nil, or_false] at hl
    rcases hl with rfl | rfl <;> assumption
  have h := tl_makes (ls := placed [x, y]) (placed_ok hok (by simp)) (fun i l h => by
    have hi := (List.getElem?_eq_some_iff.1 h).1
    rw [placed_len] at hi
    have hi2 : i < 2 := hi
    rcases (by omega : i = 0 ∨ i = 1) with rfl | rfl
    · rw [placed_get (l := x) rfl] at h; injection h with h; subst h; exact ⟨rfl, h1⟩
    · rw [placed_get (l := y) rfl] at h; injection h with h; subst h; exact ⟨rfl, h2⟩) (by show x.am + (y.am + 0) < _; omega) 2 (by decide) (by rw [placed_len]; exact Nat.le_refl _)
  exact h
theorem two_sum (x y : LeafT) : (partNd KS SS 256 (partsT KS SS (placed [x, y]))).s = x.am + y.am := by
  rw [part_sum KS SS 256 _ (parts_keyed (by rw [placed_len]; show 2 ≤ 8; decide)) (coh_top _), parts_sum]
  show x.am + (y.am + 0) = _
  omega
/-- a leaf that does not stand first has no place there. -/
theorem tl_bad {K s0 : List Wd} {l : LeafT} {ls : List LeafT} (h : l.pl ≠ 0) (k : Nat) : tlAt K s0 (l :: ls) (k + 1) = .error 22 := by
  refine tlAt_err (k := 1) ?_ (k + 1) (by omega)
  rw [tlAt_succ (T := []) (l := l) rfl rfl, tlStep, if_pos (.inl h)]
/-- what Parts gives back of leaves that make a transfer: where they lie. -/
theorem parts_out {w w' : World} {n : Nat} {ls : List LeafT} (hok : ∀ l ∈ ls, l.ok) (hl : ls.length = n) (hn : 0 < n) (h8 : n ≤ 8) {T : List Lf} (hT : tlAt KS SS (placed ls) n = .ok T) {a : Option Addr} {c : Nat} (h : w'.ownsRow w.heap.size 103 99 (.slice a n c) n ((splitL (partNd KS SS 256 T) (placed ls)).flatMap LeafT.cells)) :
    ∃ b, a = some ⟨b, 0, none⟩ ∧ w.heap.size ≤ b ∧ b < w'.heap.size ∧ IsHash (partNd KS SS 256 T).h ∧ (partNd KS SS 256 T).s = amS ls ∧ (partNd KS SS 256 T).s < 18446744073709551616 ∧ (∀ l ∈ splitL (partNd KS SS 256 T) (placed ls), l.ok) ∧ RowsAt LeafT.cells 99 w' (some ⟨b, 0, none⟩) n (splitL (partNd KS SS 256 T) (placed ls)) := by
  have hpo := placed_ok hok (by omega : ls.length ≤ 256)
  have hpl : (placed ls).length = n := by rw [placed_len, hl]
  obtain ⟨e1, e2, -⟩ := tl_ok hpo n h8 (by rw [hpl]; exact Nat.le_refl _) T hT
  rw [List.take_of_length_le (by rw [hpl]; exact Nat.le_refl _)] at e1 e2
  have ha : amS (placed ls) = amS ls := by
    unfold amS
    congr 1
    apply List.ext_getElem?
    intro i
    rw [List.getElem?_map, List.getElem?_map]
    cases hx : ls[i]? with
    | none => rw [List.getElem?_eq_none (by rw [placed_len]; exact List.getElem?_eq_none_iff.1 hx)]
    | some x => rw [placed_get hx]; rfl
  have hs : (partNd KS SS 256 T).s = amS ls := by
    rw [e1, part_sum KS SS 256 _ (parts_keyed (by omega)) (coh_top _), parts_sum, ha]
  have hh : IsHash (partNd KS SS 256 T).h := part_hash KS SS (by decide) 256 _
  rw [ha] at e2
  generalize partNd KS SS 256 T = r at h hs hh ⊢
  have hso := split_ok (r := r) hh (by omega) hpo
  obtain ⟨hrow, hfar⟩ := own_rows h (by rw [split_len, hpl]) (len_cells hso)
  obtain ⟨g, cap, cur, e, hg, hhas, _⟩ := own_open h hn
  injection e with e
  subst e
  exact ⟨g, rfl, hg, hhas.lt, hh, hs, by omega, hso, hrow⟩
theorem leaf_row {w : World} {b n i : Nat} {xs : List LeafT} {x : LeafT} (h : RowsAt LeafT.cells 99 w (some ⟨b, 0, none⟩) n xs) (hx : xs[i]? = some x) : w.rangeAt b (i * 99) x.cells := by
  have hi := (List.getElem?_eq_some_iff.1 hx).1
  obtain ⟨b', o', e, _, hr⟩ := h.at_ (by have := h.len; omega)
  injection e with e
  injection e with e1 e2
  subst e1 e2
  have := hr i x hx
  rwa [Nat.zero_add] at this
/-- cells of a leaf in a row. -/
theorem row_ss {w : World} {b o : Nat} {x : LeafT} (hx : x.ok) (h : w.rangeAt b o x.cells) : w.cell? ⟨b, o + 98, none⟩ = some (.int .u64 (x.sp.s : Int)) := h 98 _ (LeafT.at_ss hx)
theorem row_pl {w : World} {b o : Nat} {x : LeafT} (hx : x.ok) (h : w.rangeAt b o x.cells) : w.cell? ⟨b, o + 65, none⟩ = some (.int .i64 x.pl) := h 65 _ (LeafT.at_pl hx)
theorem row_am {w : World} {b o : Nat} {x : LeafT} (hx : x.ok) (h : w.rangeAt b o x.cells) : w.cell? ⟨b, o + 32, none⟩ = some (.int .u64 (x.am : Int)) := h 32 _ (LeafT.at_am hx)
theorem row_id {w : World} {b o : Nat} {x : LeafT} (hx : x.ok) (h : w.rangeAt b o x.cells) : w.rangeAt b o (bcells x.id) := fun j u hu => by
  refine h j u ?_
  unfold LeafT.cells
  rw [List.getElem?_append_left (List.getElem?_eq_some_iff.1 hu).1]
  exact hu
theorem row_ow {w : World} {b o : Nat} {x : LeafT} (hx : x.ok) (h : w.rangeAt b o x.cells) : w.rangeAt b (o + 33) (bcells x.ow) := fun j u hu => by
  have hj := (List.getElem?_eq_some_iff.1 hu).1
  rw [Nat.add_assoc]
  refine h (33 + j) u ?_
  rw [LeafT.tail hx, List.getElem?_append_left hj]
  exact hu
theorem row_sp {w : World} {b o : Nat} {x : LeafT} (hx : x.ok) (h : w.rangeAt b o x.cells) : w.rangeAt b (o + 66) (ndV x.sp) := fun j u hu => by
  rw [Nat.add_assoc]
  refine h (66 + j) u ?_
  rw [LeafT.at_sp hx]
  exact hu
theorem boxes_pl (w : World) (CA CB : List Value) : ∃ W1, W1 = (((w.alloc (.cells CA.toArray 103))).alloc (.cells CB.toArray 103)) ∧
    Has W1 (w.heap.size) 103 CA.toArray ∧ Has W1 (w.heap.size + 1) 103 CB.toArray ∧ Below w.heap.size w W1 := by
  refine ⟨_, rfl, ?_, ?_, ?_⟩
  · have := Has.new w 103 CA.toArray
    exact (this).alloc _
  · have := Has.new (w.alloc (.cells CA.toArray 103)) 103 CB.toArray
    exact (by simpa using this : Has _ (w.heap.size + 1) _ _)
  · exact ((Below.refl _ _).alloc (Nat.le_refl _) _).alloc (by simp) _
set_option maxRecDepth 100000 in
set_option maxHeartbeats 2000000 in
theorem leafPlaces_walk (w : World) (hT : Tabs KS SS w) (a b : LeafT) (ha : a.ok) (hb : b.ok) : Calls Tryd.prog 12 #[.agg a.cells.toArray, .agg b.cells.toArray] w fun e w' => e = .returned (.bool true) ∧ Below w.heap.size w w' := by
  obtain ⟨Z, hinfo, hzs⟩ := info_leafT
  obtain ⟨Zp, hzp, -, hzps, hzpn, HZPE⟩ := zero_proofB
  have EZP := Lib.hid HZPE
  clear HZPE
  have hlow := hT.low
  have HT := Lib.hid hT
  have HA := Lib.hid ha
  have HB := Lib.hid hb
  have HINFO := Lib.hid hinfo
  obtain ⟨CA, hCA⟩ : ∃ L, L = a.cells := ⟨_, rfl⟩
  obtain ⟨CB, hCB⟩ : ∃ L, L = b.cells := ⟨_, rfl⟩
  rw [← hCA, ← hCB]
  have ECA := Lib.hid hCA
  have ECB := Lib.hid hCB
  obtain ⟨W1, hW1, h1, h2, hb1⟩ := boxes_pl w CA CB
  have HW1 := Lib.hid hW1
  have H1 := Lib.hid h1
  have H2 := Lib.hid h2
  have HB1 := Lib.hid hb1
  clear ha hb hCA hCB hW1 h1 h2 hb1 hinfo hT
  go_enter Tryd.func12, Tryd.ntmps12
  go_upto_region 1 with (fail)
  rw [← HW1.out]
  obtain ⟨B, hB⟩ : ∃ x, x = w.heap.size := ⟨_, rfl⟩
  rw [← hB] at H1 H2 ⊢
  have HBE := Lib.hid (show w.heap.size ≤ B by rw [hB]; exact Nat.le_refl _)
  clear hB HW1
  go_wp2_with fail
  refine (headL_is _ (HT.out.below HB1.out hlow)).mono ?_
  rintro _ w2 ⟨rfl, hb2⟩
  have H12 := Lib.hid (H1.out.below hb2 H1.out.lt)
  have H22 := Lib.hid (H2.out.below hb2 H2.out.lt)
  have HB2 := Lib.hid (HB1.out.trans (hb2.mono HB1.out.size))
  clear hb2 H1 H2 HB1
  obtain ⟨ma, hma⟩ : ∃ m, m = a.am % 65536 + 1 := ⟨_, rfl⟩
  obtain ⟨mb, hmb⟩ : ∃ m, m = b.am % 65536 + 1 := ⟨_, rfl⟩
  have c32 : w2.cell? ⟨B, 32, none⟩ = some (.int .u64 (a.am : Int)) := H12.out.cell_is (by rw [List.getElem?_toArray, ECA.out]; exact LeafT.at_am HA.out)
  have d32 : w2.cell? ⟨B + 1, 32, none⟩ = some (.int .u64 (b.am : Int)) := H22.out.cell_is (by rw [List.getElem?_toArray, ECB.out]; exact LeafT.at_am HB.out)
  have fz1 := H12.out.free 32
  have fz2 := H22.out.free 32
  have hs1 := H12.out.set 32 (.int .u64 (ma : Int))
  have hk1 : Kept (· = B) w2 (w2.setCell ⟨B, 32, none⟩ (.int .u64 (ma : Int))) := (Kept.refl (· = B) w2).set (p := ⟨B, 32, none⟩) (.inl rfl) _
  have h22' := H22.out.kept hk1 (fun e => by have e' : B + 1 = B := e; omega)
  have hs2 := h22'.set 32 (.int .u64 (mb : Int))
  obtain ⟨w3, hw3⟩ : ∃ x, x = w2.setCell ⟨B, 32, none⟩ (.int .u64 (ma : Int)) := ⟨_, rfl⟩
  rw [← hw3] at hs1 hk1 h22' hs2
  have hk2 : Kept (· = B + 1) w3 (w3.setCell ⟨B + 1, 32, none⟩ (.int .u64 (mb : Int))) := (Kept.refl (· = B + 1) w3).set (p := ⟨B + 1, 32, none⟩) (.inl rfl) _
  have hs1' := hs1.kept hk2 (fun e => by have e' : B = B + 1 := e; omega)
  have d32' : w3.cell? ⟨B + 1, 32, none⟩ = some (.int .u64 (b.am : Int)) := h22'.cell_is (by rw [List.getElem?_toArray, ECB.out]; exact LeafT.at_am HB.out)
  have fz2' := h22'.free 32
  obtain ⟨w4, hw4⟩ : ∃ x, x = w3.setCell ⟨B + 1, 32, none⟩ (.int .u64 (mb : Int)) := ⟨_, rfl⟩
  rw [← hw4] at hs2 hk2 hs1'
  rw [ECA.out, amF_set HA.out] at hs1'
  rw [ECB.out, amF_set HB.out] at hs2
  have HB4 := Lib.hid (show Below w.heap.size w w4 from (HB2.out.trans (hk1.below HB2.out.size (fun j e => by have e' : j = B := e; have := HBE.out; omega))).trans (hk2.below (by have := hk1.size; have := HB2.out.size; omega) (fun j e => by have e' : j = B + 1 := e; have := HBE.out; omega)))
  have HOA := Lib.hid (amF_ok HA.out ma (by omega))
  have HOB := Lib.hid (amF_ok HB.out mb (by omega))
  obtain ⟨x, hx⟩ : ∃ x, x = amF ma a := ⟨_, rfl⟩
  obtain ⟨y, hy⟩ : ∃ y, y = amF mb b := ⟨_, rfl⟩
  rw [← hx] at hs1' HOA
  rw [← hy] at hs2 HOB
  have HXM := Lib.hid (show x.am ≠ 0 ∧ y.am ≠ 0 ∧ x.am + y.am < 18446744073709551616 ∧ y.am + x.am < 18446744073709551616 by
    rw [hx, hy]
    show ma ≠ 0 ∧ mb ≠ 0 ∧ ma + mb < _ ∧ mb + ma < _
    omega)
  have hand1 : bits BinOp.and .u64 (a.am : Int) 65535 = (a.am : Int) % 65536 := and_16 _ (by omega)
  have hand2 : bits BinOp.and .u64 (b.am : Int) 65535 = (b.am : Int) % 65536 := and_16 _ (by omega)
  have hwp1 : IntKind.u64.wrap (1 + (a.am : Int) % 65536) = (ma : Int) := by rw [IntKind.wrap_u64]; omega
  have hwp2 : IntKind.u64.wrap (1 + (b.am : Int) % 65536) = (mb : Int) := by rw [IntKind.wrap_u64]; omega
  have H14 := Lib.hid hs1'
  have H24 := Lib.hid hs2
  have EW3 := Lib.hid hw3
  have EW4 := Lib.hid hw4
  clear hs1 hs1' hs2 hk1 hk2 h22' hw3 hw4 hx hy hma hmb d32 fz2 H12 H22
  go_upto_region 4 with (fail)
  rw [← EW3.out]
  clear c32 fz1 hand1 hwp1
  go_upto_region 5 with (fail)
  rw [← EW4.out]
  clear d32' fz2' hand2 hwp2 EW3 EW4
  obtain ⟨CX, hCX⟩ : ∃ L, L = x.cells := ⟨_, rfl⟩
  obtain ⟨CY, hCY⟩ : ∃ L, L = y.cells := ⟨_, rfl⟩
  rw [← hCX] at H14
  rw [← hCY] at H24
  have LX := Lib.hid (show CX.length = 99 by rw [hCX]; exact LeafT.len HOA.out)
  have LY := Lib.hid (show CY.length = 99 by rw [hCY]; exact LeafT.len HOB.out)
  have SZX := Lib.hid (show (Tryd.prog.info? 103).map (·.size) = some CX.toArray.size by rw [List.size_toArray, LX.out]; kernel_rfl)
  have SZY := Lib.hid (show (Tryd.prog.info? 103).map (·.size) = some CY.toArray.size by rw [List.size_toArray, LY.out]; kernel_rfl)
  have ECX := Lib.hid hCX
  have ECY := Lib.hid hCY
  have HT4 := Lib.hid (HT.out.below HB4.out hlow)
  clear hCX hCY
  have hxy : ∀ l ∈ [x, y], l.ok := fun l hl => by
    simp only [List.mem_cons, List.not_mem_nil, or_false] at hl
    rcases hl with rfl | rfl
    · exact HOA.out
    · exact HOB.out
  have hyx : ∀ l ∈ [y, x], l.ok := fun l hl => by
    simp only [List.mem_cons, List.not_mem_nil, or_false] at hl
    rcases hl with rfl | rfl
    · exact HOB.out
    · exact HOA.out
  have HXY := Lib.hid hxy
  have HYX := Lib.hid hyx
  clear hxy hyx
  obtain ⟨W5, hW5⟩ : ∃ W, W = w4.alloc (.cells (CX ++ CY).toArray 103) := ⟨_, rfl⟩
  have hh5 : Has W5 w4.heap.size 103 ([x, y].flatMap LeafT.cells).toArray := by
    rw [hW5, ECX.out, ECY.out]
    simpa using Has.new w4 103 (x.cells ++ y.cells).toArray
  have hb5 : Below w4.heap.size w4 W5 := by rw [hW5]; exact (Below.refl _ _).alloc (Nat.le_refl _) _
  have hc1 := lfParts_is KS SS W5 (HT4.out.below hb5 HT4.out.low) (some ⟨w4.heap.size, 0, none⟩) 2 2 [x, y] (rows_has hh5 (len_cells HXY.out)) HXY.out (by decide)
  have htr1 := two_tree HOA.out HOB.out HXM.out.1 HXM.out.2.1 HXM.out.2.2.1
  have htr2 := two_tree HOB.out HOA.out HXM.out.2.1 HXM.out.1 HXM.out.2.2.2
  rw [htr1] at hc1
  have HC1 := Lib.hid hc1
  have HTR1 := Lib.hid htr1
  have HTR2 := Lib.hid htr2
  have EW5 := Lib.hid hW5
  have HB5 := Lib.hid hb5
  clear hc1 htr1 htr2 hW5 hb5 hh5
  go_wp2_with (first
    | (refine wpList_load_row rfl 103 (.tmp 2) rfl B rfl 103 CX.toArray (0, 0) _ H14.out Tryd.underlying103 rfl SZX.out ?_)
    | (refine wpList_load_row rfl 103 (.tmp 3) rfl (B + 1) rfl 103 CY.toArray (0, 0) _ H24.out Tryd.underlying103 rfl SZY.out ?_)
    | (refine wpList_build2 rfl 98 103 (.tmp 26) (.tmp 27) rfl (.agg Z) 99 120 Tryd.underlying98 HINFO.out CX CY LX.out LY.out (by decide) (by decide) rfl rfl ?_))
  rw [← EW5.out]
  refine HC1.out.mono ?_
  rintro _ w6 ⟨hb6, a1, cp1, rfl, hown1⟩
  have hp1 := parts_out HXY.out rfl (by simp) (by simp) HTR1.out hown1
  obtain ⟨r1, hr1⟩ : ∃ r, r = partNd KS SS 256 (partsT KS SS (placed [x, y])) := ⟨_, rfl⟩
  rw [← hr1] at hp1
  have hr1s : r1.s = x.am + y.am := by rw [hr1]; exact two_sum x y
  obtain ⟨b1, rfl, hg1, hl1, hrh1, -, hrs1, hso1, hrow1⟩ := hp1
  have HB46 := Lib.hid (HB5.out.trans (hb6.mono HB5.out.size))
  have H16 := Lib.hid ((H14.out.below HB46.out H14.out.lt))
  have H26 := Lib.hid ((H24.out.below HB46.out H24.out.lt))
  have HR1 := Lib.hid hrow1
  have HSO1 := Lib.hid hso1
  have ER1 := Lib.hid hr1
  have ES1 := Lib.hid hr1s
  clear hb6 hown1 hr1 hr1s hrh1 hrs1 hso1 hrow1 hg1 hl1 HC1 EW5 HB5
  obtain ⟨W7, hW7⟩ : ∃ W, W = w6.alloc (.cells (CY ++ CX).toArray 103) := ⟨_, rfl⟩
  have hh7 : Has W7 w6.heap.size 103 ([y, x].flatMap LeafT.cells).toArray := by
    rw [hW7, ECX.out, ECY.out]
    simpa using Has.new w6 103 (y.cells ++ x.cells).toArray
  have hb7 : Below w6.heap.size w6 W7 := by rw [hW7]; exact (Below.refl _ _).alloc (Nat.le_refl _) _
  have hb47 := HB46.out.trans (hb7.mono HB46.out.size)
  have hc2 := lfParts_is KS SS W7 (HT4.out.below hb47 HT4.out.low) (some ⟨w6.heap.size, 0, none⟩) 2 2 [y, x] (rows_has hh7 (len_cells HYX.out)) HYX.out (by decide)
  rw [HTR2.out] at hc2
  have HC2 := Lib.hid hc2
  have EW7 := Lib.hid hW7
  have HB7 := Lib.hid hb7
  clear hc2 hW7 hb7 hh7 hb47
  go_wp2_with (first
    | (refine wpList_load_row rfl 103 (.tmp 2) rfl B rfl 103 CX.toArray (0, 0) _ H16.out Tryd.underlying103 rfl SZX.out ?_)
    | (refine wpList_load_row rfl 103 (.tmp 3) rfl (B + 1) rfl 103 CY.toArray (0, 0) _ H26.out Tryd.underlying103 rfl SZY.out ?_)
    | (refine wpList_build2 rfl 98 103 (.tmp 33) (.tmp 34) rfl (.agg Z) 99 120 Tryd.underlying98 HINFO.out CY CX LY.out LX.out (by decide) (by decide) rfl rfl ?_))
  rw [← EW7.out]
  refine HC2.out.mono ?_
  rintro _ w8 ⟨hb8, a2, cp2, rfl, hown2⟩
  have hp2 := parts_out HYX.out rfl (by simp) (by simp) HTR2.out hown2
  obtain ⟨r2, hr2⟩ : ∃ r, r = partNd KS SS 256 (partsT KS SS (placed [y, x])) := ⟨_, rfl⟩
  rw [← hr2] at hp2
  have hr2s : r2.s = y.am + x.am := by rw [hr2]; exact two_sum y x
  obtain ⟨b2, rfl, hg2, hl2, hrh2, -, hrs2, hso2, hrow2⟩ := hp2
  have hb68 := HB7.out.trans (hb8.mono HB7.out.size)
  have HB48 := Lib.hid (HB46.out.trans (hb68.mono HB46.out.size))
  have H18 := Lib.hid (H16.out.below hb68 H16.out.lt)
  have H28 := Lib.hid (H26.out.below hb68 H26.out.lt)
  have HR18 := Lib.hid (HR1.out.below hb68)
  have HR2 := Lib.hid hrow2
  have HSO2 := Lib.hid hso2
  have ER2 := Lib.hid hr2
  have ES2 := Lib.hid hr2s
  clear hb8 hown2 hr2 hr2s hrh2 hrs2 hso2 hrow2 hg2 hl2 HC2 EW7 HB7 hb68 H14 H24 H16 H26 HR1
  have g10 : (splitL r1 (placed [x, y]))[0]? = some (spF r1 0 (plF 0 x)) := split_get (placed_get rfl)
  have g11 : (splitL r1 (placed [x, y]))[1]? = some (spF r1 1 (plF 1 y)) := split_get (placed_get rfl)
  have g20 : (splitL r2 (placed [y, x]))[0]? = some (spF r2 0 (plF 0 y)) := split_get (placed_get rfl)
  have k10 := HSO1.out _ (List.mem_of_getElem? g10)
  have k11 := HSO1.out _ (List.mem_of_getElem? g11)
  have k20 := HSO2.out _ (List.mem_of_getElem? g20)
  obtain ⟨s, hs⟩ : ∃ s, s = x.am + y.am := ⟨_, rfl⟩
  have q1 : w8.cell? ⟨b1, 98, none⟩ = some (.int .u64 (s : Int)) := by
    have := row_ss k10 (leaf_row HR18.out g10)
    rw [show (spF r1 0 (plF 0 x)).sp.s = s by show r1.s = s; rw [ES1.out, hs]] at this
    simpa using this
  have q2 : w8.cell? ⟨b2, 98, none⟩ = some (.int .u64 (s : Int)) := by
    have := row_ss k20 (leaf_row HR2.out g20)
    rw [show (spF r2 0 (plF 0 y)).sp.s = s by show r2.s = s; rw [ES2.out, hs, Nat.add_comm]] at this
    simpa using this
  have ha10 := leaf_at0 b1 2 cp1 (by decide)
  have ha11 := leaf_at1 b1 2 cp1 (by decide)
  have ha20 := leaf_at0 b2 2 cp2 (by decide)
  go_upto_region 7 with (fail)
  have hS0 : w8.cell? ⟨b1, 98, none⟩ = some (.int .u64 (s : Int)) ∧ w8.cell? ⟨b2, 98, none⟩ = some (.int .u64 (s : Int)) := ⟨q1, q2⟩
  have HG10 := Lib.hid g10
  have HG11 := Lib.hid g11
  have HG20 := Lib.hid g20
  have K10 := Lib.hid k10
  have K11 := Lib.hid k11
  have K20 := Lib.hid k20
  clear q1 q2 hs g10 g11 g20 k10 k11 k20
  refine wp_region_noPanic ?_
  refine wp_region_held_drew (S := (fun v => v.cell? ⟨b1, 98, none⟩ = some (.int .u64 (s : Int)) ∧ v.cell? ⟨b2, 98, none⟩ = some (.int .u64 (s : Int)))) (by kernel_rfl) hS0 (fun hH0 => ?_)
  apply wpAnyH_take (i := 0) (v := _) rfl (by kernel_rfl) (by kernel_rfl) (by kernel_rfl) (fun _ _ _ h => h) (Or.inl ⟨by kernel_rfl, ?hv⟩) hH0 ?_
  case hv => intro w' hS; obtain ⟨z0, z1⟩ := hS; go_simp; try exact rfl
  simp only [Act.put, List.getElem_toArray, List.getElem_cons_zero, List.getElem_cons_succ, List.setIfInBounds_toArray, List.set_cons_zero, List.set_cons_succ]
  apply wpAnyH_take (i := 1) (v := _) rfl (by kernel_rfl) (by kernel_rfl) (by kernel_rfl) (fun _ _ _ h => h) (Or.inl ⟨by kernel_rfl, ?hv⟩) hH0 ?_
  case hv => intro w' hS; obtain ⟨z0, z1⟩ := hS; go_simp; try exact rfl
  simp only [Act.put, List.getElem_toArray, List.getElem_cons_zero, List.getElem_cons_succ, List.setIfInBounds_toArray, List.set_cons_zero, List.set_cons_succ]
  apply wpAnyH_take (i := 2) (v := _) rfl (by kernel_rfl) (by kernel_rfl) (by kernel_rfl) (fun _ _ _ h => h) (Or.inl ⟨by kernel_rfl, ?hv⟩) hH0 ?_
  case hv => intro w' hS; obtain ⟨z0, z1⟩ := hS; go_simp; try exact rfl
  simp only [Act.put, List.getElem_toArray, List.getElem_cons_zero, List.getElem_cons_succ, List.setIfInBounds_toArray, List.set_cons_zero, List.set_cons_succ]
  apply wpAnyH_take (i := 3) (v := _) rfl (by kernel_rfl) (by kernel_rfl) (by kernel_rfl) (fun _ _ _ h => h) (Or.inl ⟨by kernel_rfl, ?hv⟩) hH0 ?_
  case hv => intro w' hS; obtain ⟨z0, z1⟩ := hS; go_simp; try exact rfl
  simp only [Act.put, List.getElem_toArray, List.getElem_cons_zero, List.getElem_cons_succ, List.setIfInBounds_toArray, List.set_cons_zero, List.set_cons_succ]
  apply wpAnyH_take (i := 4) (v := _) rfl (by kernel_rfl) (by kernel_rfl) (by kernel_rfl) (fun _ _ _ h => h) (Or.inl ⟨by kernel_rfl, ?hv⟩) hH0 ?_
  case hv => intro w' hS; obtain ⟨z0, z1⟩ := hS; go_simp; try exact rfl
  simp only [Act.put, List.getElem_toArray, List.getElem_cons_zero, List.getElem_cons_succ, List.setIfInBounds_toArray, List.set_cons_zero, List.set_cons_succ]
  apply wpAnyH_take (i := 5) (v := _) rfl (by kernel_rfl) (by kernel_rfl) (by kernel_rfl) (fun _ _ _ h => h) (Or.inl ⟨by kernel_rfl, ?hv⟩) hH0 ?_
  case hv => intro w' hS; obtain ⟨z0, z1⟩ := hS; go_simp; try exact rfl
  simp only [Act.put, List.getElem_toArray, List.getElem_cons_zero, List.getElem_cons_succ, List.setIfInBounds_toArray, List.set_cons_zero, List.set_cons_succ]
  apply wpAnyH_take (i := 6) (v := _) rfl (by kernel_rfl) (by kernel_rfl) (by kernel_rfl) (fun _ _ _ h => h) (Or.inl ⟨by kernel_rfl, ?hv⟩) hH0 ?_
  case hv => intro w' hS; obtain ⟨z0, z1⟩ := hS; go_simp; try exact rfl
  simp only [Act.put, List.getElem_toArray, List.getElem_cons_zero, List.getElem_cons_succ, List.setIfInBounds_toArray, List.set_cons_zero, List.set_cons_succ]
  apply wpAnyH_take (i := 7) (v := _) rfl (by kernel_rfl) (by kernel_rfl) (by kernel_rfl) (fun _ _ _ h => h) (Or.inl ⟨by kernel_rfl, ?hv⟩) hH0 ?_
  case hv => intro w' hS; obtain ⟨z0, z1⟩ := hS; go_simp; try exact rfl
  simp only [Act.put, List.getElem_toArray, List.getElem_cons_zero, List.getElem_cons_succ, List.setIfInBounds_toArray, List.set_cons_zero, List.set_cons_succ]
  apply wpAnyH_take (i := 8) (v := _) rfl (by kernel_rfl) (by kernel_rfl) (by kernel_rfl) (fun _ _ _ h => h) (Or.inl ⟨by kernel_rfl, ?hv⟩) hH0 ?_
  case hv => intro w' hS; obtain ⟨z0, z1⟩ := hS; go_simp; try exact rfl
  simp only [Act.put, List.getElem_toArray, List.getElem_cons_zero, List.getElem_cons_succ, List.setIfInBounds_toArray, List.set_cons_zero, List.set_cons_succ]
  apply wpAnyH_take (i := 9) (v := _) rfl (by kernel_rfl) (by kernel_rfl) (by kernel_rfl) (fun _ _ _ h => h) (Or.inl ⟨by kernel_rfl, ?hv⟩) hH0 ?_
  case hv => intro w' hS; obtain ⟨z0, z1⟩ := hS; go_simp; try exact rfl
  simp only [Act.put, List.getElem_toArray, List.getElem_cons_zero, List.getElem_cons_succ, List.setIfInBounds_toArray, List.set_cons_zero, List.set_cons_succ]
  apply wpAnyH_take (i := 10) (v := _) rfl (by kernel_rfl) (by kernel_rfl) (by kernel_rfl) (fun _ _ _ h => h) (Or.inl ⟨by kernel_rfl, ?hv⟩) hH0 ?_
  case hv => intro w' hS; obtain ⟨z0, z1⟩ := hS; go_simp; try exact rfl
  simp only [Act.put, List.getElem_toArray, List.getElem_cons_zero, List.getElem_cons_succ, List.setIfInBounds_toArray, List.set_cons_zero, List.set_cons_succ]
  apply wpAnyH_take (i := 11) (v := _) rfl (by kernel_rfl) (by kernel_rfl) (by kernel_rfl) (fun _ _ _ h => h) (Or.inl ⟨by kernel_rfl, ?hv⟩) hH0 ?_
  case hv => intro w' hS; obtain ⟨z0, z1⟩ := hS; go_simp; try exact rfl
  simp only [Act.put, List.getElem_toArray, List.getElem_cons_zero, List.getElem_cons_succ, List.setIfInBounds_toArray, List.set_cons_zero, List.set_cons_succ]
  apply wpAnyH_take (i := 12) (v := _) rfl (by kernel_rfl) (by kernel_rfl) (by kernel_rfl) (fun _ _ _ h => h) (Or.inl ⟨by kernel_rfl, ?hv⟩) hH0 ?_
  case hv => intro w' hS; obtain ⟨z0, z1⟩ := hS; go_simp; try exact rfl
  simp only [Act.put, List.getElem_toArray, List.getElem_cons_zero, List.getElem_cons_succ, List.setIfInBounds_toArray, List.set_cons_zero, List.set_cons_succ]
  apply wpAnyH_take (i := 13) (v := _) rfl (by kernel_rfl) (by kernel_rfl) (by kernel_rfl) (fun _ _ _ h => h) (Or.inl ⟨by kernel_rfl, ?hv⟩) hH0 ?_
  case hv => intro w' hS; obtain ⟨z0, z1⟩ := hS; go_simp; try exact rfl
  simp only [Act.put, List.getElem_toArray, List.getElem_cons_zero, List.getElem_cons_succ, List.setIfInBounds_toArray, List.set_cons_zero, List.set_cons_succ]
  apply wpAnyH_take (i := 14) (v := _) rfl (by kernel_rfl) (by kernel_rfl) (by kernel_rfl) (fun _ _ _ h => h) (Or.inl ⟨by kernel_rfl, ?hv⟩) hH0 ?_
  case hv => intro w' hS; obtain ⟨z0, z1⟩ := hS; go_simp; try exact rfl
  simp only [Act.put, List.getElem_toArray, List.getElem_cons_zero, List.getElem_cons_succ, List.setIfInBounds_toArray, List.set_cons_zero, List.set_cons_succ]
  apply wpAnyH_take (i := 15) (v := _) rfl (by kernel_rfl) (by kernel_rfl) (by kernel_rfl) (fun _ _ _ h => h) (Or.inl ⟨by kernel_rfl, ?hv⟩) hH0 ?_
  case hv => intro w' hS; obtain ⟨z0, z1⟩ := hS; go_simp; try exact rfl
  simp only [Act.put, List.getElem_toArray, List.getElem_cons_zero, List.getElem_cons_succ, List.setIfInBounds_toArray, List.set_cons_zero, List.set_cons_succ]
  apply wpAnyH_take (i := 16) (v := _) rfl (by kernel_rfl) (by kernel_rfl) (by kernel_rfl) (fun _ _ _ h => h) (Or.inl ⟨by kernel_rfl, ?hv⟩) hH0 ?_
  case hv => intro w' hS; obtain ⟨z0, z1⟩ := hS; go_simp; try exact rfl
  simp only [Act.put, List.getElem_toArray, List.getElem_cons_zero, List.getElem_cons_succ, List.setIfInBounds_toArray, List.set_cons_zero, List.set_cons_succ]
  apply wpAnyH_take (i := 17) (v := _) rfl (by kernel_rfl) (by kernel_rfl) (by kernel_rfl) (fun _ _ _ h => h) (Or.inl ⟨by kernel_rfl, ?hv⟩) hH0 ?_
  case hv => intro w' hS; obtain ⟨z0, z1⟩ := hS; go_simp; try exact rfl
  simp only [Act.put, List.getElem_toArray, List.getElem_cons_zero, List.getElem_cons_succ, List.setIfInBounds_toArray, List.set_cons_zero, List.set_cons_succ]
  apply wpAnyH_take (i := 18) (v := _) rfl (by kernel_rfl) (by kernel_rfl) (by kernel_rfl) (fun _ _ _ h => h) (Or.inl ⟨by kernel_rfl, ?hv⟩) hH0 ?_
  case hv => intro w' hS; obtain ⟨z0, z1⟩ := hS; go_simp; try exact rfl
  simp only [Act.put, List.getElem_toArray, List.getElem_cons_zero, List.getElem_cons_succ, List.setIfInBounds_toArray, List.set_cons_zero, List.set_cons_succ]
  refine wpAnyH_done (by kernel_rfl) ?_ _
  refine NoPanic.normal ?_
  clear hS0
  obtain ⟨W8, hW8⟩ : ∃ W, W = w8.drew := ⟨_, rfl⟩
  have h80 : Below w8.heap.size w8 W8 := by rw [hW8]; exact below_drew (Below.refl _ _)
  rw [← hW8]
  have HB8 := Lib.hid (HB48.out.trans (h80.mono HB48.out.size))
  have J1 := Lib.hid (H18.out.below h80 H18.out.lt)
  have J2 := Lib.hid (H28.out.below h80 H28.out.lt)
  have JR1 := Lib.hid (HR18.out.below h80)
  have JR2 := Lib.hid (HR2.out.below h80)
  clear hW8 h80 H18 H28 HR18 HR2 HB48
  go_upto_region 9 with (fail)
  obtain ⟨LZ, hLZ⟩ : ∃ L, L = pcells (List.replicate 32 0) none 0 0 := ⟨_, rfl⟩
  have hZL : Zp = LZ.toArray := by rw [EZP.out, hLZ]
  subst hZL
  have ELZ := Lib.hid hLZ
  have HLZ := Lib.hid (show LZ.length = 33 by simpa using hzps)
  have SZPA := Lib.hid (show (Tryd.prog.info? 56).map (·.size) = some LZ.toArray.size by rw [List.size_toArray, HLZ.out]; kernel_rfl)
  have HOZ := Lib.hid (show LZ.toArray.all (·.oneCell') = true by rw [ELZ.out]; exact pcells_one _ _ _ _)
  obtain ⟨C0, hC0⟩ : ∃ L, L = (spF r1 0 (plF 0 x)).cells := ⟨_, rfl⟩
  obtain ⟨C1, hC1⟩ : ∃ L, L = (spF r1 1 (plF 1 y)).cells := ⟨_, rfl⟩
  have HR0 := Lib.hid (show ∀ v, Below W8.heap.size W8 v → v.rangeAt b1 0 C0 from fun v hv => by rw [hC0]; simpa using leaf_row (JR1.out.below hv) HG10.out)
  have HR1 := Lib.hid (show ∀ v, Below W8.heap.size W8 v → v.rangeAt b1 99 C1 from fun v hv => by rw [hC1]; simpa using leaf_row (JR1.out.below hv) HG11.out)
  have L0 := Lib.hid (show C0.length = 99 by rw [hC0]; exact LeafT.len K10.out)
  have L1 := Lib.hid (show C1.length = 99 by rw [hC1]; exact LeafT.len K11.out)
  have SZ0 := Lib.hid (show (Tryd.prog.info? 103).map (·.size) = some C0.length by rw [L0.out]; kernel_rfl)
  have SZ1 := Lib.hid (show (Tryd.prog.info? 103).map (·.size) = some C1.length by rw [L1.out]; kernel_rfl)
  have HWY1 := Lib.hid (show ∀ (v : World) (g : Nat), Below W8.heap.size W8 v → Has v g 103 (C1 ++ C0).toArray → Calls Tryd.prog 47 #[.slice (some ⟨g, 0, none⟩) 2 2, .int .i64 0] v fun e w' => e = .returned (.tuple #[.agg LZ.toArray, .int .i64 22]) ∧ Below v.heap.size v w' from fun v g hv hg => by
    have hok : ∀ l ∈ [spF r1 1 (plF 1 y), spF r1 0 (plF 0 x)], l.ok := fun l hl => by
      simp only [List.mem_cons, List.not_mem_nil, or_false] at hl
      rcases hl with rfl | rfl
      · exact K11.out
      · exact K10.out
    have h := lfWay_is KS SS v (HT4.out.below (HB8.out.trans (hv.mono HB8.out.size)) HT4.out.low) (some ⟨g, 0, none⟩) 2 2 [spF r1 1 (plF 1 y), spF r1 0 (plF 0 x)] (rows_has (by simpa [hC0, hC1] using hg) (len_cells hok)) hok (by decide) 0 (by decide) (by decide)
    rw [tl_bad (show (spF r1 1 (plF 1 y)).pl ≠ 0 by show ((1 : Nat) : Int) ≠ 0; decide) 1] at h
    refine h.mono ?_
    rintro e w' ⟨p1, p2⟩
    refine ⟨?_, p1⟩
    rw [ELZ.out]
    exact p2)
  have HWY2 := Lib.hid (show ∀ (v : World) (g : Nat), Below W8.heap.size W8 v → Has v g 103 C1.toArray → Calls Tryd.prog 47 #[.slice (some ⟨g, 0, none⟩) 1 1, .int .i64 0] v fun e w' => e = .returned (.tuple #[.agg LZ.toArray, .int .i64 22]) ∧ Below v.heap.size v w' from fun v g hv hg => by
    have hok : ∀ l ∈ [spF r1 1 (plF 1 y)], l.ok := fun l hl => by
      simp only [List.mem_cons, List.not_mem_nil, or_false] at hl
      subst hl
      exact K11.out
    have h := lfWay_is KS SS v (HT4.out.below (HB8.out.trans (hv.mono HB8.out.size)) HT4.out.low) (some ⟨g, 0, none⟩) 1 1 [spF r1 1 (plF 1 y)] (rows_has (by simpa [hC1] using hg) (len_cells hok)) hok (by decide) 0 (by decide) (by decide)
    rw [tl_bad (show (spF r1 1 (plF 1 y)).pl ≠ 0 by show ((1 : Nat) : Int) ≠ 0; decide) 0] at h
    refine h.mono ?_
    rintro e w' ⟨p1, p2⟩
    refine ⟨?_, p1⟩
    rw [ELZ.out]
    exact p2)
  clear hLZ hC0 hC1 hzps
  go_cut [9, 10] from 13 (fun _ ev wx => ev = .int .i64 22 ∧ Below W8.heap.size W8 wx)
  case first =>
    have hS0 : Below W8.heap.size W8 W8.drew := below_drew (Below.refl _ _)
    refine wp_region_noPanic ?_
    refine wp_region_held_drew (S := (fun v => Below W8.heap.size W8 v)) (by kernel_rfl) hS0 (fun hH0 => ?_)
    apply wpAnyH_take (i := 0) (v := _) rfl (by kernel_rfl) (by kernel_rfl) (by kernel_rfl) (fun _ _ _ h => h) (Or.inl ⟨by kernel_rfl, ?hv⟩) hH0 ?_
    case hv => intro w' hS; go_simp; try exact rfl
    simp only [Act.put, List.getElem_toArray, List.getElem_cons_zero, List.getElem_cons_succ, List.setIfInBounds_toArray, List.set_cons_zero, List.set_cons_succ]
    apply wpAnyH_take (i := 1) (v := _) rfl (by kernel_rfl) (by kernel_rfl) (by kernel_rfl) (fun _ _ _ h => h) (Or.inl ⟨by kernel_rfl, ?hv⟩) hH0 ?_
    case hv => intro w' hS; go_simp; try exact rfl
    simp only [Act.put, List.getElem_toArray, List.getElem_cons_zero, List.getElem_cons_succ, List.setIfInBounds_toArray, List.set_cons_zero, List.set_cons_succ]
    refine wpAnyH_take (i := 2) (v := (.agg C1.toArray)) rfl (by kernel_rfl) (by kernel_rfl) (by kernel_rfl) (fun _ _ _ h => h) (yieldsIf_load_mid (by kernel_rfl) 103 (.tmp 60) rfl b1 99 rfl C1 _ (fun w' h => (HR1.out _ h)) Tryd.underlying103 rfl SZ1.out) hH0 ?_
    simp only [Act.put, List.getElem_toArray, List.getElem_cons_zero, List.getElem_cons_succ, List.setIfInBounds_toArray, List.set_cons_zero, List.set_cons_succ]
    apply wpAnyH_take (i := 3) (v := _) rfl (by kernel_rfl) (by kernel_rfl) (by kernel_rfl) (fun _ _ _ h => h) (Or.inl ⟨by kernel_rfl, ?hv⟩) hH0 ?_
    case hv => intro w' hS; go_simp; try exact rfl
    simp only [Act.put, List.getElem_toArray, List.getElem_cons_zero, List.getElem_cons_succ, List.setIfInBounds_toArray, List.set_cons_zero, List.set_cons_succ]
    apply wpAnyH_take (i := 4) (v := _) rfl (by kernel_rfl) (by kernel_rfl) (by kernel_rfl) (fun _ _ _ h => h) (Or.inl ⟨by kernel_rfl, ?hv⟩) hH0 ?_
    case hv => intro w' hS; go_simp; try exact rfl
    simp only [Act.put, List.getElem_toArray, List.getElem_cons_zero, List.getElem_cons_succ, List.setIfInBounds_toArray, List.set_cons_zero, List.set_cons_succ]
    refine wpAnyH_take (i := 5) (v := (.agg C0.toArray)) rfl (by kernel_rfl) (by kernel_rfl) (by kernel_rfl) (fun _ _ _ h => h) (yieldsIf_load_mid (by kernel_rfl) 103 (.tmp 63) rfl b1 0 rfl C0 _ (fun w' h => (HR0.out _ h)) Tryd.underlying103 rfl SZ0.out) hH0 ?_
    simp only [Act.put, List.getElem_toArray, List.getElem_cons_zero, List.getElem_cons_succ, List.setIfInBounds_toArray, List.set_cons_zero, List.set_cons_succ]
    refine wpAnyH_ready (rs := [6, 11]) (by kernel_rfl) (by simp) ?_
    refine AllReadyH.cons rfl (fun KK hKK => ?_) (AllReadyH.cons rfl (fun KK hKK => ?_) AllReadyH.nil)
    · refine step_build2 rfl 98 103 (.tmp 61) (.tmp 64) rfl (.agg Z) 99 120 Tryd.underlying98 HINFO.out C1 C0 L1.out L0.out (by decide) (by decide) rfl rfl ?_
      have hn6 : Below W8.drew.heap.size W8.drew (W8.drew.alloc (.cells (C1 ++ C0).toArray 103)) := (Below.refl _ _).alloc (Nat.le_refl _) _
      have hrw := Has.new W8.drew 103 (C1 ++ C0).toArray
      obtain ⟨x6, hx6⟩ : ∃ x, x = W8.drew.alloc (.cells (C1 ++ C0).toArray 103) := ⟨_, rfl⟩
      rw [← hx6] at hn6 hrw ⊢
      clear hx6
      try rw [show W8.drew.heap.size = W8.heap.size from rfl] at hrw
      try replace hz9 := hz9.below hn6 hz9.lt
      refine Shut.out hKK _ _ (hH0.trans (hn6.mono hH0.size)) (fun hH1 => ?_)
      clear hKK KK
      try simp only [Act.put, List.getElem_toArray, List.getElem_cons_zero, List.getElem_cons_succ, List.setIfInBounds_toArray, List.set_cons_zero, List.set_cons_succ]
      refine wpAnyH_ready (rs := [7, 11]) (by kernel_rfl) (by simp) ?_
      refine AllReadyH.cons rfl (fun KK hKK => ?_) (AllReadyH.cons rfl (fun KK hKK => ?_) AllReadyH.nil)
      · go_simp
        refine (HWY1.out _ _ hH1 hrw).mono ?_
        rintro _ x7 ⟨rfl, hc7⟩
        try replace hz9 := hz9.below hc7 hz9.lt
        refine Shut.out hKK _ _ (hH1.trans (hc7.mono hH1.size)) (fun hH2 => ?_)
        clear hKK KK
        try simp only [Act.put, List.getElem_toArray, List.getElem_cons_zero, List.getElem_cons_succ, List.setIfInBounds_toArray, List.set_cons_zero, List.set_cons_succ]
        apply wpAnyH_take (i := 8) (v := _) rfl (by kernel_rfl) (by kernel_rfl) (by kernel_rfl) (fun _ _ _ h => h) (Or.inl ⟨by kernel_rfl, ?hv⟩) hH2 ?_
        case hv => intro w' hS; go_simp; try exact rfl
        simp only [Act.put, List.getElem_toArray, List.getElem_cons_zero, List.getElem_cons_succ, List.setIfInBounds_toArray, List.set_cons_zero, List.set_cons_succ]
        apply wpAnyH_take (i := 9) (v := _) rfl (by kernel_rfl) (by kernel_rfl) (by kernel_rfl) (fun _ _ _ h => h) (Or.inl ⟨by kernel_rfl, ?hv⟩) hH2 ?_
        case hv => intro w' hS; go_simp; try exact rfl
        simp only [Act.put, List.getElem_toArray, List.getElem_cons_zero, List.getElem_cons_succ, List.setIfInBounds_toArray, List.set_cons_zero, List.set_cons_succ]
        apply wpAnyH_take (i := 10) (v := _) rfl (by kernel_rfl) (by kernel_rfl) (by kernel_rfl) (fun _ _ _ h => h) (Or.inl ⟨by kernel_rfl, ?hv⟩) hH2 ?_
        case hv => intro w' hS; go_simp; try exact rfl
        simp only [Act.put, List.getElem_toArray, List.getElem_cons_zero, List.getElem_cons_succ, List.setIfInBounds_toArray, List.set_cons_zero, List.set_cons_succ]
        refine wpAnyH_ready (rs := [11]) (by kernel_rfl) (by simp) ?_
        refine AllReadyH.cons rfl (fun KK hKK => ?_) AllReadyH.nil
        go_simp
        have hz9 := Has.new x7 56 LZ.toArray
        have hg9 := hH2.size
        try replace hrw := hrw.alloc (.cells LZ.toArray 56)
        have hna := hH2.alloc hH2.size (.cells LZ.toArray 56)
        obtain ⟨xa, hxa⟩ : ∃ x, x = x7.alloc (.cells LZ.toArray 56) := ⟨_, rfl⟩
        rw [← hxa] at hna hz9
        first | rw [← hxa] | (change KK _ (x7.alloc (.cells LZ.toArray 56)); rw [← hxa])
        try rw [← hxa] at hrw
        clear hxa
        try rw [show W8.drew.heap.size = W8.heap.size from rfl] at hz9
        refine Shut.out hKK _ _ hna (fun hH3 => ?_)
        clear hKK KK
        try simp only [Act.put, List.getElem_toArray, List.getElem_cons_zero, List.getElem_cons_succ, List.setIfInBounds_toArray, List.set_cons_zero, List.set_cons_succ]
        refine wpAnyH_ready (rs := [12]) (by kernel_rfl) (by simp) ?_
        refine AllReadyH.cons rfl (fun KK hKK => ?_) AllReadyH.nil
        refine step_store_mid rfl 56 (.tmp 9) (.tmp 67) rfl x7.heap.size 0 LZ.toArray rfl rfl (hz9.there 0 LZ.toArray.size (by omega)) SZPA.out HOZ.out ?_
        refine Shut.out hKK _ _ (store_new hH3 hz9 hg9 (List.size_toArray ..)).1 (fun hH4 => ?_)
        clear hKK KK
        try simp only [Act.put, List.getElem_toArray, List.getElem_cons_zero, List.getElem_cons_succ, List.setIfInBounds_toArray, List.set_cons_zero, List.set_cons_succ]
        apply wpAnyH_take (i := 13) (v := _) rfl (by kernel_rfl) (by kernel_rfl) (by kernel_rfl) (fun _ _ _ h => h) (Or.inl ⟨by kernel_rfl, ?hv⟩) hH4 ?_
        case hv => intro w' hS; go_simp; try exact rfl
        simp only [Act.put, List.getElem_toArray, List.getElem_cons_zero, List.getElem_cons_succ, List.setIfInBounds_toArray, List.set_cons_zero, List.set_cons_succ]
        refine wpAnyH_done (by kernel_rfl) ?_ _
        refine NoPanic.normal ?_
        have HFN := Lib.hid hH4
        go_wp2_with fail
        go_meet
        case rel => exact ⟨rfl, HFN.out⟩
      · go_simp
        have hz9 := Has.new x6 56 LZ.toArray
        have hg9 := hH1.size
        try replace hrw := hrw.alloc (.cells LZ.toArray 56)
        have hna := hH1.alloc hH1.size (.cells LZ.toArray 56)
        obtain ⟨xa, hxa⟩ : ∃ x, x = x6.alloc (.cells LZ.toArray 56) := ⟨_, rfl⟩
        rw [← hxa] at hna hz9
        first | rw [← hxa] | (change KK _ (x6.alloc (.cells LZ.toArray 56)); rw [← hxa])
        try rw [← hxa] at hrw
        clear hxa
        try rw [show W8.drew.heap.size = W8.heap.size from rfl] at hz9
        refine Shut.out hKK _ _ hna (fun hH2 => ?_)
        clear hKK KK
        try simp only [Act.put, List.getElem_toArray, List.getElem_cons_zero, List.getElem_cons_succ, List.setIfInBounds_toArray, List.set_cons_zero, List.set_cons_succ]
        refine wpAnyH_ready (rs := [7]) (by kernel_rfl) (by simp) ?_
        refine AllReadyH.cons rfl (fun KK hKK => ?_) AllReadyH.nil
        go_simp
        refine (HWY1.out _ _ hH2 hrw).mono ?_
        rintro _ x7 ⟨rfl, hc7⟩
        try replace hz9 := hz9.below hc7 hz9.lt
        refine Shut.out hKK _ _ (hH2.trans (hc7.mono hH2.size)) (fun hH3 => ?_)
        clear hKK KK
        try simp only [Act.put, List.getElem_toArray, List.getElem_cons_zero, List.getElem_cons_succ, List.setIfInBounds_toArray, List.set_cons_zero, List.set_cons_succ]
        apply wpAnyH_take (i := 8) (v := _) rfl (by kernel_rfl) (by kernel_rfl) (by kernel_rfl) (fun _ _ _ h => h) (Or.inl ⟨by kernel_rfl, ?hv⟩) hH3 ?_
        case hv => intro w' hS; go_simp; try exact rfl
        simp only [Act.put, List.getElem_toArray, List.getElem_cons_zero, List.getElem_cons_succ, List.setIfInBounds_toArray, List.set_cons_zero, List.set_cons_succ]
        apply wpAnyH_take (i := 9) (v := _) rfl (by kernel_rfl) (by kernel_rfl) (by kernel_rfl) (fun _ _ _ h => h) (Or.inl ⟨by kernel_rfl, ?hv⟩) hH3 ?_
        case hv => intro w' hS; go_simp; try exact rfl
        simp only [Act.put, List.getElem_toArray, List.getElem_cons_zero, List.getElem_cons_succ, List.setIfInBounds_toArray, List.set_cons_zero, List.set_cons_succ]
        apply wpAnyH_take (i := 10) (v := _) rfl (by kernel_rfl) (by kernel_rfl) (by kernel_rfl) (fun _ _ _ h => h) (Or.inl ⟨by kernel_rfl, ?hv⟩) hH3 ?_
        case hv => intro w' hS; go_simp; try exact rfl
        simp only [Act.put, List.getElem_toArray, List.getElem_cons_zero, List.getElem_cons_succ, List.setIfInBounds_toArray, List.set_cons_zero, List.set_cons_succ]
        refine wpAnyH_ready (rs := [12]) (by kernel_rfl) (by simp) ?_
        refine AllReadyH.cons rfl (fun KK hKK => ?_) AllReadyH.nil
        refine step_store_mid rfl 56 (.tmp 9) (.tmp 67) rfl x6.heap.size 0 LZ.toArray rfl rfl (hz9.there 0 LZ.toArray.size (by omega)) SZPA.out HOZ.out ?_
        refine Shut.out hKK _ _ (store_new hH3 hz9 hg9 (List.size_toArray ..)).1 (fun hH4 => ?_)
        clear hKK KK
        try simp only [Act.put, List.getElem_toArray, List.getElem_cons_zero, List.getElem_cons_succ, List.setIfInBounds_toArray, List.set_cons_zero, List.set_cons_succ]
        apply wpAnyH_take (i := 13) (v := _) rfl (by kernel_rfl) (by kernel_rfl) (by kernel_rfl) (fun _ _ _ h => h) (Or.inl ⟨by kernel_rfl, ?hv⟩) hH4 ?_
        case hv => intro w' hS; go_simp; try exact rfl
        simp only [Act.put, List.getElem_toArray, List.getElem_cons_zero, List.getElem_cons_succ, List.setIfInBounds_toArray, List.set_cons_zero, List.set_cons_succ]
        refine wpAnyH_done (by kernel_rfl) ?_ _
        refine NoPanic.normal ?_
        have HFN := Lib.hid hH4
        go_wp2_with fail
        go_meet
        case rel => exact ⟨rfl, HFN.out⟩
    · go_simp
      have hz9 := Has.new W8.drew 56 LZ.toArray
      have hg9 := hH0.size
      try replace hrw := hrw.alloc (.cells LZ.toArray 56)
      have hna := hH0.alloc hH0.size (.cells LZ.toArray 56)
      obtain ⟨xa, hxa⟩ : ∃ x, x = W8.drew.alloc (.cells LZ.toArray 56) := ⟨_, rfl⟩
      rw [← hxa] at hna hz9
      first | rw [← hxa] | (change KK _ (W8.drew.alloc (.cells LZ.toArray 56)); rw [← hxa])
      try rw [← hxa] at hrw
      clear hxa
      try rw [show W8.drew.heap.size = W8.heap.size from rfl] at hz9
      refine Shut.out hKK _ _ hna (fun hH1 => ?_)
      clear hKK KK
      try simp only [Act.put, List.getElem_toArray, List.getElem_cons_zero, List.getElem_cons_succ, List.setIfInBounds_toArray, List.set_cons_zero, List.set_cons_succ]
      refine wpAnyH_ready (rs := [6]) (by kernel_rfl) (by simp) ?_
      refine AllReadyH.cons rfl (fun KK hKK => ?_) AllReadyH.nil
      refine step_build2 rfl 98 103 (.tmp 61) (.tmp 64) rfl (.agg Z) 99 120 Tryd.underlying98 HINFO.out C1 C0 L1.out L0.out (by decide) (by decide) rfl rfl ?_
      have hn6 : Below xa.heap.size xa (xa.alloc (.cells (C1 ++ C0).toArray 103)) := (Below.refl _ _).alloc (Nat.le_refl _) _
      have hrw := Has.new xa 103 (C1 ++ C0).toArray
      obtain ⟨x6, hx6⟩ : ∃ x, x = xa.alloc (.cells (C1 ++ C0).toArray 103) := ⟨_, rfl⟩
      rw [← hx6] at hn6 hrw ⊢
      clear hx6
      try rw [show W8.drew.heap.size = W8.heap.size from rfl] at hrw
      try replace hz9 := hz9.below hn6 hz9.lt
      refine Shut.out hKK _ _ (hH1.trans (hn6.mono hH1.size)) (fun hH2 => ?_)
      clear hKK KK
      try simp only [Act.put, List.getElem_toArray, List.getElem_cons_zero, List.getElem_cons_succ, List.setIfInBounds_toArray, List.set_cons_zero, List.set_cons_succ]
      refine wpAnyH_ready (rs := [7]) (by kernel_rfl) (by simp) ?_
      refine AllReadyH.cons rfl (fun KK hKK => ?_) AllReadyH.nil
      go_simp
      refine (HWY1.out _ _ hH2 hrw).mono ?_
      rintro _ x7 ⟨rfl, hc7⟩
      try replace hz9 := hz9.below hc7 hz9.lt
      refine Shut.out hKK _ _ (hH2.trans (hc7.mono hH2.size)) (fun hH3 => ?_)
      clear hKK KK
      try simp only [Act.put, List.getElem_toArray, List.getElem_cons_zero, List.getElem_cons_succ, List.setIfInBounds_toArray, List.set_cons_zero, List.set_cons_succ]
      apply wpAnyH_take (i := 8) (v := _) rfl (by kernel_rfl) (by kernel_rfl) (by kernel_rfl) (fun _ _ _ h => h) (Or.inl ⟨by kernel_rfl, ?hv⟩) hH3 ?_
      case hv => intro w' hS; go_simp; try exact rfl
      simp only [Act.put, List.getElem_toArray, List.getElem_cons_zero, List.getElem_cons_succ, List.setIfInBounds_toArray, List.set_cons_zero, List.set_cons_succ]
      apply wpAnyH_take (i := 9) (v := _) rfl (by kernel_rfl) (by kernel_rfl) (by kernel_rfl) (fun _ _ _ h => h) (Or.inl ⟨by kernel_rfl, ?hv⟩) hH3 ?_
      case hv => intro w' hS; go_simp; try exact rfl
      simp only [Act.put, List.getElem_toArray, List.getElem_cons_zero, List.getElem_cons_succ, List.setIfInBounds_toArray, List.set_cons_zero, List.set_cons_succ]
      apply wpAnyH_take (i := 10) (v := _) rfl (by kernel_rfl) (by kernel_rfl) (by kernel_rfl) (fun _ _ _ h => h) (Or.inl ⟨by kernel_rfl, ?hv⟩) hH3 ?_
      case hv => intro w' hS; go_simp; try exact rfl
      simp only [Act.put, List.getElem_toArray, List.getElem_cons_zero, List.getElem_cons_succ, List.setIfInBounds_toArray, List.set_cons_zero, List.set_cons_succ]
      refine wpAnyH_ready (rs := [12]) (by kernel_rfl) (by simp) ?_
      refine AllReadyH.cons rfl (fun KK hKK => ?_) AllReadyH.nil
      refine step_store_mid rfl 56 (.tmp 9) (.tmp 67) rfl W8.drew.heap.size 0 LZ.toArray rfl rfl (hz9.there 0 LZ.toArray.size (by omega)) SZPA.out HOZ.out ?_
      refine Shut.out hKK _ _ (store_new hH3 hz9 hg9 (List.size_toArray ..)).1 (fun hH4 => ?_)
      clear hKK KK
      try simp only [Act.put, List.getElem_toArray, List.getElem_cons_zero, List.getElem_cons_succ, List.setIfInBounds_toArray, List.set_cons_zero, List.set_cons_succ]
      apply wpAnyH_take (i := 13) (v := _) rfl (by kernel_rfl) (by kernel_rfl) (by kernel_rfl) (fun _ _ _ h => h) (Or.inl ⟨by kernel_rfl, ?hv⟩) hH4 ?_
      case hv => intro w' hS; go_simp; try exact rfl
      simp only [Act.put, List.getElem_toArray, List.getElem_cons_zero, List.getElem_cons_succ, List.setIfInBounds_toArray, List.set_cons_zero, List.set_cons_succ]
      refine wpAnyH_done (by kernel_rfl) ?_ _
      refine NoPanic.normal ?_
      have HFN := Lib.hid hH4
      go_wp2_with fail
      go_meet
      case rel => exact ⟨rfl, HFN.out⟩
  case rest =>
  obtain ⟨W9, hW9⟩ : ∃ y, y = wc := ⟨_, rfl⟩
  subst hW9
  obtain ⟨rfl, hb9⟩ := hcut
  have HB9 := Lib.hid hb9
  obtain ⟨W10, hW10⟩ : ∃ W, W = W9.alloc (.cells C1.toArray 103) := ⟨_, rfl⟩
  have hb10 : Below W9.heap.size W9 W10 := by rw [hW10]; exact (Below.refl _ _).alloc (Nat.le_refl _) _
  have h10 : Has W10 W9.heap.size 103 C1.toArray := by rw [hW10]; exact Has.new W9 _ _
  have hb810 := hb9.trans (hb10.mono hb9.size)
  have HC10 := Lib.hid (HWY2.out W10 W9.heap.size hb810 h10)
  have HR9 := Lib.hid (HR1.out W9 hb9)
  have HB810 := Lib.hid hb810
  have EW10 := Lib.hid hW10
  obtain ⟨ii, hii⟩ : ∃ ii, Tryd.prog.info? 103 = some ii ∧ ii.zero = some (.agg Z) ∧ ii.size = 99 := by
    obtain ⟨ii, q1, q2, q3, -⟩ := info_parts HINFO.out
    exact ⟨ii, q1, q2, q3⟩
  have HII := Lib.hid hii
  have HZ99 := Lib.hid hzs
  clear hb9 hb10 h10 hb810 hW10 hii HWY1 HWY2 hzs
  go_wp2_with (first
    | (refine wpList_load_mid rfl 103 (.tmp 71) rfl b1 99 rfl C1 _ HR9.out Tryd.underlying103 rfl SZ1.out ?_)
    | (refine wpList_build1 rfl 98 103 (.tmp 72) rfl ii (.agg Z) Tryd.underlying98 HII.out.1 HII.out.2.1 C1 (by rw [HII.out.2.2, L1.out]) (by rw [L1.out]; exact HZ99.out) (by rw [L1.out]; decide) (by rw [L1.out]; decide) rfl ?_))
  rw [← EW10.out]
  refine HC10.out.mono ?_
  rintro _ w11 ⟨rfl, hb11⟩
  obtain ⟨h12, hb12⟩ := new_row w11 56 LZ.toArray LZ.toArray
  have hq11 := HB810.out.trans (hb11.mono HB810.out.size)
  have HQ12 := Lib.hid (hq11.trans (hb12.mono hq11.size))
  clear hb11 hb12 h12 hq11 HC10 EW10
  go_upto_region 11 with (refine wpList_store_row rfl 56 (.tmp 11) (.tmp 75) rfl w11.heap.size LZ.toArray rfl rfl 56 LZ.toArray (heap_alloc_new w11 _) SZPA.out rfl HOZ.out ?_)
  obtain ⟨W12, hW12⟩ : ∃ W, W = (w11.alloc (.cells LZ.toArray 56)).setRow w11.heap.size LZ.toArray := ⟨_, rfl⟩
  rw [← hW12] at HQ12 ⊢
  clear hW12
  have HR2 := Lib.hid (show ∀ v, Below W8.heap.size W8 v → RowsAt LeafT.cells 99 v (some ⟨b2, 0, none⟩) 2 (splitL r2 (placed [y, x])) from fun v hv => JR2.out.below hv)
  have HBX := Lib.hid (show ∀ v, Below W8.heap.size W8 v → Has v B 103 CX.toArray ∧ Has v (B + 1) 103 CY.toArray from fun v hv => ⟨J1.out.below hv J1.out.lt, J2.out.below hv J2.out.lt⟩)
  have hrx : ∀ v, Below W8.heap.size W8 v → v.rangeAt B 0 x.cells := fun v hv => by rw [← ECX.out]; exact (HBX.out v hv).1.row0
  have hry : ∀ v, Below W8.heap.size W8 v → v.rangeAt (B + 1) 0 y.cells := fun v hv => by rw [← ECY.out]; exact (HBX.out v hv).2.row0
  obtain ⟨xi, hxi⟩ : ∃ z, z = x.id := ⟨_, rfl⟩
  obtain ⟨yi, hyi⟩ : ∃ z, z = y.id := ⟨_, rfl⟩
  obtain ⟨xo, hxo⟩ : ∃ z, z = x.ow := ⟨_, rfl⟩
  obtain ⟨yo, hyo⟩ : ∃ z, z = y.ow := ⟨_, rfl⟩
  obtain ⟨xm, hxm⟩ : ∃ z, z = x.am := ⟨_, rfl⟩
  obtain ⟨ym, hym⟩ : ∃ z, z = y.am := ⟨_, rfl⟩
  have hi1 : IsHash xi := by rw [hxi]; exact HOA.out.id
  have hi2 : IsHash yi := by rw [hyi]; exact HOB.out.id
  have hi3 : IsHash xo := by rw [hxo]; exact HOA.out.ow
  have hi4 : IsHash yo := by rw [hyo]; exact HOB.out.ow
  have HI1 := Lib.hid (show ∀ v, Below W8.heap.size W8 v → v.rangeAt B 0 (bcells xi) from fun v hv => by rw [hxi]; exact row_id HOA.out (hrx v hv))
  have HI2 := Lib.hid (show ∀ v, Below W8.heap.size W8 v → v.rangeAt (B + 1) 0 (bcells yi) from fun v hv => by rw [hyi]; exact row_id HOB.out (hry v hv))
  have HI3 := Lib.hid (show ∀ v, Below W8.heap.size W8 v → v.rangeAt B 33 (bcells xo) from fun v hv => by rw [hxo]; simpa using row_ow HOA.out (hrx v hv))
  have HI4 := Lib.hid (show ∀ v, Below W8.heap.size W8 v → v.rangeAt (B + 1) 33 (bcells yo) from fun v hv => by rw [hyo]; simpa using row_ow HOB.out (hry v hv))
  have HC5 := Lib.hid (show ∀ v, Below W8.heap.size W8 v → v.cell? ⟨B, 32, none⟩ = some (.int .u64 (xm : Int)) ∧ v.cell? ⟨B + 1, 32, none⟩ = some (.int .u64 (ym : Int)) from fun v hv => by
    rw [hxm, hym]
    exact ⟨by simpa using row_am HOA.out (hrx v hv), by simpa using row_am HOB.out (hry v hv)⟩)
  have HN1 := Lib.hid (show ∀ v, Below W8.heap.size W8 v → v.rangeAt b1 66 (ndV r1) from fun v hv => by
    have := row_sp K10.out (leaf_row (JR1.out.below hv) HG10.out)
    simpa [spF] using this)
  have HN2 := Lib.hid (show ∀ v, Below W8.heap.size W8 v → v.rangeAt b2 66 (ndV r2) from fun v hv => by
    have := row_sp K20.out (leaf_row (JR2.out.below hv) HG20.out)
    simpa [spF] using this)
  have hr1h : IsHash r1.h := K10.out.sp
  have hr2h : IsHash r2.h := K20.out.sp
  have hcn := nd_any r1 r2 hr1h hr2h
  have SZN1 := Lib.hid (show (Tryd.prog.info? 58).map (·.size) = some (ndV r1).length by rw [ndV_len hr1h]; kernel_rfl)
  have SZN2 := Lib.hid (show (Tryd.prog.info? 58).map (·.size) = some (ndV r2).length by rw [ndV_len hr2h]; kernel_rfl)
  have SZI := Lib.hid (show ∀ z : List Nat, IsHash z → (Tryd.prog.info? 28).map (·.size) = some (bcells z).length from fun z hz => by rw [bcells_length, hz.1]; kernel_rfl)
  have hc1 := hash_eq_at 9998 xi yi hi1 hi2
  have hc3 := hash_eq_at 9998 xo yo hi3 hi4
  have HSAME := Lib.hid (show xi = yi → xo = yo → xm = ym → r1 = r2 from fun e1 e2 e3 => by
    rw [ER1.out, ER2.out]
    have e : partsT KS SS (placed [x, y]) = partsT KS SS (placed [y, x]) := by
      have h : ∀ i, partL KS SS i (plF i x) = partL KS SS i (plF i y) := fun i => by
        show (⟨placeK KS SS i, x.id ++ x.ow, x.am⟩ : Lf) = ⟨placeK KS SS i, y.id ++ y.ow, y.am⟩
        rw [← hxi, ← hyi, ← hxo, ← hyo, ← hxm, ← hym, e1, e2, e3]
      show [partL KS SS 0 (plF 0 x), partL KS SS 1 (plF 1 y)] = [partL KS SS 0 (plF 0 y), partL KS SS 1 (plF 1 x)]
      rw [h 0, h 1]
    rw [e])
  have HFIN := Lib.hid (show ∀ v, Below W8.heap.size W8 v → Below w.heap.size w v from fun v hv => HB4.out.trans ((HB8.out.trans (hv.mono HB8.out.size)).mono HB4.out.size))
  obtain ⟨eqI, heqI⟩ : ∃ z, z = decide (xi = yi) := ⟨_, rfl⟩
  obtain ⟨eqO, heqO⟩ : ∃ z, z = decide (xo = yo) := ⟨_, rfl⟩
  obtain ⟨eqN, heqN⟩ : ∃ z, z = ndSame r1 r2 := ⟨_, rfl⟩
  rw [← heqI] at hc1
  rw [← heqO] at hc3
  rw [← heqN] at hcn
  have QI := Lib.hid heqI
  have QO := Lib.hid heqO
  have QN := Lib.hid heqN
  have HH := Lib.hid (And.intro hi1 (And.intro hi2 (And.intro hi3 hi4)))
  clear hxi hyi hxo hyo hxm hym hrx hry heqI heqO heqN hr1h hr2h hi1 hi2 hi3 hi4
  have hS0 : Below W8.heap.size W8 W12.drew := below_drew HQ12.out
  cases eqI with
  | false =>
    refine wp_region_noPanic ?_
    refine wp_region_held_drew (S := (fun v => Below W8.heap.size W8 v)) (by kernel_rfl) hS0 (fun hH0 => ?_)
    apply wpAnyH_take (i := 0) (v := _) rfl (by kernel_rfl) (by kernel_rfl) (by kernel_rfl) (fun _ _ _ h => h) (Or.inl ⟨by kernel_rfl, ?hv⟩) hH0 ?_
    case hv => intro w' hS; obtain ⟨z0, z1⟩ := HC5.out w' hS; go_simp; try exact rfl
    simp only [Act.put, List.getElem_toArray, List.getElem_cons_zero, List.getElem_cons_succ, List.setIfInBounds_toArray, List.set_cons_zero, List.set_cons_succ]
    apply wpAnyH_take (i := 1) (v := _) rfl (by kernel_rfl) (by kernel_rfl) (by kernel_rfl) (fun _ _ _ h => h) (Or.inl ⟨by kernel_rfl, ?hv⟩) hH0 ?_
    case hv => intro w' hS; obtain ⟨z0, z1⟩ := HC5.out w' hS; go_simp; try exact rfl
    simp only [Act.put, List.getElem_toArray, List.getElem_cons_zero, List.getElem_cons_succ, List.setIfInBounds_toArray, List.set_cons_zero, List.set_cons_succ]
    apply wpAnyH_take (i := 2) (v := _) rfl (by kernel_rfl) (by kernel_rfl) (by kernel_rfl) (fun _ _ _ h => h) (Or.inl ⟨by kernel_rfl, ?hv⟩) hH0 ?_
    case hv => intro w' hS; obtain ⟨z0, z1⟩ := HC5.out w' hS; go_simp; try exact rfl
    simp only [Act.put, List.getElem_toArray, List.getElem_cons_zero, List.getElem_cons_succ, List.setIfInBounds_toArray, List.set_cons_zero, List.set_cons_succ]
    apply wpAnyH_take (i := 3) (v := _) rfl (by kernel_rfl) (by kernel_rfl) (by kernel_rfl) (fun _ _ _ h => h) (Or.inl ⟨by kernel_rfl, ?hv⟩) hH0 ?_
    case hv => intro w' hS; obtain ⟨z0, z1⟩ := HC5.out w' hS; go_simp; try exact rfl
    simp only [Act.put, List.getElem_toArray, List.getElem_cons_zero, List.getElem_cons_succ, List.setIfInBounds_toArray, List.set_cons_zero, List.set_cons_succ]
    apply wpAnyH_take (i := 4) (v := _) rfl (by kernel_rfl) (by kernel_rfl) (by kernel_rfl) (fun _ _ _ h => h) (Or.inl ⟨by kernel_rfl, ?hv⟩) hH0 ?_
    case hv => intro w' hS; obtain ⟨z0, z1⟩ := HC5.out w' hS; go_simp; try exact rfl
    simp only [Act.put, List.getElem_toArray, List.getElem_cons_zero, List.getElem_cons_succ, List.setIfInBounds_toArray, List.set_cons_zero, List.set_cons_succ]
    apply wpAnyH_take (i := 5) (v := _) rfl (by kernel_rfl) (by kernel_rfl) (by kernel_rfl) (fun _ _ _ h => h) (Or.inl ⟨by kernel_rfl, ?hv⟩) hH0 ?_
    case hv => intro w' hS; obtain ⟨z0, z1⟩ := HC5.out w' hS; go_simp; try exact rfl
    simp only [Act.put, List.getElem_toArray, List.getElem_cons_zero, List.getElem_cons_succ, List.setIfInBounds_toArray, List.set_cons_zero, List.set_cons_succ]
    apply wpAnyH_take (i := 6) (v := _) rfl (by kernel_rfl) (by kernel_rfl) (by kernel_rfl) (fun _ _ _ h => h) (Or.inl ⟨by kernel_rfl, ?hv⟩) hH0 ?_
    case hv => intro w' hS; obtain ⟨z0, z1⟩ := HC5.out w' hS; go_simp; try exact rfl
    simp only [Act.put, List.getElem_toArray, List.getElem_cons_zero, List.getElem_cons_succ, List.setIfInBounds_toArray, List.set_cons_zero, List.set_cons_succ]
    apply wpAnyH_take (i := 7) (v := _) rfl (by kernel_rfl) (by kernel_rfl) (by kernel_rfl) (fun _ _ _ h => h) (Or.inl ⟨by kernel_rfl, ?hv⟩) hH0 ?_
    case hv => intro w' hS; obtain ⟨z0, z1⟩ := HC5.out w' hS; go_simp; try exact rfl
    simp only [Act.put, List.getElem_toArray, List.getElem_cons_zero, List.getElem_cons_succ, List.setIfInBounds_toArray, List.set_cons_zero, List.set_cons_succ]
    refine wpAnyH_take (i := 8) (v := (.agg (bcells xi).toArray)) rfl (by kernel_rfl) (by kernel_rfl) (by kernel_rfl) (fun _ _ _ h => h) (yieldsIf_load_mid (by kernel_rfl) 28 (.tmp 84) rfl B 0 rfl (bcells xi) _ (fun w' h => (HI1.out _ h)) Tryd.underlying28 rfl (SZI.out _ HH.out.1)) hH0 ?_
    simp only [Act.put, List.getElem_toArray, List.getElem_cons_zero, List.getElem_cons_succ, List.setIfInBounds_toArray, List.set_cons_zero, List.set_cons_succ]
    apply wpAnyH_take (i := 9) (v := _) rfl (by kernel_rfl) (by kernel_rfl) (by kernel_rfl) (fun _ _ _ h => h) (Or.inl ⟨by kernel_rfl, ?hv⟩) hH0 ?_
    case hv => intro w' hS; obtain ⟨z0, z1⟩ := HC5.out w' hS; go_simp; try exact rfl
    simp only [Act.put, List.getElem_toArray, List.getElem_cons_zero, List.getElem_cons_succ, List.setIfInBounds_toArray, List.set_cons_zero, List.set_cons_succ]
    refine wpAnyH_take (i := 10) (v := (.agg (bcells yi).toArray)) rfl (by kernel_rfl) (by kernel_rfl) (by kernel_rfl) (fun _ _ _ h => h) (yieldsIf_load_mid (by kernel_rfl) 28 (.tmp 86) rfl (B + 1) 0 rfl (bcells yi) _ (fun w' h => (HI2.out _ h)) Tryd.underlying28 rfl (SZI.out _ HH.out.2.1)) hH0 ?_
    simp only [Act.put, List.getElem_toArray, List.getElem_cons_zero, List.getElem_cons_succ, List.setIfInBounds_toArray, List.set_cons_zero, List.set_cons_succ]
    apply wpAnyH_take (i := 11) (v := _) rfl (by kernel_rfl) (by kernel_rfl) (by kernel_rfl) (fun _ _ _ h => h) (Or.inl ⟨by kernel_rfl, ?hv⟩) hH0 ?_
    case hv => intro w' hS; obtain ⟨z0, z1⟩ := HC5.out w' hS; go_simp; try exact rfl
    simp only [Act.put, List.getElem_toArray, List.getElem_cons_zero, List.getElem_cons_succ, List.setIfInBounds_toArray, List.set_cons_zero, List.set_cons_succ]
    apply wpAnyH_take (i := 12) (v := _) rfl (by kernel_rfl) (by kernel_rfl) (by kernel_rfl) (fun _ _ _ h => h) (Or.inl ⟨by kernel_rfl, ?hv⟩) hH0 ?_
    case hv => intro w' hS; obtain ⟨z0, z1⟩ := HC5.out w' hS; go_simp; try exact rfl
    simp only [Act.put, List.getElem_toArray, List.getElem_cons_zero, List.getElem_cons_succ, List.setIfInBounds_toArray, List.set_cons_zero, List.set_cons_succ]
    refine wpAnyH_take (i := 13) (v := undef) rfl (by kernel_rfl) (by kernel_rfl) (by kernel_rfl) (fun _ _ _ h => h) (Or.inr ⟨by kernel_rfl, rfl⟩) hH0 ?_
    simp only [Act.put, List.getElem_toArray, List.getElem_cons_zero, List.getElem_cons_succ, List.setIfInBounds_toArray, List.set_cons_zero, List.set_cons_succ]
    refine wpAnyH_take (i := 14) (v := undef) rfl (by kernel_rfl) (by kernel_rfl) (by kernel_rfl) (fun _ _ _ h => h) (Or.inr ⟨by kernel_rfl, rfl⟩) hH0 ?_
    simp only [Act.put, List.getElem_toArray, List.getElem_cons_zero, List.getElem_cons_succ, List.setIfInBounds_toArray, List.set_cons_zero, List.set_cons_succ]
    refine wpAnyH_take (i := 15) (v := undef) rfl (by kernel_rfl) (by kernel_rfl) (by kernel_rfl) (fun _ _ _ h => h) (Or.inr ⟨by kernel_rfl, rfl⟩) hH0 ?_
    simp only [Act.put, List.getElem_toArray, List.getElem_cons_zero, List.getElem_cons_succ, List.setIfInBounds_toArray, List.set_cons_zero, List.set_cons_succ]
    refine wpAnyH_take (i := 16) (v := undef) rfl (by kernel_rfl) (by kernel_rfl) (by kernel_rfl) (fun _ _ _ h => h) (Or.inr ⟨by kernel_rfl, rfl⟩) hH0 ?_
    simp only [Act.put, List.getElem_toArray, List.getElem_cons_zero, List.getElem_cons_succ, List.setIfInBounds_toArray, List.set_cons_zero, List.set_cons_succ]
    refine wpAnyH_take (i := 17) (v := undef) rfl (by kernel_rfl) (by kernel_rfl) (by kernel_rfl) (fun _ _ _ h => h) (Or.inr ⟨by kernel_rfl, rfl⟩) hH0 ?_
    simp only [Act.put, List.getElem_toArray, List.getElem_cons_zero, List.getElem_cons_succ, List.setIfInBounds_toArray, List.set_cons_zero, List.set_cons_succ]
    apply wpAnyH_take (i := 18) (v := _) rfl (by kernel_rfl) (by kernel_rfl) (by kernel_rfl) (fun _ _ _ h => h) (Or.inl ⟨by kernel_rfl, ?hv⟩) hH0 ?_
    case hv => intro w' hS; obtain ⟨z0, z1⟩ := HC5.out w' hS; go_simp; try exact rfl
    simp only [Act.put, List.getElem_toArray, List.getElem_cons_zero, List.getElem_cons_succ, List.setIfInBounds_toArray, List.set_cons_zero, List.set_cons_succ]
    apply wpAnyH_take (i := 19) (v := _) rfl (by kernel_rfl) (by kernel_rfl) (by kernel_rfl) (fun _ _ _ h => h) (Or.inl ⟨by kernel_rfl, ?hv⟩) hH0 ?_
    case hv => intro w' hS; obtain ⟨z0, z1⟩ := HC5.out w' hS; go_simp; try exact rfl
    simp only [Act.put, List.getElem_toArray, List.getElem_cons_zero, List.getElem_cons_succ, List.setIfInBounds_toArray, List.set_cons_zero, List.set_cons_succ]
    refine wpAnyH_take (i := 20) (v := undef) rfl (by kernel_rfl) (by kernel_rfl) (by kernel_rfl) (fun _ _ _ h => h) (Or.inr ⟨by kernel_rfl, rfl⟩) hH0 ?_
    simp only [Act.put, List.getElem_toArray, List.getElem_cons_zero, List.getElem_cons_succ, List.setIfInBounds_toArray, List.set_cons_zero, List.set_cons_succ]
    refine wpAnyH_take (i := 21) (v := undef) rfl (by kernel_rfl) (by kernel_rfl) (by kernel_rfl) (fun _ _ _ h => h) (Or.inr ⟨by kernel_rfl, rfl⟩) hH0 ?_
    simp only [Act.put, List.getElem_toArray, List.getElem_cons_zero, List.getElem_cons_succ, List.setIfInBounds_toArray, List.set_cons_zero, List.set_cons_succ]
    refine wpAnyH_take (i := 22) (v := undef) rfl (by kernel_rfl) (by kernel_rfl) (by kernel_rfl) (fun _ _ _ h => h) (Or.inr ⟨by kernel_rfl, rfl⟩) hH0 ?_
    simp only [Act.put, List.getElem_toArray, List.getElem_cons_zero, List.getElem_cons_succ, List.setIfInBounds_toArray, List.set_cons_zero, List.set_cons_succ]
    refine wpAnyH_take (i := 23) (v := undef) rfl (by kernel_rfl) (by kernel_rfl) (by kernel_rfl) (fun _ _ _ h => h) (Or.inr ⟨by kernel_rfl, rfl⟩) hH0 ?_
    simp only [Act.put, List.getElem_toArray, List.getElem_cons_zero, List.getElem_cons_succ, List.setIfInBounds_toArray, List.set_cons_zero, List.set_cons_succ]
    refine wpAnyH_take (i := 24) (v := undef) rfl (by kernel_rfl) (by kernel_rfl) (by kernel_rfl) (fun _ _ _ h => h) (Or.inr ⟨by kernel_rfl, rfl⟩) hH0 ?_
    simp only [Act.put, List.getElem_toArray, List.getElem_cons_zero, List.getElem_cons_succ, List.setIfInBounds_toArray, List.set_cons_zero, List.set_cons_succ]
    apply wpAnyH_take (i := 25) (v := _) rfl (by kernel_rfl) (by kernel_rfl) (by kernel_rfl) (fun _ _ _ h => h) (Or.inl ⟨by kernel_rfl, ?hv⟩) hH0 ?_
    case hv => intro w' hS; obtain ⟨z0, z1⟩ := HC5.out w' hS; go_simp; try exact rfl
    simp only [Act.put, List.getElem_toArray, List.getElem_cons_zero, List.getElem_cons_succ, List.setIfInBounds_toArray, List.set_cons_zero, List.set_cons_succ]
    apply wpAnyH_take (i := 26) (v := _) rfl (by kernel_rfl) (by kernel_rfl) (by kernel_rfl) (fun _ _ _ h => h) (Or.inl ⟨by kernel_rfl, ?hv⟩) hH0 ?_
    case hv => intro w' hS; obtain ⟨z0, z1⟩ := HC5.out w' hS; go_simp; try exact rfl
    simp only [Act.put, List.getElem_toArray, List.getElem_cons_zero, List.getElem_cons_succ, List.setIfInBounds_toArray, List.set_cons_zero, List.set_cons_succ]
    refine wpAnyH_take (i := 27) (v := undef) rfl (by kernel_rfl) (by kernel_rfl) (by kernel_rfl) (fun _ _ _ h => h) (Or.inr ⟨by kernel_rfl, rfl⟩) hH0 ?_
    simp only [Act.put, List.getElem_toArray, List.getElem_cons_zero, List.getElem_cons_succ, List.setIfInBounds_toArray, List.set_cons_zero, List.set_cons_succ]
    refine wpAnyH_take (i := 28) (v := undef) rfl (by kernel_rfl) (by kernel_rfl) (by kernel_rfl) (fun _ _ _ h => h) (Or.inr ⟨by kernel_rfl, rfl⟩) hH0 ?_
    simp only [Act.put, List.getElem_toArray, List.getElem_cons_zero, List.getElem_cons_succ, List.setIfInBounds_toArray, List.set_cons_zero, List.set_cons_succ]
    refine wpAnyH_take (i := 29) (v := undef) rfl (by kernel_rfl) (by kernel_rfl) (by kernel_rfl) (fun _ _ _ h => h) (Or.inr ⟨by kernel_rfl, rfl⟩) hH0 ?_
    simp only [Act.put, List.getElem_toArray, List.getElem_cons_zero, List.getElem_cons_succ, List.setIfInBounds_toArray, List.set_cons_zero, List.set_cons_succ]
    refine wpAnyH_take (i := 30) (v := undef) rfl (by kernel_rfl) (by kernel_rfl) (by kernel_rfl) (fun _ _ _ h => h) (Or.inr ⟨by kernel_rfl, rfl⟩) hH0 ?_
    simp only [Act.put, List.getElem_toArray, List.getElem_cons_zero, List.getElem_cons_succ, List.setIfInBounds_toArray, List.set_cons_zero, List.set_cons_succ]
    refine wpAnyH_take (i := 31) (v := undef) rfl (by kernel_rfl) (by kernel_rfl) (by kernel_rfl) (fun _ _ _ h => h) (Or.inr ⟨by kernel_rfl, rfl⟩) hH0 ?_
    simp only [Act.put, List.getElem_toArray, List.getElem_cons_zero, List.getElem_cons_succ, List.setIfInBounds_toArray, List.set_cons_zero, List.set_cons_succ]
    refine wpAnyH_take (i := 32) (v := undef) rfl (by kernel_rfl) (by kernel_rfl) (by kernel_rfl) (fun _ _ _ h => h) (Or.inr ⟨by kernel_rfl, rfl⟩) hH0 ?_
    simp only [Act.put, List.getElem_toArray, List.getElem_cons_zero, List.getElem_cons_succ, List.setIfInBounds_toArray, List.set_cons_zero, List.set_cons_succ]
    refine wpAnyH_take (i := 33) (v := undef) rfl (by kernel_rfl) (by kernel_rfl) (by kernel_rfl) (fun _ _ _ h => h) (Or.inr ⟨by kernel_rfl, rfl⟩) hH0 ?_
    simp only [Act.put, List.getElem_toArray, List.getElem_cons_zero, List.getElem_cons_succ, List.setIfInBounds_toArray, List.set_cons_zero, List.set_cons_succ]
    refine wpAnyH_take (i := 34) (v := undef) rfl (by kernel_rfl) (by kernel_rfl) (by kernel_rfl) (fun _ _ _ h => h) (Or.inr ⟨by kernel_rfl, rfl⟩) hH0 ?_
    simp only [Act.put, List.getElem_toArray, List.getElem_cons_zero, List.getElem_cons_succ, List.setIfInBounds_toArray, List.set_cons_zero, List.set_cons_succ]
    refine wpAnyH_take (i := 35) (v := undef) rfl (by kernel_rfl) (by kernel_rfl) (by kernel_rfl) (fun _ _ _ h => h) (Or.inr ⟨by kernel_rfl, rfl⟩) hH0 ?_
    simp only [Act.put, List.getElem_toArray, List.getElem_cons_zero, List.getElem_cons_succ, List.setIfInBounds_toArray, List.set_cons_zero, List.set_cons_succ]
    apply wpAnyH_take (i := 36) (v := _) rfl (by kernel_rfl) (by kernel_rfl) (by kernel_rfl) (fun _ _ _ h => h) (Or.inl ⟨by kernel_rfl, ?hv⟩) hH0 ?_
    case hv => intro w' hS; obtain ⟨z0, z1⟩ := HC5.out w' hS; go_simp; try exact rfl
    simp only [Act.put, List.getElem_toArray, List.getElem_cons_zero, List.getElem_cons_succ, List.setIfInBounds_toArray, List.set_cons_zero, List.set_cons_succ]
    apply wpAnyH_take (i := 37) (v := _) rfl (by kernel_rfl) (by kernel_rfl) (by kernel_rfl) (fun _ _ _ h => h) (Or.inl ⟨by kernel_rfl, ?hv⟩) hH0 ?_
    case hv => intro w' hS; obtain ⟨z0, z1⟩ := HC5.out w' hS; go_simp; try exact rfl
    simp only [Act.put, List.getElem_toArray, List.getElem_cons_zero, List.getElem_cons_succ, List.setIfInBounds_toArray, List.set_cons_zero, List.set_cons_succ]
    apply wpAnyH_take (i := 38) (v := _) rfl (by kernel_rfl) (by kernel_rfl) (by kernel_rfl) (fun _ _ _ h => h) (Or.inl ⟨by kernel_rfl, ?hv⟩) hH0 ?_
    case hv => intro w' hS; obtain ⟨z0, z1⟩ := HC5.out w' hS; go_simp; try exact rfl
    simp only [Act.put, List.getElem_toArray, List.getElem_cons_zero, List.getElem_cons_succ, List.setIfInBounds_toArray, List.set_cons_zero, List.set_cons_succ]
    refine wpAnyH_done (by kernel_rfl) ?_ _
    refine NoPanic.normal ?_
    have HFX := Lib.hid (HFIN.out _ hS0)
    clear hS0
    go_wp2_with fail
    go_ret
    exact ⟨rfl, HFX.out⟩
  | true =>
    cases eqO with
    | false =>
      refine wp_region_noPanic ?_
      refine wp_region_held_drew (S := (fun v => Below W8.heap.size W8 v)) (by kernel_rfl) hS0 (fun hH0 => ?_)
      apply wpAnyH_take (i := 0) (v := _) rfl (by kernel_rfl) (by kernel_rfl) (by kernel_rfl) (fun _ _ _ h => h) (Or.inl ⟨by kernel_rfl, ?hv⟩) hH0 ?_
      case hv => intro w' hS; obtain ⟨z0, z1⟩ := HC5.out w' hS; go_simp; try exact rfl
      simp only [Act.put, List.getElem_toArray, List.getElem_cons_zero, List.getElem_cons_succ, List.setIfInBounds_toArray, List.set_cons_zero, List.set_cons_succ]
      apply wpAnyH_take (i := 1) (v := _) rfl (by kernel_rfl) (by kernel_rfl) (by kernel_rfl) (fun _ _ _ h => h) (Or.inl ⟨by kernel_rfl, ?hv⟩) hH0 ?_
      case hv => intro w' hS; obtain ⟨z0, z1⟩ := HC5.out w' hS; go_simp; try exact rfl
      simp only [Act.put, List.getElem_toArray, List.getElem_cons_zero, List.getElem_cons_succ, List.setIfInBounds_toArray, List.set_cons_zero, List.set_cons_succ]
      apply wpAnyH_take (i := 2) (v := _) rfl (by kernel_rfl) (by kernel_rfl) (by kernel_rfl) (fun _ _ _ h => h) (Or.inl ⟨by kernel_rfl, ?hv⟩) hH0 ?_
      case hv => intro w' hS; obtain ⟨z0, z1⟩ := HC5.out w' hS; go_simp; try exact rfl
      simp only [Act.put, List.getElem_toArray, List.getElem_cons_zero, List.getElem_cons_succ, List.setIfInBounds_toArray, List.set_cons_zero, List.set_cons_succ]
      apply wpAnyH_take (i := 3) (v := _) rfl (by kernel_rfl) (by kernel_rfl) (by kernel_rfl) (fun _ _ _ h => h) (Or.inl ⟨by kernel_rfl, ?hv⟩) hH0 ?_
      case hv => intro w' hS; obtain ⟨z0, z1⟩ := HC5.out w' hS; go_simp; try exact rfl
      simp only [Act.put, List.getElem_toArray, List.getElem_cons_zero, List.getElem_cons_succ, List.setIfInBounds_toArray, List.set_cons_zero, List.set_cons_succ]
      apply wpAnyH_take (i := 4) (v := _) rfl (by kernel_rfl) (by kernel_rfl) (by kernel_rfl) (fun _ _ _ h => h) (Or.inl ⟨by kernel_rfl, ?hv⟩) hH0 ?_
      case hv => intro w' hS; obtain ⟨z0, z1⟩ := HC5.out w' hS; go_simp; try exact rfl
      simp only [Act.put, List.getElem_toArray, List.getElem_cons_zero, List.getElem_cons_succ, List.setIfInBounds_toArray, List.set_cons_zero, List.set_cons_succ]
      apply wpAnyH_take (i := 5) (v := _) rfl (by kernel_rfl) (by kernel_rfl) (by kernel_rfl) (fun _ _ _ h => h) (Or.inl ⟨by kernel_rfl, ?hv⟩) hH0 ?_
      case hv => intro w' hS; obtain ⟨z0, z1⟩ := HC5.out w' hS; go_simp; try exact rfl
      simp only [Act.put, List.getElem_toArray, List.getElem_cons_zero, List.getElem_cons_succ, List.setIfInBounds_toArray, List.set_cons_zero, List.set_cons_succ]
      apply wpAnyH_take (i := 6) (v := _) rfl (by kernel_rfl) (by kernel_rfl) (by kernel_rfl) (fun _ _ _ h => h) (Or.inl ⟨by kernel_rfl, ?hv⟩) hH0 ?_
      case hv => intro w' hS; obtain ⟨z0, z1⟩ := HC5.out w' hS; go_simp; try exact rfl
      simp only [Act.put, List.getElem_toArray, List.getElem_cons_zero, List.getElem_cons_succ, List.setIfInBounds_toArray, List.set_cons_zero, List.set_cons_succ]
      apply wpAnyH_take (i := 7) (v := _) rfl (by kernel_rfl) (by kernel_rfl) (by kernel_rfl) (fun _ _ _ h => h) (Or.inl ⟨by kernel_rfl, ?hv⟩) hH0 ?_
      case hv => intro w' hS; obtain ⟨z0, z1⟩ := HC5.out w' hS; go_simp; try exact rfl
      simp only [Act.put, List.getElem_toArray, List.getElem_cons_zero, List.getElem_cons_succ, List.setIfInBounds_toArray, List.set_cons_zero, List.set_cons_succ]
      refine wpAnyH_take (i := 8) (v := (.agg (bcells xi).toArray)) rfl (by kernel_rfl) (by kernel_rfl) (by kernel_rfl) (fun _ _ _ h => h) (yieldsIf_load_mid (by kernel_rfl) 28 (.tmp 84) rfl B 0 rfl (bcells xi) _ (fun w' h => (HI1.out _ h)) Tryd.underlying28 rfl (SZI.out _ HH.out.1)) hH0 ?_
      simp only [Act.put, List.getElem_toArray, List.getElem_cons_zero, List.getElem_cons_succ, List.setIfInBounds_toArray, List.set_cons_zero, List.set_cons_succ]
      apply wpAnyH_take (i := 9) (v := _) rfl (by kernel_rfl) (by kernel_rfl) (by kernel_rfl) (fun _ _ _ h => h) (Or.inl ⟨by kernel_rfl, ?hv⟩) hH0 ?_
      case hv => intro w' hS; obtain ⟨z0, z1⟩ := HC5.out w' hS; go_simp; try exact rfl
      simp only [Act.put, List.getElem_toArray, List.getElem_cons_zero, List.getElem_cons_succ, List.setIfInBounds_toArray, List.set_cons_zero, List.set_cons_succ]
      refine wpAnyH_take (i := 10) (v := (.agg (bcells yi).toArray)) rfl (by kernel_rfl) (by kernel_rfl) (by kernel_rfl) (fun _ _ _ h => h) (yieldsIf_load_mid (by kernel_rfl) 28 (.tmp 86) rfl (B + 1) 0 rfl (bcells yi) _ (fun w' h => (HI2.out _ h)) Tryd.underlying28 rfl (SZI.out _ HH.out.2.1)) hH0 ?_
      simp only [Act.put, List.getElem_toArray, List.getElem_cons_zero, List.getElem_cons_succ, List.setIfInBounds_toArray, List.set_cons_zero, List.set_cons_succ]
      apply wpAnyH_take (i := 11) (v := _) rfl (by kernel_rfl) (by kernel_rfl) (by kernel_rfl) (fun _ _ _ h => h) (Or.inl ⟨by kernel_rfl, ?hv⟩) hH0 ?_
      case hv => intro w' hS; obtain ⟨z0, z1⟩ := HC5.out w' hS; go_simp; try exact rfl
      simp only [Act.put, List.getElem_toArray, List.getElem_cons_zero, List.getElem_cons_succ, List.setIfInBounds_toArray, List.set_cons_zero, List.set_cons_succ]
      apply wpAnyH_take (i := 12) (v := _) rfl (by kernel_rfl) (by kernel_rfl) (by kernel_rfl) (fun _ _ _ h => h) (Or.inl ⟨by kernel_rfl, ?hv⟩) hH0 ?_
      case hv => intro w' hS; obtain ⟨z0, z1⟩ := HC5.out w' hS; go_simp; try exact rfl
      simp only [Act.put, List.getElem_toArray, List.getElem_cons_zero, List.getElem_cons_succ, List.setIfInBounds_toArray, List.set_cons_zero, List.set_cons_succ]
      apply wpAnyH_take (i := 13) (v := _) rfl (by kernel_rfl) (by kernel_rfl) (by kernel_rfl) (fun _ _ _ h => h) (Or.inl ⟨by kernel_rfl, ?hv⟩) hH0 ?_
      case hv => intro w' hS; obtain ⟨z0, z1⟩ := HC5.out w' hS; go_simp; try exact rfl
      simp only [Act.put, List.getElem_toArray, List.getElem_cons_zero, List.getElem_cons_succ, List.setIfInBounds_toArray, List.set_cons_zero, List.set_cons_succ]
      refine wpAnyH_take (i := 14) (v := (.agg (bcells xo).toArray)) rfl (by kernel_rfl) (by kernel_rfl) (by kernel_rfl) (fun _ _ _ h => h) (yieldsIf_load_mid (by kernel_rfl) 28 (.tmp 90) rfl B 33 rfl (bcells xo) _ (fun w' h => (HI3.out _ h)) Tryd.underlying28 rfl (SZI.out _ HH.out.2.2.1)) hH0 ?_
      simp only [Act.put, List.getElem_toArray, List.getElem_cons_zero, List.getElem_cons_succ, List.setIfInBounds_toArray, List.set_cons_zero, List.set_cons_succ]
      apply wpAnyH_take (i := 15) (v := _) rfl (by kernel_rfl) (by kernel_rfl) (by kernel_rfl) (fun _ _ _ h => h) (Or.inl ⟨by kernel_rfl, ?hv⟩) hH0 ?_
      case hv => intro w' hS; obtain ⟨z0, z1⟩ := HC5.out w' hS; go_simp; try exact rfl
      simp only [Act.put, List.getElem_toArray, List.getElem_cons_zero, List.getElem_cons_succ, List.setIfInBounds_toArray, List.set_cons_zero, List.set_cons_succ]
      refine wpAnyH_take (i := 16) (v := (.agg (bcells yo).toArray)) rfl (by kernel_rfl) (by kernel_rfl) (by kernel_rfl) (fun _ _ _ h => h) (yieldsIf_load_mid (by kernel_rfl) 28 (.tmp 92) rfl (B + 1) 33 rfl (bcells yo) _ (fun w' h => (HI4.out _ h)) Tryd.underlying28 rfl (SZI.out _ HH.out.2.2.2)) hH0 ?_
      simp only [Act.put, List.getElem_toArray, List.getElem_cons_zero, List.getElem_cons_succ, List.setIfInBounds_toArray, List.set_cons_zero, List.set_cons_succ]
      apply wpAnyH_take (i := 17) (v := _) rfl (by kernel_rfl) (by kernel_rfl) (by kernel_rfl) (fun _ _ _ h => h) (Or.inl ⟨by kernel_rfl, ?hv⟩) hH0 ?_
      case hv => intro w' hS; obtain ⟨z0, z1⟩ := HC5.out w' hS; go_simp; try exact rfl
      simp only [Act.put, List.getElem_toArray, List.getElem_cons_zero, List.getElem_cons_succ, List.setIfInBounds_toArray, List.set_cons_zero, List.set_cons_succ]
      apply wpAnyH_take (i := 18) (v := _) rfl (by kernel_rfl) (by kernel_rfl) (by kernel_rfl) (fun _ _ _ h => h) (Or.inl ⟨by kernel_rfl, ?hv⟩) hH0 ?_
      case hv => intro w' hS; obtain ⟨z0, z1⟩ := HC5.out w' hS; go_simp; try exact rfl
      simp only [Act.put, List.getElem_toArray, List.getElem_cons_zero, List.getElem_cons_succ, List.setIfInBounds_toArray, List.set_cons_zero, List.set_cons_succ]
      apply wpAnyH_take (i := 19) (v := _) rfl (by kernel_rfl) (by kernel_rfl) (by kernel_rfl) (fun _ _ _ h => h) (Or.inl ⟨by kernel_rfl, ?hv⟩) hH0 ?_
      case hv => intro w' hS; obtain ⟨z0, z1⟩ := HC5.out w' hS; go_simp; try exact rfl
      simp only [Act.put, List.getElem_toArray, List.getElem_cons_zero, List.getElem_cons_succ, List.setIfInBounds_toArray, List.set_cons_zero, List.set_cons_succ]
      refine wpAnyH_take (i := 20) (v := undef) rfl (by kernel_rfl) (by kernel_rfl) (by kernel_rfl) (fun _ _ _ h => h) (Or.inr ⟨by kernel_rfl, rfl⟩) hH0 ?_
      simp only [Act.put, List.getElem_toArray, List.getElem_cons_zero, List.getElem_cons_succ, List.setIfInBounds_toArray, List.set_cons_zero, List.set_cons_succ]
      refine wpAnyH_take (i := 21) (v := undef) rfl (by kernel_rfl) (by kernel_rfl) (by kernel_rfl) (fun _ _ _ h => h) (Or.inr ⟨by kernel_rfl, rfl⟩) hH0 ?_
      simp only [Act.put, List.getElem_toArray, List.getElem_cons_zero, List.getElem_cons_succ, List.setIfInBounds_toArray, List.set_cons_zero, List.set_cons_succ]
      refine wpAnyH_take (i := 22) (v := undef) rfl (by kernel_rfl) (by kernel_rfl) (by kernel_rfl) (fun _ _ _ h => h) (Or.inr ⟨by kernel_rfl, rfl⟩) hH0 ?_
      simp only [Act.put, List.getElem_toArray, List.getElem_cons_zero, List.getElem_cons_succ, List.setIfInBounds_toArray, List.set_cons_zero, List.set_cons_succ]
      refine wpAnyH_take (i := 23) (v := undef) rfl (by kernel_rfl) (by kernel_rfl) (by kernel_rfl) (fun _ _ _ h => h) (Or.inr ⟨by kernel_rfl, rfl⟩) hH0 ?_
      simp only [Act.put, List.getElem_toArray, List.getElem_cons_zero, List.getElem_cons_succ, List.setIfInBounds_toArray, List.set_cons_zero, List.set_cons_succ]
      refine wpAnyH_take (i := 24) (v := undef) rfl (by kernel_rfl) (by kernel_rfl) (by kernel_rfl) (fun _ _ _ h => h) (Or.inr ⟨by kernel_rfl, rfl⟩) hH0 ?_
      simp only [Act.put, List.getElem_toArray, List.getElem_cons_zero, List.getElem_cons_succ, List.setIfInBounds_toArray, List.set_cons_zero, List.set_cons_succ]
      apply wpAnyH_take (i := 25) (v := _) rfl (by kernel_rfl) (by kernel_rfl) (by kernel_rfl) (fun _ _ _ h => h) (Or.inl ⟨by kernel_rfl, ?hv⟩) hH0 ?_
      case hv => intro w' hS; obtain ⟨z0, z1⟩ := HC5.out w' hS; go_simp; try exact rfl
      simp only [Act.put, List.getElem_toArray, List.getElem_cons_zero, List.getElem_cons_succ, List.setIfInBounds_toArray, List.set_cons_zero, List.set_cons_succ]
      apply wpAnyH_take (i := 26) (v := _) rfl (by kernel_rfl) (by kernel_rfl) (by kernel_rfl) (fun _ _ _ h => h) (Or.inl ⟨by kernel_rfl, ?hv⟩) hH0 ?_
      case hv => intro w' hS; obtain ⟨z0, z1⟩ := HC5.out w' hS; go_simp; try exact rfl
      simp only [Act.put, List.getElem_toArray, List.getElem_cons_zero, List.getElem_cons_succ, List.setIfInBounds_toArray, List.set_cons_zero, List.set_cons_succ]
      refine wpAnyH_take (i := 27) (v := undef) rfl (by kernel_rfl) (by kernel_rfl) (by kernel_rfl) (fun _ _ _ h => h) (Or.inr ⟨by kernel_rfl, rfl⟩) hH0 ?_
      simp only [Act.put, List.getElem_toArray, List.getElem_cons_zero, List.getElem_cons_succ, List.setIfInBounds_toArray, List.set_cons_zero, List.set_cons_succ]
      refine wpAnyH_take (i := 28) (v := undef) rfl (by kernel_rfl) (by kernel_rfl) (by kernel_rfl) (fun _ _ _ h => h) (Or.inr ⟨by kernel_rfl, rfl⟩) hH0 ?_
      simp only [Act.put, List.getElem_toArray, List.getElem_cons_zero, List.getElem_cons_succ, List.setIfInBounds_toArray, List.set_cons_zero, List.set_cons_succ]
      refine wpAnyH_take (i := 29) (v := undef) rfl (by kernel_rfl) (by kernel_rfl) (by kernel_rfl) (fun _ _ _ h => h) (Or.inr ⟨by kernel_rfl, rfl⟩) hH0 ?_
      simp only [Act.put, List.getElem_toArray, List.getElem_cons_zero, List.getElem_cons_succ, List.setIfInBounds_toArray, List.set_cons_zero, List.set_cons_succ]
      refine wpAnyH_take (i := 30) (v := undef) rfl (by kernel_rfl) (by kernel_rfl) (by kernel_rfl) (fun _ _ _ h => h) (Or.inr ⟨by kernel_rfl, rfl⟩) hH0 ?_
      simp only [Act.put, List.getElem_toArray, List.getElem_cons_zero, List.getElem_cons_succ, List.setIfInBounds_toArray, List.set_cons_zero, List.set_cons_succ]
      refine wpAnyH_take (i := 31) (v := undef) rfl (by kernel_rfl) (by kernel_rfl) (by kernel_rfl) (fun _ _ _ h => h) (Or.inr ⟨by kernel_rfl, rfl⟩) hH0 ?_
      simp only [Act.put, List.getElem_toArray, List.getElem_cons_zero, List.getElem_cons_succ, List.setIfInBounds_toArray, List.set_cons_zero, List.set_cons_succ]
      refine wpAnyH_take (i := 32) (v := undef) rfl (by kernel_rfl) (by kernel_rfl) (by kernel_rfl) (fun _ _ _ h => h) (Or.inr ⟨by kernel_rfl, rfl⟩) hH0 ?_
      simp only [Act.put, List.getElem_toArray, List.getElem_cons_zero, List.getElem_cons_succ, List.setIfInBounds_toArray, List.set_cons_zero, List.set_cons_succ]
      refine wpAnyH_take (i := 33) (v := undef) rfl (by kernel_rfl) (by kernel_rfl) (by kernel_rfl) (fun _ _ _ h => h) (Or.inr ⟨by kernel_rfl, rfl⟩) hH0 ?_
      simp only [Act.put, List.getElem_toArray, List.getElem_cons_zero, List.getElem_cons_succ, List.setIfInBounds_toArray, List.set_cons_zero, List.set_cons_succ]
      refine wpAnyH_take (i := 34) (v := undef) rfl (by kernel_rfl) (by kernel_rfl) (by kernel_rfl) (fun _ _ _ h => h) (Or.inr ⟨by kernel_rfl, rfl⟩) hH0 ?_
      simp only [Act.put, List.getElem_toArray, List.getElem_cons_zero, List.getElem_cons_succ, List.setIfInBounds_toArray, List.set_cons_zero, List.set_cons_succ]
      refine wpAnyH_take (i := 35) (v := undef) rfl (by kernel_rfl) (by kernel_rfl) (by kernel_rfl) (fun _ _ _ h => h) (Or.inr ⟨by kernel_rfl, rfl⟩) hH0 ?_
      simp only [Act.put, List.getElem_toArray, List.getElem_cons_zero, List.getElem_cons_succ, List.setIfInBounds_toArray, List.set_cons_zero, List.set_cons_succ]
      apply wpAnyH_take (i := 36) (v := _) rfl (by kernel_rfl) (by kernel_rfl) (by kernel_rfl) (fun _ _ _ h => h) (Or.inl ⟨by kernel_rfl, ?hv⟩) hH0 ?_
      case hv => intro w' hS; obtain ⟨z0, z1⟩ := HC5.out w' hS; go_simp; try exact rfl
      simp only [Act.put, List.getElem_toArray, List.getElem_cons_zero, List.getElem_cons_succ, List.setIfInBounds_toArray, List.set_cons_zero, List.set_cons_succ]
      apply wpAnyH_take (i := 37) (v := _) rfl (by kernel_rfl) (by kernel_rfl) (by kernel_rfl) (fun _ _ _ h => h) (Or.inl ⟨by kernel_rfl, ?hv⟩) hH0 ?_
      case hv => intro w' hS; obtain ⟨z0, z1⟩ := HC5.out w' hS; go_simp; try exact rfl
      simp only [Act.put, List.getElem_toArray, List.getElem_cons_zero, List.getElem_cons_succ, List.setIfInBounds_toArray, List.set_cons_zero, List.set_cons_succ]
      apply wpAnyH_take (i := 38) (v := _) rfl (by kernel_rfl) (by kernel_rfl) (by kernel_rfl) (fun _ _ _ h => h) (Or.inl ⟨by kernel_rfl, ?hv⟩) hH0 ?_
      case hv => intro w' hS; obtain ⟨z0, z1⟩ := HC5.out w' hS; go_simp; try exact rfl
      simp only [Act.put, List.getElem_toArray, List.getElem_cons_zero, List.getElem_cons_succ, List.setIfInBounds_toArray, List.set_cons_zero, List.set_cons_succ]
      refine wpAnyH_done (by kernel_rfl) ?_ _
      refine NoPanic.normal ?_
      have HFX := Lib.hid (HFIN.out _ hS0)
      clear hS0
      go_wp2_with fail
      go_ret
      exact ⟨rfl, HFX.out⟩
    | true =>
      by_cases hmm : xm = ym
      · have hnn := HSAME.out (of_decide_eq_true QI.out.symm) (of_decide_eq_true QO.out.symm) hmm
        obtain rfl : eqN = true := by rw [QN.out]; exact ndSame_iff.2 hnn
        have hmm' : ((xm : Int) != (ym : Int)) = false := by rw [bne_eq_false_iff_eq]; omega
        clear hmm hnn
        refine wp_region_noPanic ?_
        refine wp_region_held_drew (S := (fun v => Below W8.heap.size W8 v)) (by kernel_rfl) hS0 (fun hH0 => ?_)
        apply wpAnyH_take (i := 0) (v := _) rfl (by kernel_rfl) (by kernel_rfl) (by kernel_rfl) (fun _ _ _ h => h) (Or.inl ⟨by kernel_rfl, ?hv⟩) hH0 ?_
        case hv => intro w' hS; obtain ⟨z0, z1⟩ := HC5.out w' hS; go_simp; try exact rfl
        simp only [Act.put, List.getElem_toArray, List.getElem_cons_zero, List.getElem_cons_succ, List.setIfInBounds_toArray, List.set_cons_zero, List.set_cons_succ]
        apply wpAnyH_take (i := 1) (v := _) rfl (by kernel_rfl) (by kernel_rfl) (by kernel_rfl) (fun _ _ _ h => h) (Or.inl ⟨by kernel_rfl, ?hv⟩) hH0 ?_
        case hv => intro w' hS; obtain ⟨z0, z1⟩ := HC5.out w' hS; go_simp; try exact rfl
        simp only [Act.put, List.getElem_toArray, List.getElem_cons_zero, List.getElem_cons_succ, List.setIfInBounds_toArray, List.set_cons_zero, List.set_cons_succ]
        apply wpAnyH_take (i := 2) (v := _) rfl (by kernel_rfl) (by kernel_rfl) (by kernel_rfl) (fun _ _ _ h => h) (Or.inl ⟨by kernel_rfl, ?hv⟩) hH0 ?_
        case hv => intro w' hS; obtain ⟨z0, z1⟩ := HC5.out w' hS; go_simp; try exact rfl
        simp only [Act.put, List.getElem_toArray, List.getElem_cons_zero, List.getElem_cons_succ, List.setIfInBounds_toArray, List.set_cons_zero, List.set_cons_succ]
        apply wpAnyH_take (i := 3) (v := _) rfl (by kernel_rfl) (by kernel_rfl) (by kernel_rfl) (fun _ _ _ h => h) (Or.inl ⟨by kernel_rfl, ?hv⟩) hH0 ?_
        case hv => intro w' hS; obtain ⟨z0, z1⟩ := HC5.out w' hS; go_simp; try exact rfl
        simp only [Act.put, List.getElem_toArray, List.getElem_cons_zero, List.getElem_cons_succ, List.setIfInBounds_toArray, List.set_cons_zero, List.set_cons_succ]
        apply wpAnyH_take (i := 4) (v := _) rfl (by kernel_rfl) (by kernel_rfl) (by kernel_rfl) (fun _ _ _ h => h) (Or.inl ⟨by kernel_rfl, ?hv⟩) hH0 ?_
        case hv => intro w' hS; obtain ⟨z0, z1⟩ := HC5.out w' hS; go_simp; try exact rfl
        simp only [Act.put, List.getElem_toArray, List.getElem_cons_zero, List.getElem_cons_succ, List.setIfInBounds_toArray, List.set_cons_zero, List.set_cons_succ]
        apply wpAnyH_take (i := 5) (v := _) rfl (by kernel_rfl) (by kernel_rfl) (by kernel_rfl) (fun _ _ _ h => h) (Or.inl ⟨by kernel_rfl, ?hv⟩) hH0 ?_
        case hv => intro w' hS; obtain ⟨z0, z1⟩ := HC5.out w' hS; go_simp; try exact rfl
        simp only [Act.put, List.getElem_toArray, List.getElem_cons_zero, List.getElem_cons_succ, List.setIfInBounds_toArray, List.set_cons_zero, List.set_cons_succ]
        apply wpAnyH_take (i := 6) (v := _) rfl (by kernel_rfl) (by kernel_rfl) (by kernel_rfl) (fun _ _ _ h => h) (Or.inl ⟨by kernel_rfl, ?hv⟩) hH0 ?_
        case hv => intro w' hS; obtain ⟨z0, z1⟩ := HC5.out w' hS; go_simp; try exact rfl
        simp only [Act.put, List.getElem_toArray, List.getElem_cons_zero, List.getElem_cons_succ, List.setIfInBounds_toArray, List.set_cons_zero, List.set_cons_succ]
        apply wpAnyH_take (i := 7) (v := _) rfl (by kernel_rfl) (by kernel_rfl) (by kernel_rfl) (fun _ _ _ h => h) (Or.inl ⟨by kernel_rfl, ?hv⟩) hH0 ?_
        case hv => intro w' hS; obtain ⟨z0, z1⟩ := HC5.out w' hS; go_simp; try exact rfl
        simp only [Act.put, List.getElem_toArray, List.getElem_cons_zero, List.getElem_cons_succ, List.setIfInBounds_toArray, List.set_cons_zero, List.set_cons_succ]
        refine wpAnyH_take (i := 8) (v := (.agg (bcells xi).toArray)) rfl (by kernel_rfl) (by kernel_rfl) (by kernel_rfl) (fun _ _ _ h => h) (yieldsIf_load_mid (by kernel_rfl) 28 (.tmp 84) rfl B 0 rfl (bcells xi) _ (fun w' h => (HI1.out _ h)) Tryd.underlying28 rfl (SZI.out _ HH.out.1)) hH0 ?_
        simp only [Act.put, List.getElem_toArray, List.getElem_cons_zero, List.getElem_cons_succ, List.setIfInBounds_toArray, List.set_cons_zero, List.set_cons_succ]
        apply wpAnyH_take (i := 9) (v := _) rfl (by kernel_rfl) (by kernel_rfl) (by kernel_rfl) (fun _ _ _ h => h) (Or.inl ⟨by kernel_rfl, ?hv⟩) hH0 ?_
        case hv => intro w' hS; obtain ⟨z0, z1⟩ := HC5.out w' hS; go_simp; try exact rfl
        simp only [Act.put, List.getElem_toArray, List.getElem_cons_zero, List.getElem_cons_succ, List.setIfInBounds_toArray, List.set_cons_zero, List.set_cons_succ]
        refine wpAnyH_take (i := 10) (v := (.agg (bcells yi).toArray)) rfl (by kernel_rfl) (by kernel_rfl) (by kernel_rfl) (fun _ _ _ h => h) (yieldsIf_load_mid (by kernel_rfl) 28 (.tmp 86) rfl (B + 1) 0 rfl (bcells yi) _ (fun w' h => (HI2.out _ h)) Tryd.underlying28 rfl (SZI.out _ HH.out.2.1)) hH0 ?_
        simp only [Act.put, List.getElem_toArray, List.getElem_cons_zero, List.getElem_cons_succ, List.setIfInBounds_toArray, List.set_cons_zero, List.set_cons_succ]
        apply wpAnyH_take (i := 11) (v := _) rfl (by kernel_rfl) (by kernel_rfl) (by kernel_rfl) (fun _ _ _ h => h) (Or.inl ⟨by kernel_rfl, ?hv⟩) hH0 ?_
        case hv => intro w' hS; obtain ⟨z0, z1⟩ := HC5.out w' hS; go_simp; try exact rfl
        simp only [Act.put, List.getElem_toArray, List.getElem_cons_zero, List.getElem_cons_succ, List.setIfInBounds_toArray, List.set_cons_zero, List.set_cons_succ]
        apply wpAnyH_take (i := 12) (v := _) rfl (by kernel_rfl) (by kernel_rfl) (by kernel_rfl) (fun _ _ _ h => h) (Or.inl ⟨by kernel_rfl, ?hv⟩) hH0 ?_
        case hv => intro w' hS; obtain ⟨z0, z1⟩ := HC5.out w' hS; go_simp; try exact rfl
        simp only [Act.put, List.getElem_toArray, List.getElem_cons_zero, List.getElem_cons_succ, List.setIfInBounds_toArray, List.set_cons_zero, List.set_cons_succ]
        apply wpAnyH_take (i := 13) (v := _) rfl (by kernel_rfl) (by kernel_rfl) (by kernel_rfl) (fun _ _ _ h => h) (Or.inl ⟨by kernel_rfl, ?hv⟩) hH0 ?_
        case hv => intro w' hS; obtain ⟨z0, z1⟩ := HC5.out w' hS; go_simp; try exact rfl
        simp only [Act.put, List.getElem_toArray, List.getElem_cons_zero, List.getElem_cons_succ, List.setIfInBounds_toArray, List.set_cons_zero, List.set_cons_succ]
        refine wpAnyH_take (i := 14) (v := (.agg (bcells xo).toArray)) rfl (by kernel_rfl) (by kernel_rfl) (by kernel_rfl) (fun _ _ _ h => h) (yieldsIf_load_mid (by kernel_rfl) 28 (.tmp 90) rfl B 33 rfl (bcells xo) _ (fun w' h => (HI3.out _ h)) Tryd.underlying28 rfl (SZI.out _ HH.out.2.2.1)) hH0 ?_
        simp only [Act.put, List.getElem_toArray, List.getElem_cons_zero, List.getElem_cons_succ, List.setIfInBounds_toArray, List.set_cons_zero, List.set_cons_succ]
        apply wpAnyH_take (i := 15) (v := _) rfl (by kernel_rfl) (by kernel_rfl) (by kernel_rfl) (fun _ _ _ h => h) (Or.inl ⟨by kernel_rfl, ?hv⟩) hH0 ?_
        case hv => intro w' hS; obtain ⟨z0, z1⟩ := HC5.out w' hS; go_simp; try exact rfl
        simp only [Act.put, List.getElem_toArray, List.getElem_cons_zero, List.getElem_cons_succ, List.setIfInBounds_toArray, List.set_cons_zero, List.set_cons_succ]
        refine wpAnyH_take (i := 16) (v := (.agg (bcells yo).toArray)) rfl (by kernel_rfl) (by kernel_rfl) (by kernel_rfl) (fun _ _ _ h => h) (yieldsIf_load_mid (by kernel_rfl) 28 (.tmp 92) rfl (B + 1) 33 rfl (bcells yo) _ (fun w' h => (HI4.out _ h)) Tryd.underlying28 rfl (SZI.out _ HH.out.2.2.2)) hH0 ?_
        simp only [Act.put, List.getElem_toArray, List.getElem_cons_zero, List.getElem_cons_succ, List.setIfInBounds_toArray, List.set_cons_zero, List.set_cons_succ]
        apply wpAnyH_take (i := 17) (v := _) rfl (by kernel_rfl) (by kernel_rfl) (by kernel_rfl) (fun _ _ _ h => h) (Or.inl ⟨by kernel_rfl, ?hv⟩) hH0 ?_
        case hv => intro w' hS; obtain ⟨z0, z1⟩ := HC5.out w' hS; go_simp; try exact rfl
        simp only [Act.put, List.getElem_toArray, List.getElem_cons_zero, List.getElem_cons_succ, List.setIfInBounds_toArray, List.set_cons_zero, List.set_cons_succ]
        apply wpAnyH_take (i := 18) (v := _) rfl (by kernel_rfl) (by kernel_rfl) (by kernel_rfl) (fun _ _ _ h => h) (Or.inl ⟨by kernel_rfl, ?hv⟩) hH0 ?_
        case hv => intro w' hS; obtain ⟨z0, z1⟩ := HC5.out w' hS; go_simp; try exact rfl
        simp only [Act.put, List.getElem_toArray, List.getElem_cons_zero, List.getElem_cons_succ, List.setIfInBounds_toArray, List.set_cons_zero, List.set_cons_succ]
        apply wpAnyH_take (i := 19) (v := _) rfl (by kernel_rfl) (by kernel_rfl) (by kernel_rfl) (fun _ _ _ h => h) (Or.inl ⟨by kernel_rfl, ?hv⟩) hH0 ?_
        case hv => intro w' hS; obtain ⟨z0, z1⟩ := HC5.out w' hS; go_simp; try exact rfl
        simp only [Act.put, List.getElem_toArray, List.getElem_cons_zero, List.getElem_cons_succ, List.setIfInBounds_toArray, List.set_cons_zero, List.set_cons_succ]
        apply wpAnyH_take (i := 20) (v := _) rfl (by kernel_rfl) (by kernel_rfl) (by kernel_rfl) (fun _ _ _ h => h) (Or.inl ⟨by kernel_rfl, ?hv⟩) hH0 ?_
        case hv => intro w' hS; obtain ⟨z0, z1⟩ := HC5.out w' hS; go_simp; try exact rfl
        simp only [Act.put, List.getElem_toArray, List.getElem_cons_zero, List.getElem_cons_succ, List.setIfInBounds_toArray, List.set_cons_zero, List.set_cons_succ]
        apply wpAnyH_take (i := 21) (v := _) rfl (by kernel_rfl) (by kernel_rfl) (by kernel_rfl) (fun _ _ _ h => h) (Or.inl ⟨by kernel_rfl, ?hv⟩) hH0 ?_
        case hv => intro w' hS; obtain ⟨z0, z1⟩ := HC5.out w' hS; go_simp; try exact rfl
        simp only [Act.put, List.getElem_toArray, List.getElem_cons_zero, List.getElem_cons_succ, List.setIfInBounds_toArray, List.set_cons_zero, List.set_cons_succ]
        apply wpAnyH_take (i := 22) (v := _) rfl (by kernel_rfl) (by kernel_rfl) (by kernel_rfl) (fun _ _ _ h => h) (Or.inl ⟨by kernel_rfl, ?hv⟩) hH0 ?_
        case hv => intro w' hS; obtain ⟨z0, z1⟩ := HC5.out w' hS; go_simp; try exact rfl
        simp only [Act.put, List.getElem_toArray, List.getElem_cons_zero, List.getElem_cons_succ, List.setIfInBounds_toArray, List.set_cons_zero, List.set_cons_succ]
        apply wpAnyH_take (i := 23) (v := _) rfl (by kernel_rfl) (by kernel_rfl) (by kernel_rfl) (fun _ _ _ h => h) (Or.inl ⟨by kernel_rfl, ?hv⟩) hH0 ?_
        case hv => intro w' hS; obtain ⟨z0, z1⟩ := HC5.out w' hS; go_simp; try exact rfl
        simp only [Act.put, List.getElem_toArray, List.getElem_cons_zero, List.getElem_cons_succ, List.setIfInBounds_toArray, List.set_cons_zero, List.set_cons_succ]
        apply wpAnyH_take (i := 24) (v := _) rfl (by kernel_rfl) (by kernel_rfl) (by kernel_rfl) (fun _ _ _ h => h) (Or.inl ⟨by kernel_rfl, ?hv⟩) hH0 ?_
        case hv => intro w' hS; obtain ⟨z0, z1⟩ := HC5.out w' hS; go_simp; try exact rfl
        simp only [Act.put, List.getElem_toArray, List.getElem_cons_zero, List.getElem_cons_succ, List.setIfInBounds_toArray, List.set_cons_zero, List.set_cons_succ]
        apply wpAnyH_take (i := 25) (v := _) rfl (by kernel_rfl) (by kernel_rfl) (by kernel_rfl) (fun _ _ _ h => h) (Or.inl ⟨by kernel_rfl, ?hv⟩) hH0 ?_
        case hv => intro w' hS; obtain ⟨z0, z1⟩ := HC5.out w' hS; go_simp; try exact rfl
        simp only [Act.put, List.getElem_toArray, List.getElem_cons_zero, List.getElem_cons_succ, List.setIfInBounds_toArray, List.set_cons_zero, List.set_cons_succ]
        apply wpAnyH_take (i := 26) (v := _) rfl (by kernel_rfl) (by kernel_rfl) (by kernel_rfl) (fun _ _ _ h => h) (Or.inl ⟨by kernel_rfl, ?hv⟩) hH0 ?_
        case hv => intro w' hS; obtain ⟨z0, z1⟩ := HC5.out w' hS; go_simp; try exact rfl
        simp only [Act.put, List.getElem_toArray, List.getElem_cons_zero, List.getElem_cons_succ, List.setIfInBounds_toArray, List.set_cons_zero, List.set_cons_succ]
        apply wpAnyH_take (i := 27) (v := _) rfl (by kernel_rfl) (by kernel_rfl) (by kernel_rfl) (fun _ _ _ h => h) (Or.inl ⟨by kernel_rfl, ?hv⟩) hH0 ?_
        case hv => intro w' hS; obtain ⟨z0, z1⟩ := HC5.out w' hS; go_simp; try exact rfl
        simp only [Act.put, List.getElem_toArray, List.getElem_cons_zero, List.getElem_cons_succ, List.setIfInBounds_toArray, List.set_cons_zero, List.set_cons_succ]
        apply wpAnyH_take (i := 28) (v := _) rfl (by kernel_rfl) (by kernel_rfl) (by kernel_rfl) (fun _ _ _ h => h) (Or.inl ⟨by kernel_rfl, ?hv⟩) hH0 ?_
        case hv => intro w' hS; obtain ⟨z0, z1⟩ := HC5.out w' hS; go_simp; try exact rfl
        simp only [Act.put, List.getElem_toArray, List.getElem_cons_zero, List.getElem_cons_succ, List.setIfInBounds_toArray, List.set_cons_zero, List.set_cons_succ]
        apply wpAnyH_take (i := 29) (v := _) rfl (by kernel_rfl) (by kernel_rfl) (by kernel_rfl) (fun _ _ _ h => h) (Or.inl ⟨by kernel_rfl, ?hv⟩) hH0 ?_
        case hv => intro w' hS; obtain ⟨z0, z1⟩ := HC5.out w' hS; go_simp; try exact rfl
        simp only [Act.put, List.getElem_toArray, List.getElem_cons_zero, List.getElem_cons_succ, List.setIfInBounds_toArray, List.set_cons_zero, List.set_cons_succ]
        refine wpAnyH_take (i := 30) (v := (.agg (ndV r1).toArray)) rfl (by kernel_rfl) (by kernel_rfl) (by kernel_rfl) (fun _ _ _ h => h) (yieldsIf_load_mid (by kernel_rfl) 58 (.tmp 106) rfl b1 66 rfl (ndV r1) _ (fun w' h => (HN1.out _ h)) Tryd.underlying58 rfl SZN1.out) hH0 ?_
        simp only [Act.put, List.getElem_toArray, List.getElem_cons_zero, List.getElem_cons_succ, List.setIfInBounds_toArray, List.set_cons_zero, List.set_cons_succ]
        apply wpAnyH_take (i := 31) (v := _) rfl (by kernel_rfl) (by kernel_rfl) (by kernel_rfl) (fun _ _ _ h => h) (Or.inl ⟨by kernel_rfl, ?hv⟩) hH0 ?_
        case hv => intro w' hS; obtain ⟨z0, z1⟩ := HC5.out w' hS; go_simp; try exact rfl
        simp only [Act.put, List.getElem_toArray, List.getElem_cons_zero, List.getElem_cons_succ, List.setIfInBounds_toArray, List.set_cons_zero, List.set_cons_succ]
        apply wpAnyH_take (i := 32) (v := _) rfl (by kernel_rfl) (by kernel_rfl) (by kernel_rfl) (fun _ _ _ h => h) (Or.inl ⟨by kernel_rfl, ?hv⟩) hH0 ?_
        case hv => intro w' hS; obtain ⟨z0, z1⟩ := HC5.out w' hS; go_simp; try exact rfl
        simp only [Act.put, List.getElem_toArray, List.getElem_cons_zero, List.getElem_cons_succ, List.setIfInBounds_toArray, List.set_cons_zero, List.set_cons_succ]
        apply wpAnyH_take (i := 33) (v := _) rfl (by kernel_rfl) (by kernel_rfl) (by kernel_rfl) (fun _ _ _ h => h) (Or.inl ⟨by kernel_rfl, ?hv⟩) hH0 ?_
        case hv => intro w' hS; obtain ⟨z0, z1⟩ := HC5.out w' hS; go_simp; try exact rfl
        simp only [Act.put, List.getElem_toArray, List.getElem_cons_zero, List.getElem_cons_succ, List.setIfInBounds_toArray, List.set_cons_zero, List.set_cons_succ]
        refine wpAnyH_take (i := 34) (v := (.agg (ndV r2).toArray)) rfl (by kernel_rfl) (by kernel_rfl) (by kernel_rfl) (fun _ _ _ h => h) (yieldsIf_load_mid (by kernel_rfl) 58 (.tmp 110) rfl b2 66 rfl (ndV r2) _ (fun w' h => (HN2.out _ h)) Tryd.underlying58 rfl SZN2.out) hH0 ?_
        simp only [Act.put, List.getElem_toArray, List.getElem_cons_zero, List.getElem_cons_succ, List.setIfInBounds_toArray, List.set_cons_zero, List.set_cons_succ]
        apply wpAnyH_take (i := 35) (v := _) rfl (by kernel_rfl) (by kernel_rfl) (by kernel_rfl) (fun _ _ _ h => h) (Or.inl ⟨by kernel_rfl, ?hv⟩) hH0 ?_
        case hv => intro w' hS; obtain ⟨z0, z1⟩ := HC5.out w' hS; go_simp; try exact rfl
        simp only [Act.put, List.getElem_toArray, List.getElem_cons_zero, List.getElem_cons_succ, List.setIfInBounds_toArray, List.set_cons_zero, List.set_cons_succ]
        apply wpAnyH_take (i := 36) (v := _) rfl (by kernel_rfl) (by kernel_rfl) (by kernel_rfl) (fun _ _ _ h => h) (Or.inl ⟨by kernel_rfl, ?hv⟩) hH0 ?_
        case hv => intro w' hS; obtain ⟨z0, z1⟩ := HC5.out w' hS; go_simp; try exact rfl
        simp only [Act.put, List.getElem_toArray, List.getElem_cons_zero, List.getElem_cons_succ, List.setIfInBounds_toArray, List.set_cons_zero, List.set_cons_succ]
        apply wpAnyH_take (i := 37) (v := _) rfl (by kernel_rfl) (by kernel_rfl) (by kernel_rfl) (fun _ _ _ h => h) (Or.inl ⟨by kernel_rfl, ?hv⟩) hH0 ?_
        case hv => intro w' hS; obtain ⟨z0, z1⟩ := HC5.out w' hS; go_simp; try exact rfl
        simp only [Act.put, List.getElem_toArray, List.getElem_cons_zero, List.getElem_cons_succ, List.setIfInBounds_toArray, List.set_cons_zero, List.set_cons_succ]
        apply wpAnyH_take (i := 38) (v := _) rfl (by kernel_rfl) (by kernel_rfl) (by kernel_rfl) (fun _ _ _ h => h) (Or.inl ⟨by kernel_rfl, ?hv⟩) hH0 ?_
        case hv => intro w' hS; obtain ⟨z0, z1⟩ := HC5.out w' hS; go_simp; try exact rfl
        simp only [Act.put, List.getElem_toArray, List.getElem_cons_zero, List.getElem_cons_succ, List.setIfInBounds_toArray, List.set_cons_zero, List.set_cons_succ]
        refine wpAnyH_done (by kernel_rfl) ?_ _
        refine NoPanic.normal ?_
        have HFX := Lib.hid (HFIN.out _ hS0)
        clear hS0
        go_wp2_with fail
        go_ret
        exact ⟨rfl, HFX.out⟩
      · have hmm' : ((xm : Int) != (ym : Int)) = true := by rw [bne_iff_ne]; omega
        clear hmm
        refine wp_region_noPanic ?_
        refine wp_region_held_drew (S := (fun v => Below W8.heap.size W8 v)) (by kernel_rfl) hS0 (fun hH0 => ?_)
        apply wpAnyH_take (i := 0) (v := _) rfl (by kernel_rfl) (by kernel_rfl) (by kernel_rfl) (fun _ _ _ h => h) (Or.inl ⟨by kernel_rfl, ?hv⟩) hH0 ?_
        case hv => intro w' hS; obtain ⟨z0, z1⟩ := HC5.out w' hS; go_simp; try exact rfl
        simp only [Act.put, List.getElem_toArray, List.getElem_cons_zero, List.getElem_cons_succ, List.setIfInBounds_toArray, List.set_cons_zero, List.set_cons_succ]
        apply wpAnyH_take (i := 1) (v := _) rfl (by kernel_rfl) (by kernel_rfl) (by kernel_rfl) (fun _ _ _ h => h) (Or.inl ⟨by kernel_rfl, ?hv⟩) hH0 ?_
        case hv => intro w' hS; obtain ⟨z0, z1⟩ := HC5.out w' hS; go_simp; try exact rfl
        simp only [Act.put, List.getElem_toArray, List.getElem_cons_zero, List.getElem_cons_succ, List.setIfInBounds_toArray, List.set_cons_zero, List.set_cons_succ]
        apply wpAnyH_take (i := 2) (v := _) rfl (by kernel_rfl) (by kernel_rfl) (by kernel_rfl) (fun _ _ _ h => h) (Or.inl ⟨by kernel_rfl, ?hv⟩) hH0 ?_
        case hv => intro w' hS; obtain ⟨z0, z1⟩ := HC5.out w' hS; go_simp; try exact rfl
        simp only [Act.put, List.getElem_toArray, List.getElem_cons_zero, List.getElem_cons_succ, List.setIfInBounds_toArray, List.set_cons_zero, List.set_cons_succ]
        apply wpAnyH_take (i := 3) (v := _) rfl (by kernel_rfl) (by kernel_rfl) (by kernel_rfl) (fun _ _ _ h => h) (Or.inl ⟨by kernel_rfl, ?hv⟩) hH0 ?_
        case hv => intro w' hS; obtain ⟨z0, z1⟩ := HC5.out w' hS; go_simp; try exact rfl
        simp only [Act.put, List.getElem_toArray, List.getElem_cons_zero, List.getElem_cons_succ, List.setIfInBounds_toArray, List.set_cons_zero, List.set_cons_succ]
        apply wpAnyH_take (i := 4) (v := _) rfl (by kernel_rfl) (by kernel_rfl) (by kernel_rfl) (fun _ _ _ h => h) (Or.inl ⟨by kernel_rfl, ?hv⟩) hH0 ?_
        case hv => intro w' hS; obtain ⟨z0, z1⟩ := HC5.out w' hS; go_simp; try exact rfl
        simp only [Act.put, List.getElem_toArray, List.getElem_cons_zero, List.getElem_cons_succ, List.setIfInBounds_toArray, List.set_cons_zero, List.set_cons_succ]
        apply wpAnyH_take (i := 5) (v := _) rfl (by kernel_rfl) (by kernel_rfl) (by kernel_rfl) (fun _ _ _ h => h) (Or.inl ⟨by kernel_rfl, ?hv⟩) hH0 ?_
        case hv => intro w' hS; obtain ⟨z0, z1⟩ := HC5.out w' hS; go_simp; try exact rfl
        simp only [Act.put, List.getElem_toArray, List.getElem_cons_zero, List.getElem_cons_succ, List.setIfInBounds_toArray, List.set_cons_zero, List.set_cons_succ]
        apply wpAnyH_take (i := 6) (v := _) rfl (by kernel_rfl) (by kernel_rfl) (by kernel_rfl) (fun _ _ _ h => h) (Or.inl ⟨by kernel_rfl, ?hv⟩) hH0 ?_
        case hv => intro w' hS; obtain ⟨z0, z1⟩ := HC5.out w' hS; go_simp; try exact rfl
        simp only [Act.put, List.getElem_toArray, List.getElem_cons_zero, List.getElem_cons_succ, List.setIfInBounds_toArray, List.set_cons_zero, List.set_cons_succ]
        apply wpAnyH_take (i := 7) (v := _) rfl (by kernel_rfl) (by kernel_rfl) (by kernel_rfl) (fun _ _ _ h => h) (Or.inl ⟨by kernel_rfl, ?hv⟩) hH0 ?_
        case hv => intro w' hS; obtain ⟨z0, z1⟩ := HC5.out w' hS; go_simp; try exact rfl
        simp only [Act.put, List.getElem_toArray, List.getElem_cons_zero, List.getElem_cons_succ, List.setIfInBounds_toArray, List.set_cons_zero, List.set_cons_succ]
        refine wpAnyH_take (i := 8) (v := (.agg (bcells xi).toArray)) rfl (by kernel_rfl) (by kernel_rfl) (by kernel_rfl) (fun _ _ _ h => h) (yieldsIf_load_mid (by kernel_rfl) 28 (.tmp 84) rfl B 0 rfl (bcells xi) _ (fun w' h => (HI1.out _ h)) Tryd.underlying28 rfl (SZI.out _ HH.out.1)) hH0 ?_
        simp only [Act.put, List.getElem_toArray, List.getElem_cons_zero, List.getElem_cons_succ, List.setIfInBounds_toArray, List.set_cons_zero, List.set_cons_succ]
        apply wpAnyH_take (i := 9) (v := _) rfl (by kernel_rfl) (by kernel_rfl) (by kernel_rfl) (fun _ _ _ h => h) (Or.inl ⟨by kernel_rfl, ?hv⟩) hH0 ?_
        case hv => intro w' hS; obtain ⟨z0, z1⟩ := HC5.out w' hS; go_simp; try exact rfl
        simp only [Act.put, List.getElem_toArray, List.getElem_cons_zero, List.getElem_cons_succ, List.setIfInBounds_toArray, List.set_cons_zero, List.set_cons_succ]
        refine wpAnyH_take (i := 10) (v := (.agg (bcells yi).toArray)) rfl (by kernel_rfl) (by kernel_rfl) (by kernel_rfl) (fun _ _ _ h => h) (yieldsIf_load_mid (by kernel_rfl) 28 (.tmp 86) rfl (B + 1) 0 rfl (bcells yi) _ (fun w' h => (HI2.out _ h)) Tryd.underlying28 rfl (SZI.out _ HH.out.2.1)) hH0 ?_
        simp only [Act.put, List.getElem_toArray, List.getElem_cons_zero, List.getElem_cons_succ, List.setIfInBounds_toArray, List.set_cons_zero, List.set_cons_succ]
        apply wpAnyH_take (i := 11) (v := _) rfl (by kernel_rfl) (by kernel_rfl) (by kernel_rfl) (fun _ _ _ h => h) (Or.inl ⟨by kernel_rfl, ?hv⟩) hH0 ?_
        case hv => intro w' hS; obtain ⟨z0, z1⟩ := HC5.out w' hS; go_simp; try exact rfl
        simp only [Act.put, List.getElem_toArray, List.getElem_cons_zero, List.getElem_cons_succ, List.setIfInBounds_toArray, List.set_cons_zero, List.set_cons_succ]
        apply wpAnyH_take (i := 12) (v := _) rfl (by kernel_rfl) (by kernel_rfl) (by kernel_rfl) (fun _ _ _ h => h) (Or.inl ⟨by kernel_rfl, ?hv⟩) hH0 ?_
        case hv => intro w' hS; obtain ⟨z0, z1⟩ := HC5.out w' hS; go_simp; try exact rfl
        simp only [Act.put, List.getElem_toArray, List.getElem_cons_zero, List.getElem_cons_succ, List.setIfInBounds_toArray, List.set_cons_zero, List.set_cons_succ]
        apply wpAnyH_take (i := 13) (v := _) rfl (by kernel_rfl) (by kernel_rfl) (by kernel_rfl) (fun _ _ _ h => h) (Or.inl ⟨by kernel_rfl, ?hv⟩) hH0 ?_
        case hv => intro w' hS; obtain ⟨z0, z1⟩ := HC5.out w' hS; go_simp; try exact rfl
        simp only [Act.put, List.getElem_toArray, List.getElem_cons_zero, List.getElem_cons_succ, List.setIfInBounds_toArray, List.set_cons_zero, List.set_cons_succ]
        refine wpAnyH_take (i := 14) (v := (.agg (bcells xo).toArray)) rfl (by kernel_rfl) (by kernel_rfl) (by kernel_rfl) (fun _ _ _ h => h) (yieldsIf_load_mid (by kernel_rfl) 28 (.tmp 90) rfl B 33 rfl (bcells xo) _ (fun w' h => (HI3.out _ h)) Tryd.underlying28 rfl (SZI.out _ HH.out.2.2.1)) hH0 ?_
        simp only [Act.put, List.getElem_toArray, List.getElem_cons_zero, List.getElem_cons_succ, List.setIfInBounds_toArray, List.set_cons_zero, List.set_cons_succ]
        apply wpAnyH_take (i := 15) (v := _) rfl (by kernel_rfl) (by kernel_rfl) (by kernel_rfl) (fun _ _ _ h => h) (Or.inl ⟨by kernel_rfl, ?hv⟩) hH0 ?_
        case hv => intro w' hS; obtain ⟨z0, z1⟩ := HC5.out w' hS; go_simp; try exact rfl
        simp only [Act.put, List.getElem_toArray, List.getElem_cons_zero, List.getElem_cons_succ, List.setIfInBounds_toArray, List.set_cons_zero, List.set_cons_succ]
        refine wpAnyH_take (i := 16) (v := (.agg (bcells yo).toArray)) rfl (by kernel_rfl) (by kernel_rfl) (by kernel_rfl) (fun _ _ _ h => h) (yieldsIf_load_mid (by kernel_rfl) 28 (.tmp 92) rfl (B + 1) 33 rfl (bcells yo) _ (fun w' h => (HI4.out _ h)) Tryd.underlying28 rfl (SZI.out _ HH.out.2.2.2)) hH0 ?_
        simp only [Act.put, List.getElem_toArray, List.getElem_cons_zero, List.getElem_cons_succ, List.setIfInBounds_toArray, List.set_cons_zero, List.set_cons_succ]
        apply wpAnyH_take (i := 17) (v := _) rfl (by kernel_rfl) (by kernel_rfl) (by kernel_rfl) (fun _ _ _ h => h) (Or.inl ⟨by kernel_rfl, ?hv⟩) hH0 ?_
        case hv => intro w' hS; obtain ⟨z0, z1⟩ := HC5.out w' hS; go_simp; try exact rfl
        simp only [Act.put, List.getElem_toArray, List.getElem_cons_zero, List.getElem_cons_succ, List.setIfInBounds_toArray, List.set_cons_zero, List.set_cons_succ]
        apply wpAnyH_take (i := 18) (v := _) rfl (by kernel_rfl) (by kernel_rfl) (by kernel_rfl) (fun _ _ _ h => h) (Or.inl ⟨by kernel_rfl, ?hv⟩) hH0 ?_
        case hv => intro w' hS; obtain ⟨z0, z1⟩ := HC5.out w' hS; go_simp; try exact rfl
        simp only [Act.put, List.getElem_toArray, List.getElem_cons_zero, List.getElem_cons_succ, List.setIfInBounds_toArray, List.set_cons_zero, List.set_cons_succ]
        apply wpAnyH_take (i := 19) (v := _) rfl (by kernel_rfl) (by kernel_rfl) (by kernel_rfl) (fun _ _ _ h => h) (Or.inl ⟨by kernel_rfl, ?hv⟩) hH0 ?_
        case hv => intro w' hS; obtain ⟨z0, z1⟩ := HC5.out w' hS; go_simp; try exact rfl
        simp only [Act.put, List.getElem_toArray, List.getElem_cons_zero, List.getElem_cons_succ, List.setIfInBounds_toArray, List.set_cons_zero, List.set_cons_succ]
        apply wpAnyH_take (i := 20) (v := _) rfl (by kernel_rfl) (by kernel_rfl) (by kernel_rfl) (fun _ _ _ h => h) (Or.inl ⟨by kernel_rfl, ?hv⟩) hH0 ?_
        case hv => intro w' hS; obtain ⟨z0, z1⟩ := HC5.out w' hS; go_simp; try exact rfl
        simp only [Act.put, List.getElem_toArray, List.getElem_cons_zero, List.getElem_cons_succ, List.setIfInBounds_toArray, List.set_cons_zero, List.set_cons_succ]
        apply wpAnyH_take (i := 21) (v := _) rfl (by kernel_rfl) (by kernel_rfl) (by kernel_rfl) (fun _ _ _ h => h) (Or.inl ⟨by kernel_rfl, ?hv⟩) hH0 ?_
        case hv => intro w' hS; obtain ⟨z0, z1⟩ := HC5.out w' hS; go_simp; try exact rfl
        simp only [Act.put, List.getElem_toArray, List.getElem_cons_zero, List.getElem_cons_succ, List.setIfInBounds_toArray, List.set_cons_zero, List.set_cons_succ]
        apply wpAnyH_take (i := 22) (v := _) rfl (by kernel_rfl) (by kernel_rfl) (by kernel_rfl) (fun _ _ _ h => h) (Or.inl ⟨by kernel_rfl, ?hv⟩) hH0 ?_
        case hv => intro w' hS; obtain ⟨z0, z1⟩ := HC5.out w' hS; go_simp; try exact rfl
        simp only [Act.put, List.getElem_toArray, List.getElem_cons_zero, List.getElem_cons_succ, List.setIfInBounds_toArray, List.set_cons_zero, List.set_cons_succ]
        apply wpAnyH_take (i := 23) (v := _) rfl (by kernel_rfl) (by kernel_rfl) (by kernel_rfl) (fun _ _ _ h => h) (Or.inl ⟨by kernel_rfl, ?hv⟩) hH0 ?_
        case hv => intro w' hS; obtain ⟨z0, z1⟩ := HC5.out w' hS; go_simp; try exact rfl
        simp only [Act.put, List.getElem_toArray, List.getElem_cons_zero, List.getElem_cons_succ, List.setIfInBounds_toArray, List.set_cons_zero, List.set_cons_succ]
        apply wpAnyH_take (i := 24) (v := _) rfl (by kernel_rfl) (by kernel_rfl) (by kernel_rfl) (fun _ _ _ h => h) (Or.inl ⟨by kernel_rfl, ?hv⟩) hH0 ?_
        case hv => intro w' hS; obtain ⟨z0, z1⟩ := HC5.out w' hS; go_simp; try exact rfl
        simp only [Act.put, List.getElem_toArray, List.getElem_cons_zero, List.getElem_cons_succ, List.setIfInBounds_toArray, List.set_cons_zero, List.set_cons_succ]
        apply wpAnyH_take (i := 25) (v := _) rfl (by kernel_rfl) (by kernel_rfl) (by kernel_rfl) (fun _ _ _ h => h) (Or.inl ⟨by kernel_rfl, ?hv⟩) hH0 ?_
        case hv => intro w' hS; obtain ⟨z0, z1⟩ := HC5.out w' hS; go_simp; try exact rfl
        simp only [Act.put, List.getElem_toArray, List.getElem_cons_zero, List.getElem_cons_succ, List.setIfInBounds_toArray, List.set_cons_zero, List.set_cons_succ]
        apply wpAnyH_take (i := 26) (v := _) rfl (by kernel_rfl) (by kernel_rfl) (by kernel_rfl) (fun _ _ _ h => h) (Or.inl ⟨by kernel_rfl, ?hv⟩) hH0 ?_
        case hv => intro w' hS; obtain ⟨z0, z1⟩ := HC5.out w' hS; go_simp; try exact rfl
        simp only [Act.put, List.getElem_toArray, List.getElem_cons_zero, List.getElem_cons_succ, List.setIfInBounds_toArray, List.set_cons_zero, List.set_cons_succ]
        refine wpAnyH_take (i := 27) (v := undef) rfl (by kernel_rfl) (by kernel_rfl) (by kernel_rfl) (fun _ _ _ h => h) (Or.inr ⟨by kernel_rfl, rfl⟩) hH0 ?_
        simp only [Act.put, List.getElem_toArray, List.getElem_cons_zero, List.getElem_cons_succ, List.setIfInBounds_toArray, List.set_cons_zero, List.set_cons_succ]
        refine wpAnyH_take (i := 28) (v := undef) rfl (by kernel_rfl) (by kernel_rfl) (by kernel_rfl) (fun _ _ _ h => h) (Or.inr ⟨by kernel_rfl, rfl⟩) hH0 ?_
        simp only [Act.put, List.getElem_toArray, List.getElem_cons_zero, List.getElem_cons_succ, List.setIfInBounds_toArray, List.set_cons_zero, List.set_cons_succ]
        refine wpAnyH_take (i := 29) (v := undef) rfl (by kernel_rfl) (by kernel_rfl) (by kernel_rfl) (fun _ _ _ h => h) (Or.inr ⟨by kernel_rfl, rfl⟩) hH0 ?_
        simp only [Act.put, List.getElem_toArray, List.getElem_cons_zero, List.getElem_cons_succ, List.setIfInBounds_toArray, List.set_cons_zero, List.set_cons_succ]
        refine wpAnyH_take (i := 30) (v := undef) rfl (by kernel_rfl) (by kernel_rfl) (by kernel_rfl) (fun _ _ _ h => h) (Or.inr ⟨by kernel_rfl, rfl⟩) hH0 ?_
        simp only [Act.put, List.getElem_toArray, List.getElem_cons_zero, List.getElem_cons_succ, List.setIfInBounds_toArray, List.set_cons_zero, List.set_cons_succ]
        refine wpAnyH_take (i := 31) (v := undef) rfl (by kernel_rfl) (by kernel_rfl) (by kernel_rfl) (fun _ _ _ h => h) (Or.inr ⟨by kernel_rfl, rfl⟩) hH0 ?_
        simp only [Act.put, List.getElem_toArray, List.getElem_cons_zero, List.getElem_cons_succ, List.setIfInBounds_toArray, List.set_cons_zero, List.set_cons_succ]
        refine wpAnyH_take (i := 32) (v := undef) rfl (by kernel_rfl) (by kernel_rfl) (by kernel_rfl) (fun _ _ _ h => h) (Or.inr ⟨by kernel_rfl, rfl⟩) hH0 ?_
        simp only [Act.put, List.getElem_toArray, List.getElem_cons_zero, List.getElem_cons_succ, List.setIfInBounds_toArray, List.set_cons_zero, List.set_cons_succ]
        refine wpAnyH_take (i := 33) (v := undef) rfl (by kernel_rfl) (by kernel_rfl) (by kernel_rfl) (fun _ _ _ h => h) (Or.inr ⟨by kernel_rfl, rfl⟩) hH0 ?_
        simp only [Act.put, List.getElem_toArray, List.getElem_cons_zero, List.getElem_cons_succ, List.setIfInBounds_toArray, List.set_cons_zero, List.set_cons_succ]
        refine wpAnyH_take (i := 34) (v := undef) rfl (by kernel_rfl) (by kernel_rfl) (by kernel_rfl) (fun _ _ _ h => h) (Or.inr ⟨by kernel_rfl, rfl⟩) hH0 ?_
        simp only [Act.put, List.getElem_toArray, List.getElem_cons_zero, List.getElem_cons_succ, List.setIfInBounds_toArray, List.set_cons_zero, List.set_cons_succ]
        refine wpAnyH_take (i := 35) (v := undef) rfl (by kernel_rfl) (by kernel_rfl) (by kernel_rfl) (fun _ _ _ h => h) (Or.inr ⟨by kernel_rfl, rfl⟩) hH0 ?_
        simp only [Act.put, List.getElem_toArray, List.getElem_cons_zero, List.getElem_cons_succ, List.setIfInBounds_toArray, List.set_cons_zero, List.set_cons_succ]
        apply wpAnyH_take (i := 36) (v := _) rfl (by kernel_rfl) (by kernel_rfl) (by kernel_rfl) (fun _ _ _ h => h) (Or.inl ⟨by kernel_rfl, ?hv⟩) hH0 ?_
        case hv => intro w' hS; obtain ⟨z0, z1⟩ := HC5.out w' hS; go_simp; try exact rfl
        simp only [Act.put, List.getElem_toArray, List.getElem_cons_zero, List.getElem_cons_succ, List.setIfInBounds_toArray, List.set_cons_zero, List.set_cons_succ]
        apply wpAnyH_take (i := 37) (v := _) rfl (by kernel_rfl) (by kernel_rfl) (by kernel_rfl) (fun _ _ _ h => h) (Or.inl ⟨by kernel_rfl, ?hv⟩) hH0 ?_
        case hv => intro w' hS; obtain ⟨z0, z1⟩ := HC5.out w' hS; go_simp; try exact rfl
        simp only [Act.put, List.getElem_toArray, List.getElem_cons_zero, List.getElem_cons_succ, List.setIfInBounds_toArray, List.set_cons_zero, List.set_cons_succ]
        apply wpAnyH_take (i := 38) (v := _) rfl (by kernel_rfl) (by kernel_rfl) (by kernel_rfl) (fun _ _ _ h => h) (Or.inl ⟨by kernel_rfl, ?hv⟩) hH0 ?_
        case hv => intro w' hS; obtain ⟨z0, z1⟩ := HC5.out w' hS; go_simp; try exact rfl
        simp only [Act.put, List.getElem_toArray, List.getElem_cons_zero, List.getElem_cons_succ, List.setIfInBounds_toArray, List.set_cons_zero, List.set_cons_succ]
        refine wpAnyH_done (by kernel_rfl) ?_ _
        refine NoPanic.normal ?_
        have HFX := Lib.hid (HFIN.out _ hS0)
        clear hS0
        go_wp2_with fail
        go_ret
        exact ⟨rfl, HFX.out⟩
end Go.Proofs.YtngmpcmeebcdmaaDoor
