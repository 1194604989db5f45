/- The reference's book: with another amount. -/
import Derived.Test.YtcekammjpghjnaaDoorWs
import Derived.Test.YtcekammjpghjnaaDoorURg1
namespace Go.Proofs.YtcekammjpghjnaaDoor
set_option linter.unusedVariables false
set_option linter.unusedSimpArgs false
open Go.ChangeShapes Go.WideShapes Go.ChangeAt Go.RowKit Go.Maps

theorem thirty_twoR (l : List Nat) (h : l.length = 32) : ∃ d0 d1 d2 d3 d4 d5 d6 d7 d8 d9 d10 d11 d12 d13 d14 d15 d16 d17 d18 d19 d20 d21 d22 d23 d24 d25 d26 d27 d28 d29 d30 d31 : Nat, l = [d0, d1, d2, d3, d4, d5, d6, d7, d8, d9, d10, d11, d12, d13, d14, d15, d16, d17, d18, d19, d20, d21, d22, d23, d24, d25, d26, d27, d28, d29, d30, d31] := by
 match l, h with
 | [d0, d1, d2, d3, d4, d5, d6, d7, d8, d9, d10, d11, d12, d13, d14, d15, d16, d17, d18, d19, d20, d21, d22, d23, d24, d25, d26, d27, d28, d29, d30, d31], _ => exact ⟨d0, d1, d2, d3, d4, d5, d6, d7, d8, d9, d10, d11, d12, d13, d14, d15, d16, d17, d18, d19, d20, d21, d22, d23, d24, d25, d26, d27, d28, d29, d30, d31, rfl⟩
theorem build_hs (s : Int) (id : List Nat) (h : id.length = 32) (n : Nat) (w : World) : (Instr.build 107 #[(0, .int .i64 s), (1, .agg (bcells id).toArray), (2, .int .u64 (n : Int))]).run Tryd.prog w = .ok (.agg (HsT.cells ⟨s, id, n⟩).toArray) w := by
 obtain ⟨d0, d1, d2, d3, d4, d5, d6, d7, d8, d9, d10, d11, d12, d13, d14, d15, d16, d17, d18, d19, d20, d21, d22, d23, d24, d25, d26, d27, d28, d29, d30, d31, rfl⟩ := thirty_twoR id h
 exact run_build w 107 _ _ (by kernel_rfl)
theorem keep_take {hs : List HsT} {k : Nat} {x : HsT} (h : hs[k]? = some x) (s : Int) (id : List Nat) : (hs.take (k + 1)).filter (keepR s id) = (hs.take k).filter (keepR s id) ++ (if keepR s id x then [x] else []) := by
 rw [List.take_add_one, h, List.filter_append]
 congr 1
 cases hk : keepR s id x <;> simp [hk]
theorem hs_one (x : HsT) : ∀ u ∈ x.cells, u.oneCell' = true := fun u hu => by
 have := HsT.one x
 rw [Array.all_eq_true'] at this
 exact this u (by simpa using hu)
theorem filt_len (hs : List HsT) (p : HsT → Bool) : (hs.filter p).length ≤ hs.length := List.length_filter_le _ _
set_option maxRecDepth 100000 in
set_option maxHeartbeats 4000000 in
theorem rbSet_is (w : World) (L : List Value) (r : RB) (hr : RbAt w L r) (hcap : r.has.length ≤ 99999) (s : Int) (id : List Nat) (hid : IsHash id) (am : Nat) (ham : am < 18446744073709551616) :
  Calls Tryd.prog 27 #[.agg L.toArray, .int .i64 s, arr id, .int .u64 (am : Int)] w fun e w' => (∃ L', e = .returned (.agg L'.toArray) ∧ RbAt w' L' { r with has := setR r.has s id am }) ∧ Below w.heap.size w w' := by
 obtain ⟨Z, hz, hzs, hzn⟩ := zero_hs
 obtain ⟨ZH, hinf, hzh⟩ := info_hs
 have hzb := zero_rb
 obtain ⟨LI, hLI⟩ : ∃ X, X = bcells id := ⟨_, rfl⟩
 unfold arr
 rw [← hLI]
 obtain ⟨A, n, c, B, m, d, hL, hrows, hoffs, hmd, hn, hm⟩ := hr.ex
 obtain ⟨hi, hii⟩ : ∃ ii, Tryd.prog.info? 107 = some ii ∧ ii.zero = some (.agg ZH) ∧ ii.size = 34 := by
  obtain ⟨ii, q1, q2, q3, -⟩ := info_parts hinf
  exact ⟨ii, q1, q2, q3⟩
 obtain ⟨W1, hW1, h1, h2, h3, hb1⟩ := boxes_set w L LI #[.slice none 0 0, .slice none 0 0, .int .u64 0, .int .u64 0]
 obtain ⟨hcs, hks⟩ : L.length = 4 ∧ True := ⟨hr.len, trivial⟩
 have HR1 := Lib.hid (hrows.rows.below hb1)
 have HOF1 := Lib.hid (hoffs.below hb1)
 have HLEN := Lib.hid hrows.rows.len
 have HOK := Lib.hid hr.ok
 have HOFF := Lib.hid hr.off
 have HB1 := Lib.hid hb1
 have EW := Lib.hid hW1
 have HLI := Lib.hid hLI
 have HID := Lib.hid hid
 have HZS := Lib.hid hzs
 have HZH := Lib.hid hzh
 have HINF := Lib.hid hinf
 have HII := Lib.hid hii
 have H1 := Lib.hid h1
 have H2 := Lib.hid h2
 have H3 := Lib.hid h3
 have HAT := Lib.hid at_hs
 have HLL := Lib.hid hL
 have HBND := Lib.hid (show n ≤ 99999 ∧ m ≤ 100000 ∧ m ≤ d from ⟨by rw [← hrows.rows.len]; exact hcap, hm, hmd⟩)
 have SZI := Lib.hid (show (Tryd.prog.info? 38).map (·.size) = some LI.length by rw [hLI, bcells_length, hid.1]; kernel_rfl)
 have hc0 : (W1.alloc (.cells #[] 107)).cell? ⟨w.heap.size, 0, none⟩ = some (.slice A n c) := (h1.alloc _).cell_is (by rw [hL]; rfl)
 clear hr hL hrows hoffs hb1 hW1 hLI hid hzs hzh hinf hii h1 h2 h3 hcs hks hm hmd hn hcap
 have hn9 : n ≤ 99999 := HBND.out.1
 go_enter Tryd.func27, Tryd.ntmps27
 go_upto_region 1 with (fail)
 rw [← EW.out]
 have HBE0 := Lib.hid (show Below W1.heap.size W1 (W1.alloc (.cells #[] 107)) from (Below.refl _ _).alloc (Nat.le_refl _) _)
 have HOE := Lib.hid (own_empty (w := W1) (Nat.le_refl W1.heap.size) 107 34)
 have HBL := Lib.hid (show w.heap.size + 2 < W1.heap.size from H3.out.lt)
 obtain ⟨b0, hb0⟩ : ∃ y, y = w.heap.size := ⟨_, rfl⟩
 rw [← hb0] at hc0 H1 H2 H3 HBL ⊢
 have HBQ := Lib.hid hb0
 clear hb0 EW
 go_wp2_with fail
 clear hc0
 go_loopw [9, 16] (fun ov iv wr => ∃ (k t : Nat) (oa : Option Addr) (oc : Nat), iv = .int .i64 (k : Int) ∧ k ≤ n ∧ ov = .slice oa t oc ∧ t = ((r.has.take k).filter (keepR s id)).length ∧ wr.ownsRow W1.heap.size 107 34 (.slice oa t oc) t (((r.has.take k).filter (keepR s id)).flatMap HsT.cells) ∧ Below W1.heap.size W1 wr) (fun _ iv _ => n - (intOf iv).toNat)
 case atStart => exact ⟨0, 0, _, 0, rfl, Nat.zero_le _, rfl, rfl, HOE.out, HBE0.out⟩
 case round =>
  clear HOE HBE0
  obtain ⟨k, t, oa, oc, rfl, hk, rfl, ht, hown, hbel⟩ := hrel
  have HBE := Lib.hid hbel
  have HOWN := Lib.hid hown
  have HTT := Lib.hid ht
  clear hbel hown ht
  by_cases hlt : k < n
  · have hlt' : (k : Int) < (n : Int) := by omega
    obtain ⟨sb, so, hA1, hA2, hrr⟩ := HR1.out.at_ (by omega)
    subst hA1
    obtain ⟨x, hx⟩ : ∃ x, r.has[k]? = some x := ⟨_, List.getElem?_eq_getElem (by rw [HLEN.out]; exact hlt)⟩
    have hxok := HOK.out x (List.mem_of_getElem? hx)
    have hrw := rangeAt_kept (hrr k x hx) (Kept.of_below (S := fun _ => False) HBE.out) (fun h => h)
    obtain ⟨XC, hXC⟩ : ∃ L, L = x.cells := ⟨_, rfl⟩
    rw [← hXC] at hrw
    have LXC := Lib.hid (show XC.length = 34 by rw [hXC]; exact HsT.len hxok)
    have HRW := Lib.hid hrw
    have SZ1 := Lib.hid (show (Tryd.prog.info? 107).map (·.size) = some XC.length by rw [LXC.out]; kernel_rfl)
    have SZA := Lib.hid (show (Tryd.prog.info? 107).map (·.size) = some XC.toArray.size by rw [List.size_toArray]; exact SZ1.out)
    have HZZ := Lib.hid (show Z.size = XC.toArray.size by rw [HZS.out, List.size_toArray, LXC.out])
    have HONE := Lib.hid (show XC.toArray.all (·.oneCell') = true by rw [hXC]; exact HsT.one x)
    have HNW := Lib.hid (show ∀ C, Has ((wr.alloc (.cells Z 107)).setRow wr.heap.size C) wr.heap.size 107 C ∧ Below wr.heap.size wr ((wr.alloc (.cells Z 107)).setRow wr.heap.size C) from fun C => by
      rw [World.setRow_alloc_new]
      exact ⟨Has.new wr _ _, (Below.refl _ _).alloc (Nat.le_refl _) _⟩)
    have HXOK := Lib.hid hxok
    have EXC := Lib.hid hXC
    have hat := HAT.out sb so n c k hlt
    have HLTK := Lib.hid hlt
    have HKT := Lib.hid (keep_take hx s id)
    have HTN := Lib.hid (show t ≤ n by rw [HTT.out]; have h1 := filt_len (r.has.take k) (keepR s id); rw [List.length_take] at h1; omega)
    clear hrw hxok hx hXC hrr hA2 hlt
    go_upto_region 5 with (first
      | (refine wpList_load_mid rfl 107 (.tmp 18) rfl sb (so + k * 34) rfl XC _ HRW.out Tryd.underlying107 rfl SZ1.out ?_)
      | (refine wpList_store_row rfl 107 (.tmp 11) (.tmp 19) rfl wr.heap.size XC.toArray rfl rfl 107 Z (heap_alloc_new wr _) SZA.out HZZ.out HONE.out ?_))
    obtain ⟨h4, hk4⟩ := HNW.out XC.toArray
    have hb4 := HBE.out.trans (hk4.mono HBE.out.size)
    have ho4 := own_kept HOWN.out (Kept.of_below (S := fun _ => False) hk4) (fun _ _ e => e)
    clear HNW hk4 hat
    generalize (wr.alloc (.cells Z 107)).setRow wr.heap.size XC.toArray = W9 at h4 hb4 ho4 ⊢
    generalize wr.heap.size = G at h4 ⊢
    have H4 := Lib.hid h4
    rw [EXC.out] at h4
    have HB4 := Lib.hid hb4
    have HO4 := Lib.hid ho4
    have HRI := Lib.hid (hs_id HXOK.out h4)
    have cs0 : W9.cell? ⟨G, 0, none⟩ = some (.int .i64 x.side) := h4.cell_is rfl
    have HI9 := Lib.hid (H2.out.below hb4 H2.out.lt).row0
    have SZX := Lib.hid (show (Tryd.prog.info? 38).map (·.size) = some (bcells x.id).length by rw [bcells_length, HXOK.out.id.1]; kernel_rfl)
    obtain ⟨qi, hqi⟩ : ∃ q, q = decide (x.id = id) := ⟨_, rfl⟩
    have heqi : ∀ v, (Op.equalIn 10000 38 (.agg (bcells x.id).toArray) (.agg LI.toArray)).run Tryd.prog v = .ok qi v := fun v => by rw [HLI.out, hqi]; exact rhash_eq _ _ HXOK.out.id HID.out v
    have HQI := Lib.hid hqi
    -- the append of this entry
    have hal : Below W9.heap.size W9 (W9.alloc (.cells XC.toArray 107)) := (Below.refl _ _).alloc (Nat.le_refl _) _
    have HO5 := Lib.hid (own_kept ho4 (Kept.of_below (S := fun _ => False) hal) (fun _ _ e => e))
    have HRW5 := Lib.hid (show RowsAt HsT.cells 34 (W9.alloc (.cells XC.toArray 107)) (some ⟨W9.heap.size, 0, none⟩) 1 [x] from rows_has (xs := [x]) (t := 107) (by rw [EXC.out]; simpa using Has.new W9 107 x.cells.toArray) (fun f hf => by rw [List.mem_singleton.1 hf]; exact HsT.len HXOK.out))
    have HB5 := Lib.hid (hb4.trans (hal.mono hb4.size))
    have HO1X := Lib.hid (show ∀ y ∈ [x], ∀ u ∈ y.cells, u.oneCell' = true from fun y _ => hs_one y)
    have HSKIP := Lib.hid (show keepR s id x = false → t = ((r.has.take (k + 1)).filter (keepR s id)).length ∧ W9.ownsRow W1.heap.size 107 34 (.slice oa t oc) t (((r.has.take (k + 1)).filter (keepR s id)).flatMap HsT.cells) from fun h => by
      rw [HKT.out, h, if_neg (by decide), List.append_nil]
      exact ⟨HTT.out, ho4⟩)
    clear h4 hb4 ho4 hqi hal
    obtain ⟨xs, hxs⟩ : ∃ v, v = x.side := ⟨_, rfl⟩
    rw [← hxs] at cs0
    have EXS := Lib.hid hxs
    clear hxs
    obtain ⟨kp, hkp⟩ : ∃ b, b = keepR s id x := ⟨_, rfl⟩
    have HKP := Lib.hid hkp
    have HKD := Lib.hid (show kp = decide (¬ (xs = s ∧ x.id = id)) by rw [hkp, EXS.out]; rfl)
    clear hkp
    have HAPP := Lib.hid (show kp = true → t + 1 = ((r.has.take (k + 1)).filter (keepR s id)).length ∧ ((r.has.take (k + 1)).filter (keepR s id)).flatMap HsT.cells = ((r.has.take k).filter (keepR s id)).flatMap HsT.cells ++ [x].flatMap HsT.cells from fun h => by
      rw [HKT.out, ← HKP.out, h, if_pos rfl, List.length_append, List.flatMap_append]
      exact ⟨by rw [HTT.out]; rfl, rfl⟩)
    by_cases hs : xs = s
    · have hs' : (xs != s) = false := by rw [bne_eq_false_iff_eq]; exact hs
      have HS := Lib.hid hs
      clear hs
      cases qi with
      | true =>
       have HSK := Lib.hid (HSKIP.out (by rw [← HKP.out, HKD.out]; exact decide_eq_false (fun h => h ⟨HS.out, of_decide_eq_true HQI.out.symm⟩)))
       go_wp2_with (first
         | (refine wpList_load_midG (by kernel_rfl) 38 (.tmp 25) rfl G 1 rfl (bcells x.id) _ HRI.out Tryd.underlying38 rfl SZX.out ?_)
         | (refine wpList_load_midG (by kernel_rfl) 38 (.tmp 6) rfl (b0 + 1) 0 rfl LI _ HI9.out Tryd.underlying38 rfl SZI.out ?_))
       go_roundw
       case rel => exact ⟨k + 1, t, oa, oc, by go_num, HLTK.out, rfl, HSK.out.1, HSK.out.2, HB4.out⟩
       case measure => have := HLTK.out; simp [intOf]; omega
      | false =>
       have HAP := Lib.hid (HAPP.out (by rw [HKD.out]; exact decide_eq_true (fun h => of_decide_eq_false HQI.out.symm h.2)))
       go_wp2_with (first
         | (refine wpList_load_midG (by kernel_rfl) 38 (.tmp 25) rfl G 1 rfl (bcells x.id) _ HRI.out Tryd.underlying38 rfl SZX.out ?_)
         | (refine wpList_load_midG (by kernel_rfl) 38 (.tmp 6) rfl (b0 + 1) 0 rfl LI _ HI9.out Tryd.underlying38 rfl SZI.out ?_)
         | (refine wpList_load_row rfl 107 (.tmp 11) rfl G rfl 107 XC.toArray (0, 0) _ H4.out Tryd.underlying107 rfl SZA.out ?_)
         | (refine wpList_build1 rfl 28 107 (.tmp 31) rfl hi (.agg ZH) Tryd.underlying28 HII.out.1 HII.out.2.1 XC (by rw [HII.out.2.2, LXC.out]) (by rw [LXC.out]; exact HZH.out) (by rw [LXC.out]; decide) (by rw [LXC.out]; decide) rfl ?_)
         | (at_builtin; refine wpList_append_rows rfl (.tmp 30) (.tmp 32) 28 rfl W1.heap.size 107 (.agg ZH) 48 Tryd.underlying28 HINF.out HZH.out (by decide) _ t _ rfl HO5.out _ 1 1 [x] rfl HRW5.out HO1X.out (by have := HTN.out; have := HBND.out; unfold maxLen; omega) (by have := HTN.out; have := HBND.out; omega) HB5.out.size ?_; intro oa6 oc6 w6 hown6 hgr))
       have HFIN := Lib.hid (show t + 1 = ((r.has.take (k + 1)).filter (keepR s id)).length ∧ w6.ownsRow W1.heap.size 107 34 (.slice oa6 (t + 1) oc6) (t + 1) (((r.has.take (k + 1)).filter (keepR s id)).flatMap HsT.cells) ∧ Below W1.heap.size W1 w6 from ⟨HAP.out.1, by rw [HAP.out.2]; exact hown6, HB5.out.grown hgr HB5.out.size (own_blk HO5.out)⟩)
       clear hown6 hgr
       go_wp2_with fail
       go_roundw
       case rel => exact ⟨k + 1, t + 1, oa6, oc6, by go_num, HLTK.out, rfl, HFIN.out⟩
       case measure => have := HLTK.out; simp [intOf]; omega
    · have hs' : (xs != s) = true := by rw [bne_iff_ne]; exact hs
      have HAP := Lib.hid (HAPP.out (by rw [HKD.out]; exact decide_eq_true (fun h => hs h.1)))
      clear hs heqi
      go_wp2_with (first
       | (refine wpList_load_row rfl 107 (.tmp 11) rfl G rfl 107 XC.toArray (0, 0) _ H4.out Tryd.underlying107 rfl SZA.out ?_)
       | (refine wpList_build1 rfl 28 107 (.tmp 31) rfl hi (.agg ZH) Tryd.underlying28 HII.out.1 HII.out.2.1 XC (by rw [HII.out.2.2, LXC.out]) (by rw [LXC.out]; exact HZH.out) (by rw [LXC.out]; decide) (by rw [LXC.out]; decide) rfl ?_)
       | (at_builtin; refine wpList_append_rows rfl (.tmp 30) (.tmp 32) 28 rfl W1.heap.size 107 (.agg ZH) 48 Tryd.underlying28 HINF.out HZH.out (by decide) _ t _ rfl HO5.out _ 1 1 [x] rfl HRW5.out HO1X.out (by have := HTN.out; have := HBND.out; unfold maxLen; omega) (by have := HTN.out; have := HBND.out; omega) HB5.out.size ?_; intro oa6 oc6 w6 hown6 hgr))
      have HFIN := Lib.hid (show t + 1 = ((r.has.take (k + 1)).filter (keepR s id)).length ∧ w6.ownsRow W1.heap.size 107 34 (.slice oa6 (t + 1) oc6) (t + 1) (((r.has.take (k + 1)).filter (keepR s id)).flatMap HsT.cells) ∧ Below W1.heap.size W1 w6 from ⟨HAP.out.1, by rw [HAP.out.2]; exact hown6, HB5.out.grown hgr HB5.out.size (own_blk HO5.out)⟩)
      clear hown6 hgr
      go_wp2_with fail
      go_roundw
      case rel => exact ⟨k + 1, t + 1, oa6, oc6, by go_num, HLTK.out, rfl, HFIN.out⟩
      case measure => have := HLTK.out; simp [intOf]; omega
  · obtain rfl : k = n := by omega
    have hno : ¬ (k : Int) < (k : Int) := by omega
    obtain ⟨F0, hF0⟩ : ∃ F, F = r.has.filter (keepR s id) := ⟨_, rfl⟩
    have hown := HOWN.out
    have ht := HTT.out
    rw [List.take_of_length_le (by rw [HLEN.out]; exact Nat.le_refl _), ← hF0] at hown ht
    have HOW0 := Lib.hid hown
    have HT0 := Lib.hid ht
    have EF0 := Lib.hid hF0
    have HTN := Lib.hid (show t ≤ 99999 by rw [ht, hF0]; have h1 := filt_len r.has (keepR s id); rw [HLEN.out] at h1; have := HBND.out; omega)
    have HEND := Lib.hid (show ∀ (wx : World) (u : Nat) (oa' : Option Addr) (oc' : Nat) (F : List HsT), wx.ownsRow W1.heap.size 107 34 (.slice oa' u oc') u (F.flatMap HsT.cells) → u = F.length → u ≤ 100000 → F = setR r.has s id am → Below W1.heap.size W1 wx →
       ((wx.cell? ⟨b0, 0, none⟩ = some (.slice A k c) ∧ wx.frozen? ⟨b0, 0, none⟩ = false) ∧ Has (wx.setCell ⟨b0, 0, none⟩ (.slice oa' u oc')) b0 31 #[.slice oa' u oc', .slice B m d, .int .u64 (r.k0 : Int), .int .u64 (r.k1 : Int)] ∧ Has (wx.setCell ⟨b0, 0, none⟩ (.slice oa' u oc')) (b0 + 2) 31 #[.slice none 0 0, .slice none 0 0, .int .u64 0, .int .u64 0]) ∧
       ∀ W2, W2 = (wx.setCell ⟨b0, 0, none⟩ (.slice oa' u oc')).setRow (b0 + 2) #[.slice oa' u oc', .slice B m d, .int .u64 (r.k0 : Int), .int .u64 (r.k1 : Int)] → Has W2 (b0 + 2) 31 #[.slice oa' u oc', .slice B m d, .int .u64 (r.k0 : Int), .int .u64 (r.k1 : Int)] ∧ RbAt W2 [.slice oa' u oc', .slice B m d, .int .u64 (r.k0 : Int), .int .u64 (r.k1 : Int)] { r with has := setR r.has s id am } ∧ Below w.heap.size w W2 from fun wx u oa' oc' F ho hu hu2 hF hb => by
      have hbl := HBL.out
      have hbox := H1.out.below hb H1.out.lt
      have hbox3 := H3.out.below hb H3.out.lt
      rw [HLL.out] at hbox
      have hset : Has (wx.setCell ⟨b0, 0, none⟩ (.slice oa' u oc')) b0 31 #[.slice oa' u oc', .slice B m d, .int .u64 (r.k0 : Int), .int .u64 (r.k1 : Int)] := hbox.set 0 _
      have hk1 : Kept (fun j => j = b0) wx (wx.setCell ⟨b0, 0, none⟩ (.slice oa' u oc')) := (Kept.refl (fun j => j = b0) wx).set (p := ⟨b0, 0, none⟩) (.inl rfl) _
      have h3' : Has (wx.setCell ⟨b0, 0, none⟩ (.slice oa' u oc')) (b0 + 2) 31 #[.slice none 0 0, .slice none 0 0, .int .u64 0, .int .u64 0] := hbox3.kept hk1 (by show ¬ b0 + 2 = b0; omega)
      refine ⟨⟨⟨hbox.cell_is rfl, hbox.free 0⟩, hset, h3'⟩, fun W2 hW2 => ?_⟩
      have hk2 : Kept (fun j => j = b0 + 2) (wx.setCell ⟨b0, 0, none⟩ (.slice oa' u oc')) W2 := by rw [hW2]; exact kept_setRow _ _
      have hkk : Kept (fun j => j = b0 ∨ j = b0 + 2) wx W2 := (hk1.mono (fun _ _ e => .inl e)).trans (hk2.mono (fun _ _ e => .inr e))
      have hks : Kept (fun j => b0 ≤ j ∧ j < W1.heap.size) wx W2 := hkk.mono (fun j _ e => by rcases e with e | e <;> (constructor <;> omega))
      have hokF : ∀ h ∈ F, h.ok := fun h hh => by
       rw [hF] at hh
       rcases List.mem_append.1 hh with hh | hh
       · exact HOK.out h (List.mem_filter.1 hh).1
       · split at hh
         · cases hh
         · rw [List.mem_singleton.1 hh]; exact ⟨HID.out, ham⟩
      have hrF := own_rowsT (own_kept ho hks (fun j e ee => by have h1 := own_blk ho j e; omega)) hu.symm (fun h hh => HsT.len (hokF h hh))
      have hoff2 : RowsT 52 Off.cells 68 W2 B m r.offers := (HOF1.out.below hb).far hkk (fun j cs hh ee => by
       rcases ee with ee | ee
       · exact hh.ne hbox (by decide) ee
       · exact hh.ne hbox3 (by decide) ee)
      refine ⟨by rw [hW2]; exact h3'.setRow, ⟨⟨oa', u, oc', B, m, d, rfl, by rw [← hF]; exact hrF, hoff2, HBND.out.2.2, hu2, HBND.out.2.1⟩, by rw [← hF]; exact hokF, HOFF.out⟩, ?_⟩
      have hb1 := HB1.out.trans (hb.mono HB1.out.size)
      exact hb1.trans (hkk.below hb1.size (fun j e => by have h2 := HBQ.out; rcases e with e | e <;> omega)))
    have SZB := Lib.hid (show (Tryd.prog.info? 31).map (·.size) = some 4 by kernel_rfl)
    clear hF0 hown ht hlt hk
    by_cases ha0 : am = 0
    · have ha' : ¬ (am : Int) > 0 := by omega
      obtain ⟨⟨⟨hcb, hfb⟩, hset, h3'⟩, hfin⟩ := HEND.out wr t oa oc F0 HOW0.out HT0.out (by have := HTN.out; omega) (by unfold setR; rw [if_pos ha0, List.append_nil, EF0.out]) HBE.out
      obtain ⟨hf1, hf2, hf3⟩ := hfin _ rfl
      have HS := Lib.hid hset
      have H3' := Lib.hid h3'
      have HF1 := Lib.hid hf1
      have HF2 := Lib.hid (And.intro hf2 hf3)
      clear ha0 hset h3' hfin hf1 hf2 hf3
      go_wp2_with (first
       | (refine wpList_load_row rfl 31 (.tmp 4) rfl b0 rfl 31 #[.slice oa t oc, .slice B m d, .int .u64 (r.k0 : Int), .int .u64 (r.k1 : Int)] (0, 0) _ HS.out Tryd.underlying31 rfl SZB.out ?_)
       | (refine wpList_store_row rfl 31 (.tmp 8) (.tmp 46) rfl (b0 + 2) #[.slice oa t oc, .slice B m d, .int .u64 (r.k0 : Int), .int .u64 (r.k1 : Int)] rfl rfl 31 _ H3'.out SZB.out rfl (by simp [Value.oneCell']) ?_))
      refine bodyPost_ret (results_cell_row rfl _ _ (b0 + 2) 31 #[.slice oa t oc, .slice B m d, .int .u64 (r.k0 : Int), .int .u64 (r.k1 : Int)] (0, 0) _ rfl HF1.out Tryd.underlying31 rfl SZB.out) rfl ?_
      exact ⟨⟨_, rfl, HF2.out.1⟩, HF2.out.2⟩
    · have ha' : (am : Int) > 0 := by omega
      obtain ⟨XC, hXC⟩ : ∃ L, L = HsT.cells ⟨s, id, am⟩ := ⟨_, rfl⟩
      have hxok : HsT.ok ⟨s, id, am⟩ := ⟨HID.out, ham⟩
      have HBLD := Lib.hid (show ∀ v, (Instr.build 107 #[(0, .int .i64 s), (1, .agg LI.toArray), (2, .int .u64 (am : Int))]).run Tryd.prog v = .ok (.agg XC.toArray) v from fun v => by rw [HLI.out, hXC]; exact build_hs s id HID.out.1 am v)
      have LXC := Lib.hid (show XC.length = 34 by rw [hXC]; exact HsT.len hxok)
      have HI9 := Lib.hid (H2.out.below HBE.out H2.out.lt)
      have SZIA := Lib.hid (show (Tryd.prog.info? 38).map (·.size) = some LI.toArray.size by rw [List.size_toArray]; exact SZI.out)
      have hal : Below wr.heap.size wr (wr.alloc (.cells XC.toArray 107)) := (Below.refl _ _).alloc (Nat.le_refl _) _
      have HO5 := Lib.hid (own_kept HOW0.out (Kept.of_below (S := fun _ => False) hal) (fun _ _ e => e))
      have HRW5 := Lib.hid (show RowsAt HsT.cells 34 (wr.alloc (.cells XC.toArray 107)) (some ⟨wr.heap.size, 0, none⟩) 1 [(⟨s, id, am⟩ : HsT)] from rows_has (xs := [(⟨s, id, am⟩ : HsT)]) (t := 107) (by rw [hXC]; simpa using Has.new wr 107 (HsT.cells ⟨s, id, am⟩).toArray) (fun f hf => by rw [List.mem_singleton.1 hf]; exact HsT.len hxok))
      have HB5 := Lib.hid (HBE.out.trans (hal.mono HBE.out.size))
      have HO1X := Lib.hid (show ∀ y ∈ [(⟨s, id, am⟩ : HsT)], ∀ u ∈ y.cells, u.oneCell' = true from fun y _ => hs_one y)
      have HSE := Lib.hid (show F0 ++ [(⟨s, id, am⟩ : HsT)] = setR r.has s id am by unfold setR; rw [if_neg ha0, EF0.out])
      clear hXC hxok hal ha0
      go_upto_region 10 with (first
       | (refine wpList_load_row rfl 38 (.tmp 6) rfl (b0 + 1) rfl 38 LI.toArray (0, 0) _ HI9.out Tryd.underlying38 rfl SZIA.out ?_)
       | (refine wpList_build_run rfl 107 #[(0, .tmp 38), (1, .tmp 39), (2, .tmp 40)] rfl #[(0, .int .i64 s), (1, .agg LI.toArray), (2, .int .u64 (am : Int))] (by kernel_rfl) (.agg XC.toArray) (HBLD.out _) ?_)
       | (refine wpList_build1 rfl 28 107 (.tmp 41) rfl hi (.agg ZH) Tryd.underlying28 HII.out.1 HII.out.2.1 XC (by rw [HII.out.2.2, LXC.out]) (by rw [LXC.out]; exact HZH.out) (by rw [LXC.out]; decide) (by rw [LXC.out]; decide) rfl ?_)
       | (at_builtin; refine wpList_append_rows rfl (.tmp 37) (.tmp 42) 28 rfl W1.heap.size 107 (.agg ZH) 48 Tryd.underlying28 HINF.out HZH.out (by decide) _ t _ rfl HO5.out _ 1 1 [(⟨s, id, am⟩ : HsT)] rfl HRW5.out HO1X.out (by have := HTN.out; unfold maxLen; omega) (by have := HTN.out; omega) HB5.out.size ?_; intro oa6 oc6 w6 hown6 hgr))
      rw [← List.flatMap_append] at hown6
      have hbw6 : Below W1.heap.size W1 w6 := HB5.out.grown hgr HB5.out.size (own_blk HO5.out)
      obtain ⟨⟨⟨hcb, hfb⟩, hset, h3'⟩, hfin⟩ := HEND.out w6 (t + 1) oa6 oc6 (F0 ++ [(⟨s, id, am⟩ : HsT)]) hown6 (by rw [List.length_append, ← HT0.out]; rfl) (by have := HTN.out; omega) HSE.out hbw6
      obtain ⟨hf1, hf2, hf3⟩ := hfin _ rfl
      have HS := Lib.hid hset
      have H3' := Lib.hid h3'
      have HF1 := Lib.hid hf1
      have HF2 := Lib.hid (And.intro hf2 hf3)
      clear hown6 hgr hbw6 hset h3' hfin hf1 hf2 hf3 ha'
      go_wp2_with (first
       | (refine wpList_load_row rfl 31 (.tmp 4) rfl b0 rfl 31 #[.slice oa6 (t + 1) oc6, .slice B m d, .int .u64 (r.k0 : Int), .int .u64 (r.k1 : Int)] (0, 0) _ HS.out Tryd.underlying31 rfl SZB.out ?_)
       | (refine wpList_store_row rfl 31 (.tmp 8) (.tmp 46) rfl (b0 + 2) #[.slice oa6 (t + 1) oc6, .slice B m d, .int .u64 (r.k0 : Int), .int .u64 (r.k1 : Int)] rfl rfl 31 _ H3'.out SZB.out rfl (by simp [Value.oneCell']) ?_))
      refine bodyPost_ret (results_cell_row rfl _ _ (b0 + 2) 31 #[.slice oa6 (t + 1) oc6, .slice B m d, .int .u64 (r.k0 : Int), .int .u64 (r.k1 : Int)] (0, 0) _ rfl HF1.out Tryd.underlying31 rfl SZB.out) rfl ?_
      exact ⟨⟨_, rfl, HF2.out.1⟩, HF2.out.2⟩
end Go.Proofs.YtcekammjpghjnaaDoor

