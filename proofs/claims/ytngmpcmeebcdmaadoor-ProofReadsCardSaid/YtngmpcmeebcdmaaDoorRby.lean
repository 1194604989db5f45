/- The walk of the reference's Bytes. -/
import Derived.Test.YtngmpcmeebcdmaaDoorEnc1
namespace Go.Proofs.YtngmpcmeebcdmaaDoor
set_option linter.unusedVariables false
set_option linter.unusedSimpArgs false
open Go.ChangeShapes Go.WideShapes Go.ChangeAt Go.RowKit Go.Maps

/-- append of bytes, of whatever length, at a step of a region that draws. -/
theorem step_append_bytes {w : World} {ops : Array Oper} {o : Oper} {a : Act} {K : Act → World → Prop} {Q : Exit → Act → World → Prop} {E : Prop} (hgd : o.guard = none) (s x : Operand)
    (ho : o.op = .call { callee := .builtin .append, args := #[s, x], argTypes := #[29, 29] })
    (base : Nat) (v : Value) (n : Nat) (xs : List Value) (hs : a.eval s = v) (hown : w.ownsRow base 5 1 v n xs)
    (g : Nat) (vx : Value) (bs : List Nat) (hx : a.eval x = vx) (hb : Bytes w g vx bs) (hlen : n + bs.length ≤ 100000000) (hbase : base ≤ w.heap.size)
    (h : ∀ oa oc w', w'.ownsRow base 5 1 (.slice oa (n + bs.length) oc) (n + bs.length) (xs ++ bcells bs) → w.grownBy w' v.ownBlock → K (a.put o.dst (.slice oa (n + bs.length) oc)) w') :
    if Region.wanted o (yielded ops a.tmps) = true then Oper.wp Tryd.prog o a w K Q else E := by
  have hw : Region.wanted o (yielded ops a.tmps) = true := by simp [Region.wanted, hgd]
  rw [if_pos hw]
  obtain ⟨ii, his, his0, his1, his2⟩ := info_parts info_byte
  obtain ⟨sa, sc, rfl, h1, h2, h3⟩ := hb
  rcases Nat.eq_zero_or_pos bs.length with h0 | h0
  · have e : bs = [] := List.eq_nil_of_length_eq_zero h0
    subst e
    obtain ⟨oa, oc, rfl⟩ := own_form hown
    have hrun := run_append_zero (P := Tryd.prog) (w := w) base 29 o.type 5 ii 1 Tryd.underlying29 his _ n xs hown sa sc
    have h' := h oa oc w (by simpa [bcells] using hown) (World.grownBy.refl w _)
    unfold Oper.wp
    simp [execOp, ho, resolve, invoke, builtin, hs, hx, hrun, Result.andThen]
    exact h'
  · obtain ⟨bg, bo, rfl, _, hc⟩ := h3 h0
    refine wp_append_own w s x 29 ho base 5 ii (.int .u8 0) 1 1 Tryd.underlying29 his his0 his1 his2 rfl (by decide) v n xs hs hown ⟨bg, bo, none⟩ bs.length sc (bcells bs) hx (by rw [bcells_length, Nat.mul_one]) (fun j u hu => ?_) (bcells_oneC bs) (by unfold maxLen; omega) (by omega) hbase ?_
    · have hj := (List.getElem?_eq_some_iff.1 hu).1
      rw [bcells_length] at hj
      rw [Addr.add_mid, hc j hj]
      rw [bcells_get bs j hj] at hu
      exact hu
    · intro v' w' p1 p2 _
      obtain ⟨oa, oc, rfl⟩ := own_form p1
      exact h oa oc w' p1 p2
theorem at_rnodeo (b o n c k : Nat) (hk : k < n) (w : World) : (Instr.indexAt 72 (.slice (some ⟨b, o, none⟩) n c) (.int .i64 (k : Int))).run Tryd.prog w = .ok (.pointer (some ⟨b, o + k * 33, none⟩)) w := by
  have hu : Tryd.prog.underlying 72 = some (.slice (Tryd.prog.elem 72)) := by kernel_rfl
  have he : Tryd.prog.elem 72 = 62 := by kernel_rfl
  have hz : ∀ w, (sizeOf 62).run Tryd.prog w = .ok 33 w := fun w => by kernel_rfl
  rw [run_indexAt_slice w 72 ⟨b, o, none⟩ n c .i64 (k : Int) hu, if_pos ⟨by omega, by omega⟩, he, hz]
  simp only [Result.andThen, Int.toNat_natCast, Addr.add_mid]
theorem rn_zeroB : ∃ Z : Array Value, (∀ w, (zeroValue 62).run Tryd.prog w = .ok (.agg Z) w) ∧ Z.size = 33 ∧ ¬ Z = #[] := by
  have hs : (ncells (List.replicate 32 0) 0).toArray.size = 33 := by kernel_rfl
  exact ⟨(ncells (List.replicate 32 0) 0).toArray, fun w => by kernel_rfl, hs, fun e => (by rw [e] at hs; cases hs)⟩
theorem bcells_put (l : List Nat) (q z : Nat) : (bcells l).toArray.setIfInBounds q (.int .u8 (z : Int)) = (bcells (l.set q z)).toArray := by
  rw [List.setIfInBounds_toArray]; congr 1; simp [bcells, List.map_set]
theorem partB_skip {bb : List Nat} {h : Nat} (hh : h < 256) (e : bareB bb h = false) : partB bb (h + 1) = partB bb h := by
  refine getD_ext (partB_len bb (h + 1)) (partB_len bb h) fun i hi => ?_
  by_cases he : i = h / 8
  · rw [he, partB_bit bb h hh, if_neg (by rw [e]; decide), Nat.add_zero]
  · exact partB_else bb h i hh hi he
theorem made_32 : ∃ Z : Array Value, (∀ w, (Instr.makeSlice 29 (.int .i64 32) (.int .i64 32)).run Tryd.prog w = .ok (.slice (some ⟨w.heap.size, 0, none⟩) 32 32) (w.alloc (.cells Z 5))) ∧ Z = (bcells (List.replicate 32 0)).toArray := by
  exact ⟨_, fun w => by kernel_rfl, rfl⟩
set_option maxRecDepth 100000 in
set_option maxHeartbeats 8000000 in
theorem rbytes_is (w : World) (bb : List Nat) (hbb : IsHash bb) (a : Option Addr) (n c : Nat) (xs : List Nd) (hxs : NodesAt w a n xs) (hn : n ≤ 100000) :
    Calls Tryd.prog 41 #[.agg (rpcells (bareB bb) a n c).toArray] w fun e w' => ∃ oa oc, e = .returned (.slice oa (32 + 40 * n) oc) ∧ Bytes w' w'.heap.size (.slice oa (32 + 40 * n) oc) (pbytes bb xs) ∧ Below w.heap.size w w' := by
  obtain ⟨Z, hz, hZs, hZn⟩ := rn_zeroB
  obtain ⟨ZM, hmk, hZM⟩ := made_32
  obtain ⟨LP, hLP⟩ : ∃ L, L = rpcells (bareB bb) a n c := ⟨_, rfl⟩
  have hrow : LP[256]? = some (.slice a n c) := by rw [hLP]; exact rpcells_row _ a n c
  have hbit : ∀ i, i < 256 → LP[i]? = some (.bool (bareB bb i)) := fun i hi => by rw [hLP]; exact rpcells_bit _ a n c i hi
  rw [← hLP]
  have HXS := Lib.hid hxs
  have HROW := Lib.hid hrow
  have HBIT := Lib.hid hbit
  have HBB := Lib.hid hbb
  have SZN := Lib.hid (show ∀ x : Nd, IsHash x.h → (Tryd.prog.info? 62).map (·.size) = some (ndV x).toArray.size from fun x hx => by rw [List.size_toArray, ndV_len hx]; kernel_rfl)
  have SZL := Lib.hid (show ∀ x : Nd, IsHash x.h → (Tryd.prog.info? 62).map (·.size) = some (ndV x).length from fun x hx => by rw [ndV_len hx]; kernel_rfl)
  have HZN := Lib.hid (show ∀ x : Nd, IsHash x.h → Z.size = (ndV x).toArray.size from fun x hx => by rw [hZs, List.size_toArray, ndV_len hx])
  have EZM := Lib.hid hZM
  have EZS := Lib.hid hZs
  clear hLP hrow hbit hZs hbb hxs hZM
  go_enter Tryd.func41, Tryd.ntmps41
  go_upto_region 2 with (fail)
  have h1 : Has ((w.alloc (.cells LP.toArray 74)).alloc (.cells ZM 5)) w.heap.size 74 LP.toArray := (Has.new w _ _).alloc _
  have h9 : Has ((w.alloc (.cells LP.toArray 74)).alloc (.cells ZM 5)) (w.heap.size + 1) 5 (bcells (partB bb 0)).toArray := by
    have := Has.new (w.alloc (.cells LP.toArray 74)) 5 ZM
    rw [partB_zero, ← EZM.out]
    simpa using this
  have hb1 : Below w.heap.size w ((w.alloc (.cells LP.toArray 74)).alloc (.cells ZM 5)) := ((Below.refl _ _).alloc (Nat.le_refl _) _).alloc (by simp) _
  generalize (w.alloc (.cells LP.toArray 74)).alloc (.cells ZM 5) = W1 at h1 h9 hb1 ⊢
  obtain ⟨B9, hB9⟩ : ∃ b, b = w.heap.size + 1 := ⟨_, rfl⟩
  obtain ⟨B1, hB1⟩ : ∃ b, b = w.heap.size := ⟨_, rfl⟩
  have HPL := Lib.hid (show w.heap.size ≤ B1 ∧ B1 < B9 by omega)
  have H1 := Lib.hid (show Has W1 B1 74 LP.toArray by rw [hB1]; exact h1)
  have H9 := Lib.hid (show Has W1 B9 5 (bcells (partB bb 0)).toArray by rw [hB9]; exact h9)
  have HB1 := Lib.hid hb1
  rw [← hB9, ← hB1]
  clear h1 h9 hb1 hB9 hB1
  go_wp2_with fail
  go_loopw [4] (fun v wr => ∃ h : Nat, v = .int .i64 (h : Int) ∧ h ≤ 256 ∧ Has wr B1 74 LP.toArray ∧ Has wr B9 5 (bcells (partB bb h)).toArray ∧ Below w.heap.size w wr) (fun v _ => 256 - (intOf v).toNat)
  case atStart => exact ⟨0, rfl, Nat.zero_le _, H1.out, H9.out, HB1.out⟩
  case round =>
    clear H1 H9 HB1
    obtain ⟨h, rfl, hh, h1, h9, hb⟩ := hrel
    have H1 := Lib.hid h1
    have H9 := Lib.hid h9
    have HB := Lib.hid hb
    clear h1 h9 hb
    by_cases hlt : h < 256
    · have hlt' : (h : Int) < 256 := by omega
      have ch := H1.out.cell_is (i := h) (by rw [List.getElem?_toArray]; exact HBIT.out h hlt)
      obtain ⟨bt, hbt⟩ : ∃ b, b = bareB bb h := ⟨_, rfl⟩
      rw [← hbt] at ch
      have HBT := Lib.hid hbt
      clear hbt
      cases bt with
      | false =>
        go_wp2_with fail
        go_roundw
        case rel => exact ⟨h + 1, by go_num, by omega, H1.out, by rw [partB_skip hlt HBT.out.symm]; exact H9.out, HB.out⟩
        case measure => simp [intOf]; omega
      | true =>
        obtain ⟨r, hr⟩ : ∃ r, r = h % 8 := ⟨_, rfl⟩
        obtain ⟨q, hq⟩ : ∃ q, q = h / 8 := ⟨_, rfl⟩
        have hr8 : r < 8 := by omega
        have hq32 : q < 32 := by omega
        have hri : (h : Int) % 8 = (r : Int) := by omega
        have hqi : (h : Int) / 8 = (q : Int) := by omega
        have HR := Lib.hid hr
        have HQ := Lib.hid hq
        clear hr hq
        go_wp2_with fail
        obtain ⟨wo, hwo⟩ : ∃ x, x = wr := ⟨_, rfl⟩
        subst hwo
        go_loopw [5, 6] (fun bv iv wx => ∃ j y : Nat, iv = .int .i64 (j : Int) ∧ j ≤ r ∧ bv = .int .u8 (y : Int) ∧ y = 2 ^ j ∧ Has wx B1 74 LP.toArray ∧ Has wx B9 5 (bcells (partB bb h)).toArray ∧ Below w.heap.size w wx) (fun _ iv _ => r - (intOf iv).toNat)
        case atStart => exact ⟨0, 1, rfl, Nat.zero_le _, rfl, rfl, H1.out, H9.out, HB.out⟩
        case round =>
          clear H1 H9 HB
          obtain ⟨j, y, rfl, hj, rfl, hy, h1, h9, hb⟩ := hrel
          have H1 := Lib.hid h1
          have H9 := Lib.hid h9
          have HB := Lib.hid hb
          clear h1 h9 hb
          by_cases hjr : j < r
          · have hjr' : (j : Int) < (r : Int) := by omega
            have hy7 : y < 128 := by
              rw [hy]
              exact Nat.lt_of_lt_of_le (Nat.pow_lt_pow_right (by decide) hjr) (Nat.pow_le_pow_right (n := 2) (by decide) (show r ≤ 7 by omega))
            have HY := Lib.hid (show 2 * y = 2 ^ (j + 1) by rw [hy, Nat.pow_succ]; omega)
            clear hy
            go_wp2_with fail
            go_roundw
            case rel => exact ⟨j + 1, 2 * y, by go_num, by omega, by go_num, HY.out, H1.out, H9.out, HB.out⟩
            case measure => simp [intOf]; omega
          · obtain rfl : j = r := by omega
            have hjr' : ¬ (j : Int) < (j : Int) := by omega
            obtain ⟨y0, hy0⟩ : ∃ y, y = (partB bb h).getD q 0 := ⟨_, rfl⟩
            have hst := partB_step bb h hlt
            have hbit := partB_bit bb h hlt
            rw [if_pos HBT.out.symm, ← HQ.out, ← HR.out, ← hy, ← hy0] at hst hbit
            have hle := partB_le HBB.out (h + 1) q hq32
            rw [hbit] at hle
            have cq : wr.cell? ⟨B9, q, none⟩ = some (.int .u8 (y0 : Int)) := H9.out.cell_is (by
              rw [List.getElem?_toArray, bcells_get _ _ (by rw [partB_len]; exact hq32), hy0])
            have fq := H9.out.free q
            have hs9 : Has (wr.setCell ⟨B9, q, none⟩ (.int .u8 ((y0 : Int) + (y : Int)))) B9 5 (bcells (partB bb (h + 1))).toArray := by
              rw [hst, ← bcells_put, Int.natCast_add]
              exact H9.out.set q (.int .u8 ((y0 : Int) + (y : Int)))
            have hk9 : Kept (· = B9) wr (wr.setCell ⟨B9, q, none⟩ (.int .u8 ((y0 : Int) + (y : Int)))) := (Kept.refl (· = B9) wr).set (p := ⟨B9, q, none⟩) (.inl rfl) _
            have hpl := HPL.out
            have HFIN := Lib.hid (And.intro (H1.out.kept hk9 (by show ¬ B1 = B9; omega)) (And.intro hs9 (HB.out.trans (hk9.below HB.out.size (fun k e => by have e' : k = B9 := e; omega)))))
            clear hs9 hk9 hpl hst hbit hy0 hy
            go_wp2_with fail
            go_roundw
            case rel => exact ⟨h + 1, by go_num, by omega, HFIN.out⟩
            case measure => simp [intOf]; omega
    · obtain ⟨wv, hwv⟩ : ∃ y, y = wr := ⟨_, rfl⟩
      subst hwv
      obtain rfl : h = 256 := by omega
      have hlt' : ¬ ((256 : Nat) : Int) < 256 := by omega
      have c256 := H1.out.cell_is (i := 256) (by rw [List.getElem?_toArray]; exact HROW.out)
      have h9 := H9.out
      rw [partB_full HBB.out] at h9
      have hown0 : wv.ownsRow w.heap.size 5 1 (.slice (some ⟨B9, 0, none⟩) 32 32) 32 (bcells bb) :=
        ⟨by rw [bcells_length, HBB.out.1], .inr ⟨B9, 32, (bcells bb).toArray, rfl, by have := HPL.out; omega, h9, Nat.le_refl _, by decide, by rw [List.size_toArray, bcells_length, HBB.out.1], by
          show ((bcells bb).toArray.toList).take (32 * 1) = bcells bb
          rw [List.take_of_length_le (by rw [bcells_length, HBB.out.1]; decide)]⟩⟩
      have hew : EncW w (pbytes bb (xs.take 0)) (.slice (some ⟨B9, 0, none⟩) 32 32) wv := by
        have e : pbytes bb (xs.take 0) = bb := by simp [pbytes]
        rw [e]
        exact ⟨⟨_, 32, by rw [HBB.out.1], by rw [HBB.out.1]; exact hown0⟩, HB.out⟩
      have HEW := Lib.hid hew
      clear h9 hown0 hew H9 HB hh hlt
      go_wp2_with fail
      clear c256
      go_loopw [3, 37] (fun bv iv wr => ∃ k : Nat, iv = .int .i64 (k : Int) ∧ k ≤ n ∧ EncW w (pbytes bb (xs.take k)) bv wr) (fun _ iv _ => n - (intOf iv).toNat)
      case atStart => exact ⟨0, rfl, Nat.zero_le _, HEW.out⟩
      case round =>
        clear HEW H1
        obtain ⟨k, rfl, hk, he⟩ := hrel
        obtain ⟨⟨oa, oc, hv, hown⟩, hbel⟩ := he
        subst hv
        obtain ⟨bs, hbs⟩ : ∃ l, l = pbytes bb (xs.take k) := ⟨_, rfl⟩
        rw [← hbs] at hown ⊢
        have hbl : bs.length ≤ 5000000 := by
          rw [hbs, pbytes_len HBB.out.1 _ (fun x hx => HXS.out.hash x (List.mem_of_mem_take hx)), List.length_take]; omega
        have HOWN := Lib.hid hown
        have HBEL := Lib.hid hbel
        have HBS := Lib.hid hbs
        have HBL := Lib.hid hbl
        clear hown hbel hbs hbl
        by_cases hkn : k < n
        · have hkn' : (k : Int) < (n : Int) := by omega
          obtain ⟨x, hx⟩ : ∃ x, xs[k]? = some x := ⟨_, List.getElem?_eq_getElem (by rw [HXS.out.len]; exact hkn)⟩
          have hxh : IsHash x.h := HXS.out.hash x (List.mem_of_getElem? hx)
          have hxf : x.s < 18446744073709551616 := HXS.out.fits x (List.mem_of_getElem? hx)
          obtain ⟨b, o, ha, hbl, hr⟩ := (HXS.out.below HBEL.out).at_ (by omega)
          have hrx := hr k x hx
          have hat := at_rnodeo b o n c k hkn
          rw [← ha] at hat
          have hnw : Has ((wr.alloc (.cells Z 62)).setRow wr.heap.size (ndV x).toArray) wr.heap.size 62 (ndV x).toArray ∧ Below wr.heap.size wr ((wr.alloc (.cells Z 62)).setRow wr.heap.size (ndV x).toArray) := by
            rw [World.setRow_alloc_new]
            exact ⟨Has.new _ _ _, (Below.refl _ _).alloc (Nat.le_refl _) _⟩
          have HRX := Lib.hid hrx
          have HXH := Lib.hid hxh
          have HXF := Lib.hid hxf
          have HNX := Lib.hid (show pbytes bb (xs.take (k + 1)) = bs ++ (x.h ++ eight x.s) by rw [HBS.out]; exact pbytes_succ hx)
          have HNW := Lib.hid hnw
          clear hx hxh hxf hr hrx hbl hnw ha
          go_upto_region 15 with (first
            | (refine wpList_load_mid rfl 62 (.tmp 39) rfl b (o + k * 33) rfl (ndV x) _ HRX.out Tryd.underlying62 rfl (SZL.out x HXH.out) ?_)
            | (refine wpList_store_row rfl 62 (.tmp 8) (.tmp 40) rfl wr.heap.size (ndV x).toArray rfl rfl 62 Z (heap_alloc_new wr _) (SZN.out _ HXH.out) (HZN.out _ HXH.out) (ndV_one _) ?_))
          have HO5 := Lib.hid (own_kept HOWN.out (Kept.of_below (S := fun _ => False) HNW.out.2) (fun _ _ e => e))
          have HB5 := Lib.hid (HBEL.out.trans (HNW.out.2.mono HBEL.out.size))
          generalize (wr.alloc (.cells Z 62)).setRow wr.heap.size (ndV x).toArray = W5 at HNW HO5 HB5 ⊢
          generalize wr.heap.size = G8 at HNW ⊢
          have hdr : Below W5.heap.size W5 W5.drew := (Below.refl _ _).drew
          have HO6 := Lib.hid (own_kept HO5.out (Kept.of_below (S := fun _ => False) hdr) (fun _ _ e => e))
          have HB6 := Lib.hid (HB5.out.trans (hdr.mono HB5.out.size))
          have hS0 : Has W5.drew G8 62 (ndV x).toArray := HNW.out.1.drew
          have hsrc : Bytes W5.drew W5.drew.heap.size (.slice (some ⟨G8, 0, none⟩) 32 32) x.h := ⟨some ⟨G8, 0, none⟩, 32, by rw [HXH.out.1], by rw [HXH.out.1]; exact Nat.le_refl _, HXH.out.2, fun _ => ⟨G8, 0, rfl, Nat.ne_of_lt hS0.lt, fun i hi => by
            rw [Nat.zero_add]
            exact hS0.cell_is (by
              rw [List.getElem?_toArray, ndV, ncells, List.getElem?_append_left (by rw [bcells_length]; exact hi)]
              exact bcells_get _ i hi)⟩⟩
          have HSRC := Lib.hid hsrc
          have HLN := Lib.hid (show bs.length + x.h.length ≤ 100000000 by rw [HXH.out.1]; have := HBL.out; omega)
          have HLN2 := Lib.hid (show bs.length + x.h.length + (eight x.s).length ≤ 100000000 by rw [HXH.out.1, eight_length]; have := HBL.out; omega)
          obtain ⟨sx, hsx⟩ : ∃ v, v = x.s := ⟨_, rfl⟩
          have HC8 := Lib.hid (show ∀ v, Has v G8 62 (ndV x).toArray → v.cell? ⟨G8, 32, none⟩ = some (.int .u64 (sx : Int)) from fun v hv => hv.cell_is (by
            rw [List.getElem?_toArray, ndV, ncells, List.getElem?_append_right (by rw [bcells_length, HXH.out.1]; exact Nat.le_refl _), bcells_length, HXH.out.1, hsx]; rfl))
          have HE8 := Lib.hid (show eight sx = eight x.s by rw [hsx])
          rw [← hsx] at HXF
          have HFI := Lib.hid (show ∀ (w8 : World) (oa8 : Option Addr) (oc8 : Nat), w8.ownsRow w.heap.size 5 1 (.slice oa8 (bs.length + x.h.length + (eight x.s).length) oc8) (bs.length + x.h.length + (eight x.s).length) (bcells bs ++ bcells x.h ++ bcells (eight x.s)) → Below w.heap.size w w8 → EncW w (pbytes bb (xs.take (k + 1))) (.slice oa8 (bs.length + x.h.length + (eight x.s).length) oc8) w8 from fun w8 oa8 oc8 h1 h2 => by
            have e : pbytes bb (xs.take (k + 1)) = bs ++ x.h ++ eight x.s := by rw [HNX.out, List.append_assoc]
            rw [e]
            rw [bcells_app, bcells_app] at h1
            have el : (bs ++ x.h ++ eight x.s).length = bs.length + x.h.length + (eight x.s).length := by rw [List.length_append, List.length_append]
            exact ⟨⟨oa8, oc8, by rw [el], by rw [el]; exact h1⟩, h2⟩)
          clear hsx hdr hsrc HO5 HB5 HNW HOWN HBEL HNX
          refine wp_region_noPanic ?_
          refine wp_region_held_drew (S := (fun v => Has v G8 62 (ndV x).toArray)) (by kernel_rfl) hS0 (fun hH0 => ?_)
          refine wpAnyH_take (i := 0) (v := ((.slice oa bs.length oc))) rfl (by kernel_rfl) (by kernel_rfl) (by kernel_rfl) (fun _ _ _ h => h) (Or.inl ⟨by kernel_rfl, by intro w' hS; have z0 := HC8.out w' hS; go_simp⟩) hH0 ?_
          simp only [Act.put, List.getElem_toArray, List.getElem_cons_zero, List.getElem_cons_succ, List.setIfInBounds_toArray, List.set_cons_zero, List.set_cons_succ]
          refine wpAnyH_take (i := 1) (v := ((.pointer (some ⟨G8, 0, none⟩)))) rfl (by kernel_rfl) (by kernel_rfl) (by kernel_rfl) (fun _ _ _ h => h) (Or.inl ⟨by kernel_rfl, by intro w' hS; have z0 := HC8.out w' hS; go_simp⟩) hH0 ?_
          simp only [Act.put, List.getElem_toArray, List.getElem_cons_zero, List.getElem_cons_succ, List.setIfInBounds_toArray, List.set_cons_zero, List.set_cons_succ]
          refine wpAnyH_take (i := 2) (v := ((.slice (some ⟨G8, 0, none⟩) 32 32))) rfl (by kernel_rfl) (by kernel_rfl) (by kernel_rfl) (fun _ _ _ h => h) (Or.inl ⟨by kernel_rfl, by intro w' hS; have z0 := HC8.out w' hS; go_simp⟩) hH0 ?_
          simp only [Act.put, List.getElem_toArray, List.getElem_cons_zero, List.getElem_cons_succ, List.setIfInBounds_toArray, List.set_cons_zero, List.set_cons_succ]
          refine wpAnyH_take (i := 4) (v := ((.pointer (some ⟨G8, 32, none⟩)))) rfl (by kernel_rfl) (by kernel_rfl) (by kernel_rfl) (fun _ _ _ h => h) (Or.inl ⟨by kernel_rfl, by intro w' hS; have z0 := HC8.out w' hS; go_simp⟩) hH0 ?_
          simp only [Act.put, List.getElem_toArray, List.getElem_cons_zero, List.getElem_cons_succ, List.setIfInBounds_toArray, List.set_cons_zero, List.set_cons_succ]
          refine wpAnyH_take (i := 5) (v := ((.int .u64 (sx : Int)))) rfl (by kernel_rfl) (by kernel_rfl) (by kernel_rfl) (fun _ _ _ h => h) (Or.inl ⟨by kernel_rfl, by intro w' hS; have z0 := HC8.out w' hS; go_simp⟩) hH0 ?_
          simp only [Act.put, List.getElem_toArray, List.getElem_cons_zero, List.getElem_cons_succ, List.setIfInBounds_toArray, List.set_cons_zero, List.set_cons_succ]
          refine wpAnyH_ready (rs := [3]) (by kernel_rfl) (by simp) ?_
          refine AllReadyH.cons rfl (fun K hK => ?_) AllReadyH.nil
          refine step_append_bytes rfl (.tmp 41) (.tmp 43) rfl w.heap.size _ bs.length (bcells bs) rfl HO6.out _ _ x.h rfl HSRC.out HLN.out HB6.out.size ?_
          intro oa6 oc6 w6 hown6 hgr6
          have hs6 := hS0.grown hgr6 (fun e => own_has_ne HO6.out hS0 (by decide) G8 e.symm rfl)
          have HB7 := Lib.hid (HB6.out.grown hgr6 HB6.out.size (own_blk HO6.out))
          have HO7 := Lib.hid hown6
          clear hgr6 hown6
          refine Shut.out hK _ _ hs6 (fun hH1 => ?_)
          clear hK K
          try simp only [Act.put, List.getElem_toArray, List.getElem_cons_zero, List.getElem_cons_succ, List.setIfInBounds_toArray, List.set_cons_zero, List.set_cons_succ]
          refine wpAnyH_ready (rs := [6]) (by kernel_rfl) (by simp) ?_
          refine AllReadyH.cons rfl (fun K hK => ?_) AllReadyH.nil
          go_simp
          refine (eight_is _ sx HXF.out).mono ?_
          rintro _ w7 ⟨⟨a7, c7, rfl, hb7⟩, hbe7⟩
          have hs7 := hs6.below hbe7 hs6.lt
          have HO8 := Lib.hid (own_kept HO7.out (Kept.of_below (S := fun _ => False) hbe7) (fun _ _ e => e))
          have HB8 := Lib.hid (HB7.out.trans (hbe7.mono HB7.out.size))
          rw [HE8.out] at hb7
          have HY8 := Lib.hid hb7
          clear hbe7 hb7
          refine Shut.out hK _ _ hs7 (fun hH2 => ?_)
          clear hK K
          try simp only [Act.put, List.getElem_toArray, List.getElem_cons_zero, List.getElem_cons_succ, List.setIfInBounds_toArray, List.set_cons_zero, List.set_cons_succ]
          refine wpAnyH_ready (rs := [7]) (by kernel_rfl) (by simp) ?_
          refine AllReadyH.cons rfl (fun K hK => ?_) AllReadyH.nil
          refine step_append_bytes rfl (.tmp 44) (.tmp 47) rfl w.heap.size _ (bs.length + x.h.length) (bcells bs ++ bcells x.h) rfl HO8.out _ _ (eight x.s) rfl HY8.out HLN2.out HB8.out.size ?_
          intro oa8 oc8 w8 hown8 hgr8
          have hs8 := hs7.grown hgr8 (fun e => own_has_ne HO8.out hs7 (by decide) G8 e.symm rfl)
          have HFN := Lib.hid (HFI.out w8 oa8 oc8 hown8 (HB8.out.grown hgr8 HB8.out.size (own_blk HO8.out)))
          clear hgr8 hown8
          refine Shut.out hK _ _ hs8 (fun hH3 => ?_)
          clear hK K
          try simp only [Act.put, List.getElem_toArray, List.getElem_cons_zero, List.getElem_cons_succ, List.setIfInBounds_toArray, List.set_cons_zero, List.set_cons_succ]
          refine wpAnyH_take (i := 8) (v := ((.slice oa8 (bs.length + x.h.length + (eight x.s).length) oc8))) rfl (by kernel_rfl) (by kernel_rfl) (by kernel_rfl) (fun _ _ _ h => h) (Or.inl ⟨by kernel_rfl, by intro w' hS; have z0 := HC8.out w' hS; go_simp⟩) hH3 ?_
          simp only [Act.put, List.getElem_toArray, List.getElem_cons_zero, List.getElem_cons_succ, List.setIfInBounds_toArray, List.set_cons_zero, List.set_cons_succ]
          refine wpAnyH_done (by kernel_rfl) ?_ _
          refine NoPanic.normal ?_
          have HKN := Lib.hid hkn
          clear hS0 hs6 hs7 hs8
          go_wp2_with fail
          go_roundw
          case rel => exact ⟨k + 1, by go_num, HKN.out, HFN.out⟩
          case measure => simp [intOf]; omega
        · obtain rfl : k = n := by omega
          have hkn' : ¬ (k : Int) < (k : Int) := by omega
          have hall : bs = pbytes bb xs := by rw [HBS.out, List.take_of_length_le (by rw [HXS.out.len]; exact Nat.le_refl _)]
          have hlen : bs.length = 32 + 40 * k := by rw [hall, pbytes_len HBB.out.1 _ HXS.out.hash, HXS.out.len]
          have hown := HOWN.out
          rw [hall] at hown
          have hb := own_bytes hown rfl (pbytes_lt HBB.out _ HXS.out.hash) (Nat.le_refl _)
          rw [← hall, hlen] at hb
          have HF := Lib.hid hb
          have HE := Lib.hid hlen
          have HA := Lib.hid hall
          clear hall hlen hown hkn hb
          go_wp2_with fail
          go_ret
          exact ⟨oa, oc, congrArg (fun z => Ending.returned (Value.slice oa z oc)) HE.out, by rw [← HA.out]; exact HF.out, HBEL.out⟩
end Go.Proofs.YtngmpcmeebcdmaaDoor
