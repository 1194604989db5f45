/- The walk of the laws' helper some. -/
import Derived.Test.YtcpomddkehhkkaaDoorSome1
namespace Go.Proofs.YtcpomddkehhkkaaDoor
set_option linter.unusedVariables false
set_option linter.unusedSimpArgs false
open Go.ChangeShapes Go.WideShapes Go.ChangeAt Go.RowKit Go.Maps

theorem and_48 (n : Int) (hn : 0 ≤ n) : bits BinOp.and .u64 n 281474976710655 = n % 281474976710656 := by
  unfold bits
  have e : (BitVec.ofInt IntKind.u64.bits n &&& BitVec.ofInt IntKind.u64.bits 281474976710655).toNat = (n % 281474976710656).toNat := by
    show (BitVec.ofInt 64 n &&& BitVec.ofInt 64 281474976710655).toNat = _
    rw [BitVec.toNat_and, BitVec.toNat_ofInt, BitVec.toNat_ofInt]
    have h31 : ((281474976710655 : Int) % ((2 ^ 64 : Nat) : Int)).toNat = 2 ^ 48 - 1 := by decide
    rw [h31, Nat.and_two_pow_sub_one_eq_mod]
    have : ((2 ^ 64 : Nat) : Int) = 18446744073709551616 := by decide
    rw [this]
    show _ % 281474976710656 = _
    omega
  simp only [e]
  rw [IntKind.wrap_u64]
  omega
theorem info_sel : (Tryd.prog.info? 63).map (fun i => (i.zero, i.size, i.bytes)) = some (some (.agg (Sel.cells ⟨List.replicate 32 0, none, 0, [], 0, z32k⟩).toArray), 34, 64) := by kernel_rfl
theorem build_sel (D : List Nat) (hD : D.length = 32) (a : Option Addr) (n c : Nat) (s : Int) (w : World) : (Instr.build 63 #[(0, .agg (bcells D).toArray), (1, .slice a n c), (2, .int .u64 s)]).run Tryd.prog w = .ok (.agg (bcells D ++ [Value.slice a n c, Value.int .u64 s]).toArray) w := by
  match D, hD with
  | [d0, d1, d2, d3, d4, d5, d6, d7, d8, d9, d10, d11, d12, d13, d14, d15, d16, d17, d18, d19, d20, d21, d22, d23, d24, d25, d26, d27, d28, d29, d30, d31], _ => show _ = _; kernel_rfl
instance : Inhabited Sel := ⟨⟨List.replicate 32 0, none, 0, [], 0, z32k⟩⟩
/-- leaves that were gathered. -/
def Got (w : World) (B : Nat) (xs : List Sel) (ov : Value) (wr : World) : Prop :=
  (∃ a n c, ov = .slice a n c) ∧ wr.ownsRow B 63 34 ov xs.length (xs.flatMap Sel.cells) ∧ Below B w wr
theorem Got.below {w : World} {B : Nat} {xs : List Sel} {ov : Value} {wr w' : World} (h : Got w B xs ov wr) (hB : B ≤ wr.heap.size) (hb : Below wr.heap.size wr w') : Got w B xs ov w' :=
  ⟨h.1, own_kept h.2.1 (Kept.of_below (S := fun _ => False) hb) (fun _ _ h => h), h.2.2.trans (hb.mono hB)⟩

set_option maxRecDepth 100000 in
set_option maxHeartbeats 8000000 in
theorem some_is (w : World) (A : Option Addr) (N c : Nat) (os : List OpT) (hos : OpsAt w A N os) (m : Nat) (hm : m ≤ 1000) :
    Calls Tryd.prog 27 #[.slice A N c, .int .i64 (m : Int)] w fun e w' => ∃ v', e = .returned v' ∧ Got w w.heap.size (someL m os) v' w' := by
  obtain ⟨Z, hz, hzs, hzn⟩ := zero_op
  have HOS := Lib.hid hos
  have hfew := hos.few
  have hmade : Got w w.heap.size [] (.slice (some ⟨w.heap.size, 0, none⟩) 0 0) (w.alloc (.cells #[] 63)) := ⟨⟨_, _, _, rfl⟩, World.ownsRow_made w #[] 0 (Nat.le_refl _) (by decide) rfl, (Below.refl _ _).alloc (Nat.le_refl _) _⟩
  have HMADE := Lib.hid hmade
  clear hos hmade
  go_enter Tryd.func27, Tryd.ntmps27
  go_wp2_with fail
  generalize w.alloc (.cells #[] 63) = W0 at HMADE ⊢
  go_loopw [5, 14] (fun ov i wr => ∃ k : Nat, i = .int .i64 (k : Int) ∧ k ≤ N ∧ Got w w.heap.size (someL m (os.take k)) ov wr) (fun _ i _ => N - (intOf i).toNat)
  case atStart => exact ⟨0, rfl, Nat.zero_le _, HMADE.out⟩
  case round =>
    obtain ⟨k, rfl, hk, hgot⟩ := hrel
    have HGOT := Lib.hid hgot
    have HBW := Lib.hid hgot.2.2
    obtain ⟨⟨oa, on, oc, rfl⟩, -, -⟩ := hgot
    clear HMADE
    by_cases hlt : k < N
    · obtain ⟨x, hx⟩ : ∃ x, os[k]? = some x := ⟨_, List.getElem?_eq_getElem (by rw [HOS.out.len]; exact hlt)⟩
      have hxok := HOS.out.ok x (List.mem_of_getElem? hx)
      obtain ⟨sb, so, hA1, hA2, hr⟩ := HOS.out.at_ (by omega)
      subst hA1
      have hrw := rangeAt_kept (hr k x hx) (Kept.of_below (S := fun _ => False) HBW.out) (fun h => h)
      have hl35 := OpT.len hxok.key.1
      have HRW := Lib.hid hrw
      have SZ := Lib.hid (show (Tryd.prog.info? 71).map (·.size) = some x.cells.length by rw [hl35]; kernel_rfl)
      have SZA := Lib.hid (show (Tryd.prog.info? 71).map (·.size) = some x.cells.toArray.size by rw [List.size_toArray]; exact SZ.out)
      have HZZ := Lib.hid (show Z.size = x.cells.toArray.size by rw [hzs, List.size_toArray, hl35])
      have HONE := Lib.hid (show x.cells.toArray.all (·.oneCell') = true from all_oneCell_toArray (OpT.one x))
      have hnw : ∀ C, Has ((wr.alloc (.cells Z 71)).setRow wr.heap.size C) wr.heap.size 71 C ∧ Kept (fun _ => False) wr ((wr.alloc (.cells Z 71)).setRow wr.heap.size C) := fun C => by
        rw [World.setRow_alloc_new]
        exact ⟨Has.new wr _ _, (Kept.refl _ _).alloc _⟩
      have HNW := Lib.hid hnw
      have HOK := Lib.hid hxok
      have HX := Lib.hid hx
      clear hrw hl35 hnw hxok hx hr hA2
      go_upto_region 5 with (first
        | (refine wpList_load_mid rfl 71 (.tmp 16) rfl sb (so + k * 35) rfl x.cells _ HRW.out Tryd.underlying71 rfl SZ.out ?_)
        | (refine wpList_store_row rfl 71 (.tmp 7) (.tmp 17) rfl wr.heap.size x.cells.toArray rfl rfl 71 Z (heap_alloc_new wr _) SZA.out HZZ.out HONE.out ?_))
      obtain ⟨h3, hk3⟩ := HNW.out x.cells.toArray
      have hg9 : Got w w.heap.size (someL m (os.take k)) (.slice oa on oc) ((wr.alloc (.cells Z 71)).setRow wr.heap.size x.cells.toArray) := HGOT.out.below HBW.out.size (hk3.below (Nat.le_refl _) (fun _ h => h.elim))
      clear HNW HRW hk3 HGOT
      generalize (wr.alloc (.cells Z 71)).setRow wr.heap.size x.cells.toArray = W9 at h3 hg9 ⊢
      generalize wr.heap.size = G at h3 ⊢
      obtain ⟨q1, q2⟩ := op_get HOK.out.key.1
      obtain ⟨nv, hnv⟩ : ∃ j, j = x.sel.v.length := ⟨_, rfl⟩
      obtain ⟨sv, hsv⟩ : ∃ j, j = x.sel.s := ⟨_, rfl⟩
      obtain ⟨out, hout⟩ : ∃ l, l = someL m (os.take k) := ⟨_, rfl⟩
      obtain ⟨ln, hln⟩ : ∃ l, l = out.length := ⟨_, rfl⟩
      rw [← hout] at hg9
      have hon : on = ln := by
        rcases hg9.2.1.2 with ⟨e, h0⟩ | ⟨_, _, _, e, _⟩
        · injection e with e1 e2 e3; omega
        · injection e with e1 e2 e3; omega
      subst hon
      have hlm : on ≤ 1000 := by
        have := someL_len m (os.take k)
        rw [← hout] at this
        omega
      have c33 : W9.cell? ⟨G, 33, none⟩ = some (.slice x.sel.a nv x.sel.c) := h3.cell_is (by rw [List.getElem?_toArray, hnv]; exact q1)
      have c34 : W9.cell? ⟨G, 34, none⟩ = some (.int .u64 (sv : Int)) := h3.cell_is (by rw [List.getElem?_toArray, hsv]; exact q2)
      have H3 := Lib.hid h3
      have HG9 := Lib.hid hg9
      have ENV := Lib.hid hnv
      have ESV := Lib.hid hsv
      have EOUT := Lib.hid hout
      have ELN := Lib.hid hln
      have hskip : skipS m out x ↔ (m ≤ on ∨ 200 < nv ∨ (nv = 0 ∧ sv = 0)) := by rw [hln, hnv, hsv]; exact Iff.rfl
      have HSK := Lib.hid hskip
      have hnl : nv ≤ 9223372036854775807 := by rw [hnv]; exact HOK.out.few
      clear h3 hg9 hnv hsv hout hln hskip q1 q2
      simp only [Act.put]
      go_cut [14, 33] from 14 to 64 (fun i cc wx => i = .int .i64 (k : Int) ∧ cc = .bool (decide (m ≤ on ∨ 200 < nv ∨ (nv = 0 ∧ sv = 0))) ∧ Below W9.heap.size W9 wx)
      case first =>
        by_cases h1 : m ≤ on
        · have HD := Lib.hid (show decide (m ≤ on ∨ 200 < nv ∨ (nv = 0 ∧ sv = 0)) = true from decide_eq_true (.inl h1))
          have h1' : (m : Int) ≤ (on : Int) := by omega
          go_wp2
          go_meet
          case rel => exact ⟨rfl, by rw [HD.out], Below.refl _ _⟩
        · have h1' : ¬ (m : Int) ≤ (on : Int) := by omega
          by_cases h2 : 200 < nv
          · have HD := Lib.hid (show decide (m ≤ on ∨ 200 < nv ∨ (nv = 0 ∧ sv = 0)) = true from decide_eq_true (.inr (.inl h2)))
            have h2' : (200 : Int) < (nv : Int) := by omega
            go_wp2
            go_meet
            case rel => exact ⟨rfl, by rw [HD.out], Below.refl _ _⟩
          · have h2' : ¬ (200 : Int) < (nv : Int) := by omega
            have HD := Lib.hid (show decide (nv = 0 ∧ sv = 0) = decide (m ≤ on ∨ 200 < nv ∨ (nv = 0 ∧ sv = 0)) from by
              by_cases h3 : nv = 0 ∧ sv = 0
              · rw [decide_eq_true h3, decide_eq_true (.inr (.inr h3))]
              · rw [decide_eq_false h3, decide_eq_false (fun e => e.elim h1 (fun e => e.elim h2 h3))])
            go_wp2_with fail
            refine (none_is W9 x.sel.a nv x.sel.c sv hnl).mono ?_
            rintro _ wN ⟨rfl, hbN⟩
            have HBN := Lib.hid hbN
            clear hbN
            go_wp2
            go_meet
            case rel => exact ⟨rfl, by rw [← HD.out, Bool.decide_and], HBN.out⟩
      case rest =>
        obtain ⟨w2, hw2⟩ : ∃ y, y = wc := ⟨_, rfl⟩
        subst hw2
        obtain ⟨rfl, rfl, hbc⟩ := hcut
        have hsz9 : w.heap.size ≤ W9.heap.size := HG9.out.2.2.size
        have HGC := Lib.hid (HG9.out.below hsz9 hbc)
        have h3c := H3.out.below hbc H3.out.lt
        have HS2 := Lib.hid (show w.heap.size ≤ w2.heap.size by have := hbc.size; omega)
        clear c33 c34 hbc hsz9
        by_cases hsk : m ≤ on ∨ 200 < nv ∨ (nv = 0 ∧ sv = 0)
        · have hd : decide (m ≤ on ∨ 200 < nv ∨ (nv = 0 ∧ sv = 0)) = true := decide_eq_true hsk
          have HE := Lib.hid (show Got w w.heap.size (someL m (os.take (k + 1))) (.slice oa on oc) w2 from by
            rw [someL_take m os k x HX.out, ← EOUT.out]
            unfold stepS
            rw [if_pos (HSK.out.2 hsk)]
            exact HGC.out)
          rw [hd]
          clear hsk hd h3c
          go_wp2
          go_roundw
          case rel => exact ⟨k + 1, by go_num, by omega, HE.out⟩
          case measure => simp [intOf]; omega
        · have HNS := Lib.hid hsk
          have hd : decide (m ≤ on ∨ 200 < nv ∨ (nv = 0 ∧ sv = 0)) = false := decide_eq_false hsk
          have H3C := Lib.hid h3c
          rw [hd]
          clear hsk hd h3c
          go_wp2_with fail
          go_loopw [8, 36] (fun kn j wy => ∃ q : Nat, j = .int .i64 (q : Int) ∧ q ≤ on ∧ kn = .bool ((out.take q).any fun y => decide (y.key = x.sel.key)) ∧ Below w2.heap.size w2 wy) (fun _ j _ => on - (intOf j).toNat)
          case atStart => exact ⟨0, rfl, Nat.zero_le _, rfl, Below.refl _ _⟩
          case round =>
            obtain ⟨q, rfl, hq, rfl, hby⟩ := hrel
            have HBY := Lib.hid hby
            clear hby
            by_cases hq2 : q < on
            · obtain ⟨y, hy⟩ : ∃ y, out[q]? = some y := ⟨_, List.getElem?_eq_getElem (by rw [← ELN.out]; exact hq2)⟩
              obtain ⟨gs, cap, cur, e, hB, hh, h1, h2, h3, h4⟩ := own_open HGC.out.2.1 (by rw [← ELN.out]; omega)
              injection e with e1 e2 e3
              subst e1
              have hry : wr.rangeAt gs (q * 34) y.cells := fun j u hu => by
                have hj := (List.getElem?_eq_some_iff.1 hu).1
                rw [Sel.len'] at hj
                refine cell_held (Kept.of_below (S := fun _ => False) HBY.out) (hh.cell_is ?_) (fun h => h)
                have hlt : q * 34 + j < out.length * 34 := by
                  have : (q + 1) * 34 ≤ out.length * 34 := Nat.mul_le_mul_right 34 (by rw [← ELN.out]; exact hq2)
                  omega
                rw [h4 _ hlt, flat_getK Sel.cells 34 Sel.len' out q j y hy hj]
                exact hu
              obtain ⟨ZS, hzS, hzsS, hznS⟩ := zero_sel
              have HRY := Lib.hid hry
              have SZY := Lib.hid (show (Tryd.prog.info? 63).map (·.size) = some y.cells.length by rw [Sel.len']; kernel_rfl)
              have SZYA := Lib.hid (show (Tryd.prog.info? 63).map (·.size) = some y.cells.toArray.size by rw [List.size_toArray]; exact SZY.out)
              have HZY := Lib.hid (show ZS.size = y.cells.toArray.size by rw [hzsS, List.size_toArray, Sel.len'])
              have HONEY := Lib.hid (show y.cells.toArray.all (·.oneCell') = true from all_oneCell_toArray (Sel.one y))
              have hnw : ∀ C, Has ((wr.alloc (.cells ZS 63)).setRow wr.heap.size C) wr.heap.size 63 C ∧ Kept (fun _ => False) wr ((wr.alloc (.cells ZS 63)).setRow wr.heap.size C) := fun C => by
                rw [World.setRow_alloc_new]
                exact ⟨Has.new wr _ _, (Kept.refl _ _).alloc _⟩
              have HNW := Lib.hid hnw
              have hkb : ((out.take (q + 1)).any fun y => decide (y.key = x.sel.key)) = (((out.take q).any fun y => decide (y.key = x.sel.key)) || decide (y.key = x.sel.key)) := by
                rw [List.take_add_one, hy]
                simp [List.any_append]
              obtain ⟨kb, hkb2⟩ : ∃ b : Bool, b = ((out.take q).any fun y => decide (y.key = x.sel.key)) := ⟨_, rfl⟩
              rw [← hkb2] at hkb ⊢
              have HKB := Lib.hid hkb
              clear hry hB hh h1 h2 h3 h4 hnw hkb hkb2 hy e2 e3
              go_upto_region 10 with (first
                | (refine wpList_load_mid rfl 63 (.tmp 38) rfl gs (q * 34) rfl y.cells _ HRY.out Tryd.underlying63 rfl SZY.out ?_)
                | (refine wpList_store_row rfl 63 (.tmp 10) (.tmp 39) rfl wr.heap.size y.cells.toArray rfl rfl 63 ZS (heap_alloc_new wr _) SZYA.out HZY.out HONEY.out ?_))
              obtain ⟨h7, hk7⟩ := HNW.out y.cells.toArray
              have hb7 : Below w2.heap.size w2 ((wr.alloc (.cells ZS 63)).setRow wr.heap.size y.cells.toArray) := HBY.out.trans (hk7.below HBY.out.size (fun _ h => h.elim))
              clear HNW HRY hk7
              generalize (wr.alloc (.cells ZS 63)).setRow wr.heap.size y.cells.toArray = W7 at h7 hb7 ⊢
              generalize wr.heap.size = G7 at h7 ⊢
              have hky := sel_key h7
              have hkx := op_key (H3C.out.below hb7 H3C.out.lt)
              have heq := fun W => eq_key y.key x.sel.key y.h x.sel.h W
              obtain ⟨LY, hLY⟩ : ∃ L, L = bcells y.key := ⟨_, rfl⟩
              obtain ⟨LX, hLX⟩ : ∃ L, L = bcells x.sel.key := ⟨_, rfl⟩
              rw [← hLY] at hky
              rw [← hLX] at hkx
              rw [← hLY, ← hLX] at heq
              obtain ⟨eb, heb⟩ : ∃ b : Bool, b = decide (y.key = x.sel.key) := ⟨_, rfl⟩
              rw [← heb] at heq HKB
              have HKY := Lib.hid hky
              have HKX := Lib.hid hkx
              have SZLY := Lib.hid (show (Tryd.prog.info? 26).map (·.size) = some LY.length by rw [hLY, bcells_length, y.h.1]; kernel_rfl)
              have SZLX := Lib.hid (show (Tryd.prog.info? 27).map (·.size) = some LX.length by rw [hLX, bcells_length, x.sel.h.1]; kernel_rfl)
              have HB7 := Lib.hid hb7
              clear hky hkx hLY hLX heb h7 hb7
              simp only [Act.put]
              cases kb with
              | true =>
                go_wp2
                go_roundw
                case rel => exact ⟨q + 1, by go_num, by omega, by rw [HKB.out]; rfl, HB7.out⟩
                case measure => simp [intOf]; omega
              | false =>
                go_wp2_with (first
                  | (refine wpList_load_midG (by kernel_rfl) 26 (.tmp 42) rfl G7 0 rfl LY _ HKY.out Tryd.underlying26 rfl SZLY.out ?_)
                  | (refine wpList_load_midG (by kernel_rfl) 27 (.tmp 44) rfl G 1 rfl LX _ HKX.out Tryd.underlying27 rfl SZLX.out ?_))
                go_roundw
                case rel => exact ⟨q + 1, by go_num, by omega, by rw [HKB.out]; simp, HB7.out⟩
                case measure => simp [intOf]; omega
            · obtain rfl : q = on := by omega
              have htk : out.take q = out := List.take_of_length_le (by rw [← ELN.out]; exact Nat.le_refl _)
              have hg7 : Got w w.heap.size out (.slice oa q oc) wr := HGC.out.below HS2.out HBY.out
              have h37 := H3C.out.below HBY.out H3C.out.lt
              rw [htk]
              obtain ⟨kb, hkb⟩ : ∃ b : Bool, b = (out.any fun y => decide (y.key = x.sel.key)) := ⟨_, rfl⟩
              rw [← hkb]
              have HKB := Lib.hid hkb
              have HG7 := Lib.hid hg7
              have HS7 := Lib.hid (show w.heap.size ≤ wr.heap.size by have := HBY.out.size; have := HS2.out; omega)
              clear htk hkb hg7
              cases kb with
              | true =>
                have HE := Lib.hid (show Got w w.heap.size (someL m (os.take (k + 1))) (.slice oa q oc) wr from by
                  rw [someL_take m os k x HX.out, ← EOUT.out]
                  unfold stepS
                  rw [if_neg (fun e => HNS.out (HSK.out.1 e))]
                  have : knownS out x = true := HKB.out.symm
                  rw [if_pos this]
                  exact HG7.out)
                clear h37
                go_wp2
                go_roundw
                case rel => exact ⟨k + 1, by go_num, by omega, HE.out⟩
                case measure => simp [intOf]; omega
              | false =>
                have HEQ := Lib.hid (show someL m (os.take (k + 1)) = out ++ [x.pick] from by
                  rw [someL_take m os k x HX.out, ← EOUT.out]
                  unfold stepS
                  rw [if_neg (fun e => HNS.out (HSK.out.1 e))]
                  have : knownS out x = false := HKB.out.symm
                  rw [if_neg (by rw [this]; decide)])
                obtain ⟨isum, his, his0, his1, his2⟩ := info_parts info_sel
                obtain ⟨q1, q2⟩ := op_get HOK.out.key.1
                have c33 : wr.cell? ⟨G, 33, none⟩ = some (.slice x.sel.a nv x.sel.c) := h37.cell_is (by rw [List.getElem?_toArray, ENV.out]; exact q1)
                have c34 : wr.cell? ⟨G, 34, none⟩ = some (.int .u64 (sv : Int)) := h37.cell_is (by rw [List.getElem?_toArray, ESV.out]; exact q2)
                have hkx := op_key h37
                obtain ⟨LX, hLX⟩ : ∃ L, L = bcells x.sel.key := ⟨_, rfl⟩
                obtain ⟨C, hC⟩ : ∃ l, l = x.pick.cells := ⟨_, rfl⟩
                have hbd : ∀ W, (Instr.build 63 #[(0, .agg LX.toArray), (1, .slice x.sel.a nv x.sel.c), (2, .int .u64 (bits BinOp.and .u64 (sv : Int) 281474976710655))]).run Tryd.prog W = .ok (.agg C.toArray) W := fun W => by
                  rw [hLX, build_sel _ HOK.out.key.1, and_48 _ (by omega), hC, ENV.out, ESV.out]
                  rfl
                rw [← hLX] at hkx
                have HKX := Lib.hid hkx
                have HBD := Lib.hid hbd
                have SZLX := Lib.hid (show (Tryd.prog.info? 27).map (·.size) = some LX.length by rw [hLX, bcells_length, x.sel.h.1]; kernel_rfl)
                have HCL := Lib.hid (show C.length = 34 by rw [hC]; exact Sel.len' _)
                have HC1 := Lib.hid (show ∀ v ∈ C, v.oneCell' = true by rw [hC]; exact Sel.one _)
                have HCE := Lib.hid hC
                have HZ34 := Lib.hid (show (Value.agg (Sel.cells ⟨List.replicate 32 0, none, 0, [], 0, z32k⟩).toArray).cells.size = 34 by kernel_rfl)
                have HML2 := Lib.hid (show out.length + 1 ≤ maxLen by unfold maxLen; have := ELN.out; omega)
                have HBYT := Lib.hid (show (out.length + 1) * 64 ≤ 140737488355328 by have := ELN.out; omega)
                have HBS := Lib.hid (show w.heap.size ≤ (wr.alloc (.cells C.toArray 63)).heap.size by show _ ≤ (wr.heap.push _).size; rw [Array.size_push]; have := HS7.out; omega)
                obtain ⟨lo, hlo⟩ : ∃ j, j = out.length := ⟨_, rfl⟩
                have hq3 : q = lo := by rw [hlo]; exact ELN.out
                have hown : wr.ownsRow w.heap.size 63 34 (.slice oa q oc) lo (out.flatMap Sel.cells) := by have := HG7.out.2.1; rw [← hlo] at this; exact this
                rw [← hq3] at hown
                have HOWN := Lib.hid hown
                rw [← hlo, ← hq3] at HML2 HBYT
                have hend : ∀ g6 cap6 w6, w6.ownsRow w.heap.size 63 34 (.slice (some ⟨g6, 0, none⟩) (q + 1) cap6) (q + 1) (out.flatMap Sel.cells ++ C) → (wr.alloc (.cells C.toArray 63)).grownBy w6 (Value.slice oa q oc).ownBlock →
                    Got w w.heap.size (someL m (os.take (k + 1))) (.slice (some ⟨g6, 0, none⟩) (q + 1) cap6) w6 := fun g6 cap6 w6 ho6 hg6 => by
                  have hob : ∀ k, (Value.slice oa q oc).ownBlock = some k → w.heap.size ≤ k := fun k hk => by
                    rcases HOWN.out.2 with ⟨e2, _⟩ | ⟨gs, cap, cur, e2, hbase, _⟩
                    · rw [e2] at hk; simp [Value.ownBlock] at hk
                    · rw [e2] at hk
                      simp [Value.ownBlock] at hk
                      omega
                  have hk6 : Kept (fun k => (Value.slice oa q oc).ownBlock = some k) wr w6 := ((Kept.refl _ wr).alloc _).grown hg6 (fun k e => .inl e)
                  rw [HEQ.out]
                  refine ⟨⟨_, _, _, rfl⟩, ?_, HG7.out.2.2.trans (hk6.below HS7.out (fun k e => hob k e))⟩
                  rw [List.length_append, List.flatMap_append, ← hlo, ← hq3]
                  simpa [← HCE.out] using ho6
                have HEND := Lib.hid hend
                clear hkx hbd hC hLX h37 q1 q2 hend hown hlo hq3
                go_wp2_with (first
                  | (refine wpList_load_midG (by kernel_rfl) 27 (.tmp 52) rfl G 1 rfl LX _ HKX.out Tryd.underlying27 rfl SZLX.out ?_)
                  | (refine wpList_build_run (by kernel_rfl) 63 _ rfl #[(0, .agg LX.toArray), (1, .slice x.sel.a nv x.sel.c), (2, .int .u64 (bits BinOp.and .u64 (sv : Int) 281474976710655))] (by kernel_rfl) (.agg C.toArray) (HBD.out _) ?_)
                  | (refine wpList_build1 rfl 60 63 (.tmp 61) rfl isum _ Tryd.underlying60 his his0 C (by rw [his1, HCL.out]) (by rw [HCL.out]; kernel_rfl) (by rw [HCL.out]; decide) (by rw [HCL.out]; decide) rfl ?_)
                  | (at_builtin; refine wpList_append_lies _ rfl (.tmp 51) (.tmp 62) 60 rfl w.heap.size 63 isum _ 34 64 Tryd.underlying60 his his0 his1 his2 HZ34.out (by decide) _ q _ rfl (HOWN.out.alloc _) ⟨wr.heap.size, 0, none⟩ 1 1 C rfl HCL.out (World.news_of_block (cs := C.toArray) (heap_alloc_new wr _)) HC1.out (by decide) HML2.out HBYT.out HBS.out _ rfl ?_; intro g6 cap6 w6 hown6 hgr6 hat6 hlt6))
                have hfin := HEND.out g6 cap6 w6 hown6 hgr6
                have HFIN := Lib.hid hfin
                clear hfin hown6 hgr6 hat6 hlt6
                go_wp2
                go_roundw
                case rel => exact ⟨k + 1, by go_num, by omega, HFIN.out⟩
                case measure => simp [intOf]; omega
    · obtain rfl : k = N := by omega
      have HALL := Lib.hid (show os.take k = os from List.take_of_length_le (by rw [HOS.out.len]; exact Nat.le_refl _))
      go_wp2
      go_ret
      refine ⟨_, rfl, ?_⟩
      rw [← HALL.out]
      exact HGOT.out
end Go.Proofs.YtcpomddkehhkkaaDoor
