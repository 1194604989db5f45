/- The walk of MsumRuns. -/
import Derived.Test.YtngmpcmeebcdmaaDoorRuns1
namespace Go.Proofs.YtngmpcmeebcdmaaDoor
set_option linter.unusedVariables false
set_option linter.unusedSimpArgs false
open Go.ChangeShapes Go.WideShapes Go.ChangeAt Go.RowKit Go.Maps

/-- behind k steps. -/
def RunI (K s0 : List Wd) (w : World) (g k : Nat) (ov : Value) (wr : World) : Prop := ∃ xs a n c, ov = .slice a n c ∧ n ≤ k ∧ DifK xs ∧ (∀ x ∈ xs, x.ok w) ∧ RunW K s0 w wr g (xs.map Sel.leaf) xs a n c
/-- bytes of one's own, whatever they are. -/
def MineAt (w : World) (ma : Option Addr) (n lo hi : Nat) : Prop := 0 < n → ∃ b cur, ma = some ⟨b, 0, none⟩ ∧ lo ≤ b ∧ b < hi ∧ Has w b 5 cur ∧ n ≤ cur.size ∧ ∀ j, j < n → ∃ z : Int, cur[j]? = some (.int .u8 z)
theorem MineAt.of_own {w : World} {base n c : Nat} {a : Option Addr} {bs : List Nat} (h : w.ownsRow base 5 1 (.slice a n c) n (bcells bs)) : MineAt w a n base w.heap.size := fun hn => by
  obtain ⟨g, cap, cur, e, hB, hh, h1, h2, h3, h4⟩ := own_open h hn
  injection e with e1 e2 e3
  have hl := h.1
  refine ⟨g, cur, e1, hB, hh.lt, hh, by omega, fun j hj => ?_⟩
  rw [h4 j (by omega)]
  have hj2 : j < bs.length := by rw [bcells_length] at hl; omega
  exact ⟨_, bcells_get bs j hj2⟩
theorem MineAt.kept {S : Nat → Prop} {w w' : World} {a : Option Addr} {n lo hi : Nat} (h : MineAt w a n lo hi) (hk : Kept S w w') (hs : ∀ k, S k → ¬ (lo ≤ k ∧ k < hi)) : MineAt w' a n lo hi := fun hn => by
  obtain ⟨b, cur, e1, e2, e3, h1, h2, h3⟩ := h hn
  exact ⟨b, cur, e1, e2, e3, h1.kept hk (fun e => hs b e ⟨e2, e3⟩), h2, h3⟩
/-- digits that lie between two blocks. -/
def DigZ (lo hi : Nat) (w : World) (v : Value) (ds : List Nat) : Prop := IsD w v ds ∧ ∀ A m k, v = .slice (some A) m k → 0 < ds.length → lo ≤ A.block ∧ A.block < hi
theorem IsDN.band {lo : Nat} {w : World} {v : Value} {ds : List Nat} (h : IsDN lo w v ds) : DigZ lo w.heap.size w v ds := by
  obtain ⟨⟨a, c, rfl, hd⟩, h2⟩ := h
  refine ⟨⟨a, c, rfl, hd⟩, fun A m k e hn => ⟨h2 A m k e, ?_⟩⟩
  obtain ⟨b, o, e2, hb, hr⟩ := hd.at_ hn
  injection e with e
  rw [e] at e2
  injection e2 with e2
  rw [e2]; exact hb
theorem DigZ.kept {lo hi : Nat} {S : Nat → Prop} {w w' : World} {v : Value} {ds : List Nat} (h : DigZ lo hi w v ds) (hk : Kept S w w') (hs : ∀ k, S k → ¬ (lo ≤ k ∧ k < hi)) : DigZ lo hi w' v ds := by
  obtain ⟨⟨a, c, rfl, hd⟩, h2⟩ := h
  refine ⟨⟨a, c, rfl, hd.len, hd.cap, fun hn => ?_⟩, h2⟩
  obtain ⟨b, o, e, hb, hr⟩ := hd.at_ hn
  subst e
  have hlo := h2 _ _ _ rfl hn
  exact ⟨b, o, rfl, by have := hk.size; omega, fun i hi => cell_held hk (hr i hi) (fun e => hs b e hlo)⟩
theorem sumX_le (xs : List Sel) (j : Nat) : sumX (xs.take j) ≤ sumX xs := by
  have := congrArg sumX (List.take_append_drop j xs)
  unfold sumX at this ⊢
  rw [List.map_append, List.sum_append] at this
  omega
theorem at_byte (b n c k : Nat) (hk : k < n) (w : World) : (Instr.indexAt 29 (.slice (some ⟨b, 0, none⟩) n c) (.int .i64 (k : Int))).run Tryd.prog w = .ok (.pointer (some ⟨b, k, none⟩)) w := by
  have hu : Tryd.prog.underlying 29 = some (.slice (Tryd.prog.elem 29)) := by kernel_rfl
  have he : Tryd.prog.elem 29 = 5 := by kernel_rfl
  have hz : ∀ w, (sizeOf 5).run Tryd.prog w = .ok 1 w := fun w => by kernel_rfl
  rw [run_indexAt_slice w 29 ⟨b, 0, none⟩ n c .i64 (k : Int) hu, if_pos ⟨by omega, by omega⟩, he, hz]
  simp only [Result.andThen, Int.toNat_natCast, Addr.add_mid, Nat.mul_one, Nat.zero_add]
theorem at_selR (b n c k : Nat) (hk : k < n) (w : World) : (Instr.indexAt 26 (.slice (some ⟨b, 0, none⟩) n c) (.int .i64 (k : Int))).run Tryd.prog w = .ok (.pointer (some ⟨b, k * 34, none⟩)) w := by
  have hu : Tryd.prog.underlying 26 = some (.slice (Tryd.prog.elem 26)) := by kernel_rfl
  have he : Tryd.prog.elem 26 = 38 := by kernel_rfl
  have hz : ∀ w, (sizeOf 38).run Tryd.prog w = .ok 34 w := fun w => by kernel_rfl
  rw [run_indexAt_slice w 26 ⟨b, 0, none⟩ n c .i64 (k : Int) hu, if_pos ⟨by omega, by omega⟩, he, hz]
  simp only [Result.andThen, Int.toNat_natCast, Addr.add_mid, Nat.zero_add]
theorem at_hashR (b o n c k : Nat) (hk : k < n) (w : World) : (Instr.indexAt 50 (.slice (some ⟨b, o, none⟩) n c) (.int .i64 (k : Int))).run Tryd.prog w = .ok (.pointer (some ⟨b, o + k * 32, none⟩)) w := by
  have hu : Tryd.prog.underlying 50 = some (.slice (Tryd.prog.elem 50)) := by kernel_rfl
  have he : Tryd.prog.elem 50 = 28 := by kernel_rfl
  have hz : ∀ w, (sizeOf 28).run Tryd.prog w = .ok 32 w := fun w => by kernel_rfl
  rw [run_indexAt_slice w 50 ⟨b, o, none⟩ n c .i64 (k : Int) hu, if_pos ⟨by omega, by omega⟩, he, hz]
  simp only [Result.andThen, Int.toNat_natCast, Addr.add_mid]
theorem digs_smallR {x : Nat} (h : x < 18446744073709551616) : (digs x).length ≤ 1000 := by
  have := (digs_len x 8).2 (by rw [show 256 ^ 8 = 18446744073709551616 from rfl]; exact h)
  omega
theorem put_why {xs : List Sel} {l : Lf} {n : Nat} (hl : xs.length = n) (hn : n ≤ 60) (hv : l.v.length ≤ 1000) (X : Nat) (hX : X = sumT (xs.map Sel.leaf) - wasS (xs.map Sel.leaf) l.k) :
    putE (xs.map Sel.leaf) l = if l.v.length = 0 ∧ l.s = 0 then 1 else if X + l.s < 18446744073709551616 then 0 else 10 := by
  unfold putE
  rw [hX]
  split
  · rfl
  · rw [if_neg (by omega), if_neg (fun e => by have := e.2; rw [List.length_map] at this; omega)]
set_option maxRecDepth 100000 in
set_option maxHeartbeats 8000000 in
theorem runs_walk (K s0 : List Wd) (w : World) (hT : Tabs K s0 w) (A : Option Addr) (N c : Nat) (os : List OpT) (hos : OpsAt w A N os) :
    Calls Tryd.prog 3 #[.slice A N c] w fun e w' => e = .returned (.bool true) ∧ Below w.heap.size w w' := by
  obtain ⟨Z, hz, hzs, hzn⟩ := zero_op
  have HT := Lib.hid hT
  have HLOW := Lib.hid hT.low
  have HL8 := Lib.hid hT.len
  have HOS := Lib.hid hos
  have hfew := hos.few
  clear hT hos
  go_enter Tryd.func3, Tryd.ntmps3
  go_wp2_with fail
  refine (headT_is K s0 w HT.out).mono ?_
  rintro _ w2 ⟨rfl, hb2⟩
  have hnew := newT_is K s0 (fun j => w2.heap.size ≤ j) w2 (fun _ h => h)
  have HNEW := Lib.hid hnew
  have HB2 := Lib.hid hb2
  clear hb2 hnew
  go_wp2_with fail
  refine HNEW.out.mono ?_
  rintro _ w3 ⟨g, rfl, htr, hb3, hg⟩
  have hrun : RunI K s0 w g 0 (.slice (some ⟨w3.heap.size, 0, none⟩) 0 0) (w3.alloc (.cells #[] 38)) := by
    have h1 := HB2.out.size
    have h2 := hb3.size
    refine ⟨[], some ⟨w3.heap.size, 0, none⟩, 0, 0, rfl, Nat.le_refl _, List.nodup_nil, fun x hx => (by cases hx), ⟨World.ownsRow_made w3 #[] 0 (by omega) (by decide) rfl, rfl, ?_, ?_⟩⟩
    · exact (HB2.out.trans (hb3.mono h1)).alloc (by omega) _
    · refine (htr.zone (S' := zoneA w.heap.size (some ⟨w3.heap.size, 0, none⟩)) (fun j hj hz => ⟨by have hz' : w2.heap.size ≤ j := hz; omega, fun A e => ?_⟩)).quiet ((Below.refl _ _).alloc (Nat.le_refl _) _)
      injection e with e
      subst e
      show w3.heap.size ≠ j
      omega
  have HRUN := Lib.hid hrun
  clear htr hb3 hg hrun HNEW HB2
  go_wp2_with fail
  generalize w3.alloc (.cells #[] 38) = W0 at HRUN ⊢
  generalize w3.heap.size = G0 at HRUN ⊢
  go_loopw [4, 5] (fun ov i wr => ∃ k : Nat, i = .int .i64 (k : Int) ∧ k ≤ N ∧ k ≤ 60 ∧ RunI K s0 w g k ov wr) (fun _ i _ => N - (intOf i).toNat)
  case atStart => exact ⟨0, rfl, Nat.zero_le _, Nat.zero_le _, HRUN.out⟩
  case round =>
    obtain ⟨k, rfl, hk, hk60, xs, a, n, c1, rfl, hnk, hdif, hoks, hrw⟩ := hrel
    clear HRUN
    obtain ⟨w1, hw1⟩ : ∃ y, y = wr := ⟨_, rfl⟩
    subst hw1
    have HRW := Lib.hid hrw
    have HDIF := Lib.hid hdif
    have HOKS := Lib.hid hoks
    clear hrw hdif hoks
    by_cases hlt : k < N ∧ k < 60
    · obtain ⟨hltN, hlt60⟩ := hlt
      obtain ⟨x, hx⟩ : ∃ x, os[k]? = some x := ⟨_, List.getElem?_eq_getElem (by rw [HOS.out.len]; exact hltN)⟩
      have hxok := HOS.out.ok x (List.mem_of_getElem? hx)
      obtain ⟨sb, so, hA1, hA2, hr⟩ := HOS.out.at_ (by omega)
      subst hA1
      have hrwx := rangeAt_kept (hr k x hx) (Kept.of_below (S := fun _ => False) HRW.out.bel) (fun h => h)
      have hl35 := OpT.len hxok.key.1
      have HRX := Lib.hid hrwx
      have SZ := Lib.hid (show (Tryd.prog.info? 34).map (·.size) = some x.cells.length by rw [hl35]; kernel_rfl)
      have SZA := Lib.hid (show (Tryd.prog.info? 34).map (·.size) = some x.cells.toArray.size by rw [List.size_toArray]; exact SZ.out)
      have HZZ := Lib.hid (show Z.size = x.cells.toArray.size by rw [hzs, List.size_toArray, hl35])
      have HONE := Lib.hid (show x.cells.toArray.all (·.oneCell') = true from all_oneCell_toArray (OpT.one x))
      have hnw : ∀ C, Has ((w1.alloc (.cells Z 34)).setRow w1.heap.size C) w1.heap.size 34 C ∧ Kept (fun _ => False) w1 ((w1.alloc (.cells Z 34)).setRow w1.heap.size C) ∧ ((w1.alloc (.cells Z 34)).setRow w1.heap.size C).heap.size = w1.heap.size + 1 := fun C => by
        rw [World.setRow_alloc_new]
        exact ⟨Has.new w1 _ _, (Kept.refl _ _).alloc _, by simp⟩
      have HNW := Lib.hid hnw
      have HOK := Lib.hid hxok
      clear hrwx hl35 hnw hxok hr hA2
      go_upto_region 9 with (first
        | (refine wpList_load_mid rfl 34 (.tmp 40) rfl sb (so + k * 35) rfl x.cells _ HRX.out Tryd.underlying34 rfl SZ.out ?_)
        | (refine wpList_store_row rfl 34 (.tmp 6) (.tmp 41) rfl w1.heap.size x.cells.toArray rfl rfl 34 Z (heap_alloc_new w1 _) SZA.out HZZ.out HONE.out ?_))
      obtain ⟨h3, hk3, hsz3⟩ := HNW.out x.cells.toArray
      have h9 := HRW.out.kept hk3
      have hB0 := hk3.below (Nat.le_refl _) (fun _ h => h.elim)
      clear HNW HRX hk3
      generalize (w1.alloc (.cells Z 34)).setRow w1.heap.size x.cells.toArray = W9 at h3 h9 hsz3 hB0 ⊢
      obtain ⟨G, hG⟩ : ∃ G, G = w1.heap.size := ⟨_, rfl⟩
      rw [← hG] at h3
      rw [← hG]
      have HB0 := Lib.hid hB0
      have HGG := Lib.hid (And.intro hG hsz3)
      obtain ⟨q1, q2⟩ := op_get HOK.out.key.1
      obtain ⟨nv, hnv⟩ : ∃ j, j = x.sel.v.length := ⟨_, rfl⟩
      obtain ⟨sv, hsv⟩ : ∃ j, j = x.sel.s := ⟨_, rfl⟩
      obtain ⟨kk, hkk⟩ : ∃ j, j = x.K := ⟨_, rfl⟩
      have hcl : ∀ v, Has v G 34 x.cells.toArray → v.cell? ⟨G, 33, none⟩ = some (.slice x.sel.a nv x.sel.c) ∧ v.cell? ⟨G, 34, none⟩ = some (.int .u64 (sv : Int)) ∧ v.cell? ⟨G, 0, none⟩ = some (.int .i64 kk) := fun v h => by
        rw [hnv, hsv, hkk]
        exact ⟨h.cell_is (by rw [List.getElem?_toArray]; exact q1), h.cell_is (by rw [List.getElem?_toArray]; exact q2), h.cell_is (by rw [List.getElem?_toArray]; rfl)⟩
      obtain ⟨c33, -, -⟩ := hcl _ h3
      have hnl : nv ≤ 9223372036854775807 := by rw [hnv]; exact HOK.out.few
      have HCL := Lib.hid hcl
      have H3 := Lib.hid h3
      have H9 := Lib.hid h9
      have ENV := Lib.hid hnv
      have ESV := Lib.hid hsv
      have EKK := Lib.hid hkk
      clear h3 h9 hG hsz3 hB0 hnv hsv hkk q1 q2 hcl
      simp only [Act.put]
      by_cases hlong : 1000 < nv
      · have hlong' : (1000 : Int) < (nv : Int) := by omega
        have HEND := Lib.hid (show RunI K s0 w g (k + 1) (.slice a n c1) W9 from ⟨xs, a, n, c1, rfl, by omega, HDIF.out, HOKS.out, H9.out⟩)
        go_wp2
        go_roundw
        case rel => exact ⟨k + 1, by go_num, by omega, by omega, HEND.out⟩
        case measure => simp [intOf]; omega
      have hlong' : ¬ (1000 : Int) < (nv : Int) := by omega
      have HSH := Lib.hid (show nv ≤ 1000 by omega)
      have HXOK := Lib.hid (show x.sel.ok w from ⟨HOK.out.key, HOK.out.s, by have := HSH.out; have := ENV.out; omega, HOK.out.bytes⟩)
      have HLN := Lib.hid H9.out.len
      have HFIT := Lib.hid (show sumX xs < 18446744073709551616 by have := H9.out.tr.sum; rwa [sumX_leaf] at this)
      clear hlong
      go_wp2_with fail
      generalize hW10 : W9.alloc (.cells #[] 3) = W10
      generalize hG10 : W9.heap.size = G10
      have hb10 : Below w1.heap.size w1 W10 := by rw [← hW10]; exact HB0.out.alloc HB0.out.size _
      have hz10 : IsDN w1.heap.size W10 (.slice (some ⟨G10, 0, none⟩) 0 0) (digs 0) := by
        rw [digs_zero, ← hG10]
        refine ⟨⟨_, _, rfl, rfl, Nat.le_refl _, fun h => absurd h (by decide)⟩, fun A m k e => ?_⟩
        injection e with e
        injection e with e
        rw [← e]
        exact HB0.out.size
      have HB10 := Lib.hid hb10
      have HZ10 := Lib.hid hz10
      have H310 := Lib.hid (show Has W10 G 34 x.cells.toArray by rw [← hW10]; exact H3.out.below ((Below.refl _ _).alloc (Nat.le_refl _) _) H3.out.lt)
      clear hW10 hG10 hb10 hz10 c33
      go_loopw [7, 8, 50] (fun av sv jv wy => ∃ (q : Nat) (ai : Int), jv = .int .i64 (q : Int) ∧ q ≤ n ∧ av = .int .i64 ai ∧ ai = atI xs x.sel.key q ∧ (∃ sa sn sc, sv = .slice sa sn sc) ∧ IsDN w1.heap.size wy sv (digs (othS xs x.sel.key q)) ∧ Has wy G 34 x.cells.toArray ∧ Below w1.heap.size w1 wy) (fun _ _ jv _ => n - (intOf jv).toNat)
      case atStart => exact ⟨0, -1, rfl, Nat.zero_le _, rfl, rfl, ⟨_, _, _, rfl⟩, HZ10.out, H310.out, HB10.out⟩
      case round =>
        obtain ⟨q, ai, rfl, hq, rfl, hai, ⟨sa, sn, sc, rfl⟩, hsd, h3y, hby⟩ := hrel
        have EAI := Lib.hid hai
        have HSD := Lib.hid hsd
        have H3Y := Lib.hid h3y
        have HBY := Lib.hid hby
        clear hai hsd h3y hby HZ10 H310 HB10 H3 H9
        by_cases hq2 : q < n
        · as_aux_lemma =>
            obtain ⟨y, hy⟩ : ∃ y, xs[q]? = some y := ⟨_, List.getElem?_eq_getElem (by rw [HLN.out]; exact hq2)⟩
            obtain ⟨ab, hab, -, -, hr⟩ := (HRW.out.below HBY.out).row (by omega)
            subst hab
            have hry := hr q y hy
            have hat := at_selR ab n c1 q hq2
            obtain ⟨ZS, hzS, hzsS, hznS⟩ := zero_sel
            have HRY := Lib.hid hry
            have SZY := Lib.hid (show (Tryd.prog.info? 38).map (·.size) = some y.cells.length by rw [Sel.len']; kernel_rfl)
            have SZYA := Lib.hid (show (Tryd.prog.info? 38).map (·.size) = some y.cells.toArray.size by rw [List.size_toArray]; exact SZY.out)
            have HZY := Lib.hid (show ZS.size = y.cells.toArray.size by rw [hzsS, List.size_toArray, Sel.len'])
            have HONEY := Lib.hid (show y.cells.toArray.all (·.oneCell') = true from all_oneCell_toArray (Sel.one y))
            have hnw : ∀ C, Has ((wr.alloc (.cells ZS 38)).setRow wr.heap.size C) wr.heap.size 38 C ∧ Kept (fun _ => False) wr ((wr.alloc (.cells ZS 38)).setRow wr.heap.size C) := fun C => by
              rw [World.setRow_alloc_new]
              exact ⟨Has.new wr _ _, (Kept.refl _ _).alloc _⟩
            have HNWY := Lib.hid hnw
            have EY := Lib.hid hy
            clear hry hr hnw hy
            go_upto_region 15 with (first
              | (refine wpList_load_mid rfl 38 (.tmp 53) rfl ab (q * 34) rfl y.cells _ HRY.out Tryd.underlying38 rfl SZY.out ?_)
              | (refine wpList_store_row rfl 38 (.tmp 10) (.tmp 54) rfl wr.heap.size y.cells.toArray rfl rfl 38 ZS (heap_alloc_new wr _) SZYA.out HZY.out HONEY.out ?_))
            obtain ⟨h7, hk7⟩ := HNWY.out y.cells.toArray
            have hb7 : Below w1.heap.size w1 ((wr.alloc (.cells ZS 38)).setRow wr.heap.size y.cells.toArray) := HBY.out.trans (hk7.below HBY.out.size (fun _ h => h.elim))
            have hsd7 := HSD.out.kept hk7 (fun _ e _ => e.elim)
            have h37 := H3Y.out.kept hk7 (fun e => e.elim)
            clear HNWY HRY hk7
            generalize (wr.alloc (.cells ZS 38)).setRow wr.heap.size y.cells.toArray = W7 at h7 hb7 hsd7 h37 ⊢
            generalize wr.heap.size = G7 at h7 ⊢
            obtain ⟨q1, q2⟩ := sel_get y.h.1
            obtain ⟨ys, hys⟩ : ∃ j, j = y.s := ⟨_, rfl⟩
            have c33 : W7.cell? ⟨G7, 33, none⟩ = some (.int .u64 (ys : Int)) := h7.cell_is (by rw [List.getElem?_toArray, hys]; exact q2)
            have hky := sel_key h7
            have hkx := op_key h37
            have heq := fun W => eq_key y.key x.sel.key y.h x.sel.h W
            obtain ⟨LY, hLY⟩ : ∃ L, L = bcells y.key := ⟨_, rfl⟩
            obtain ⟨LX, hLX⟩ : ∃ L, L = bcells x.sel.key := ⟨_, rfl⟩
            rw [← hLY] at hky
            rw [← hLX] at hkx
            rw [← hLY, ← hLX] at heq
            obtain ⟨eb, heb⟩ : ∃ b : Bool, b = decide (y.key = x.sel.key) := ⟨_, rfl⟩
            rw [← heb] at heq
            have HKY := Lib.hid hky
            have HKX := Lib.hid hkx
            have SZLY := Lib.hid (show (Tryd.prog.info? 27).map (·.size) = some LY.length by rw [hLY, bcells_length, y.h.1]; kernel_rfl)
            have SZLX := Lib.hid (show (Tryd.prog.info? 28).map (·.size) = some LX.length by rw [hLX, bcells_length, x.sel.h.1]; kernel_rfl)
            have HB7 := Lib.hid hb7
            have HSD7 := Lib.hid hsd7
            have H37 := Lib.hid h37
            have EEB := Lib.hid heb
            have EYS := Lib.hid hys
            have hkb : atI xs x.sel.key (q + 1) = (if eb = true then (q : Int) else atI xs x.sel.key q) ∧ othS xs x.sel.key (q + 1) = (if eb = true then othS xs x.sel.key q else othS xs x.sel.key q + ys) := by
              rw [hys, heb]
              show (if (xs[q]?).map (·.key) = some x.sel.key then (q : Int) else atI xs x.sel.key q) = _ ∧ (if (xs[q]?).map (·.key) = some x.sel.key then othS xs x.sel.key q else othS xs x.sel.key q + ((xs[q]?).map (·.s)).getD 0) = _
              rw [EY.out]
              by_cases e : y.key = x.sel.key
              · simp [e]
              · simp [e]
            have HKB := Lib.hid hkb
            clear hky hkx hLY hLX heb hys h7 hb7 hsd7 h37 hkb q1 q2 HSD H3Y HBY
            simp only [Act.put]
            cases eb with
            | true =>
              go_wp2_with (first
                | (refine wpList_load_mid rfl 27 (.tmp 55) rfl G7 0 rfl LY _ HKY.out Tryd.underlying27 rfl SZLY.out ?_)
                | (refine wpList_load_mid rfl 28 (.tmp 57) rfl G 1 rfl LX _ HKX.out Tryd.underlying28 rfl SZLX.out ?_))
              go_roundw
              case rel =>
                obtain ⟨p1, p2⟩ := HKB.out
                rw [if_pos rfl] at p1 p2
                exact ⟨q + 1, (q : Int), by go_num, by omega, rfl, p1.symm, ⟨_, _, _, rfl⟩, by rw [p2]; exact HSD7.out, H37.out, HB7.out⟩
              case measure => simp [intOf]; omega
            | false =>
              have hx1 : othS xs x.sel.key q < 18446744073709551616 := by
                have h1 := oth_le xs x.sel.key q (by have := HLN.out; omega)
                have h2 := sumX_le xs q
                have h3 := HFIT.out
                omega
              have hys : ys < 18446744073709551616 := by
                have := (HOKS.out y (List.mem_of_getElem? EY.out)).s
                rw [EYS.out]; exact this
              have hof := ofN_is W7 ys hys
              have HOF := Lib.hid hof
              have HX1 := Lib.hid hx1
              have HYS := Lib.hid hys
              clear hx1 hys hof
              go_wp2_with (first
                | (refine wpList_load_mid rfl 27 (.tmp 55) rfl G7 0 rfl LY _ HKY.out Tryd.underlying27 rfl SZLY.out ?_)
                | (refine wpList_load_mid rfl 28 (.tmp 57) rfl G 1 rfl LX _ HKX.out Tryd.underlying28 rfl SZLX.out ?_))
              refine HOF.out.mono ?_
              rintro _ w8 ⟨⟨v8, rfl, hv8⟩, hd8⟩
              obtain ⟨⟨a8, c8, rfl, hd1⟩, -⟩ := hv8
              obtain ⟨⟨ax, cx, ex, hd0⟩, -⟩ := HSD7.out.below hd8
              injection ex with ex1 ex2 ex3
              subst ex1 ex2 ex3
              have hadd := addN_is w8 _ _ _ _ _ _ _ _ hd0 hd1 (digs_smallR HX1.out) (digs_smallR HYS.out)
              have HADD := Lib.hid hadd
              have HB8 := Lib.hid (HB7.out.trans (hd8.mono HB7.out.size))
              have H38 := Lib.hid (H37.out.below hd8 H37.out.lt)
              clear hadd hd0 hd1 hd8 HOF HSD7 H37 c33
              go_wp2_with fail
              refine HADD.out.mono ?_
              rintro _ w9 ⟨⟨v9, rfl, hv9⟩, hd9⟩
              obtain ⟨⟨a9, c9, rfl, hd2⟩, hlo⟩ := hv9
              have HV9 := Lib.hid (show IsDN w1.heap.size w9 (.slice a9 (digs (othS xs x.sel.key q + ys)).length c9) (digs (othS xs x.sel.key q + ys)) from ⟨⟨a9, c9, rfl, hd2⟩, fun A m k e => Nat.le_trans HB8.out.size (hlo A m k e)⟩)
              have HB9 := Lib.hid (HB8.out.trans (hd9.mono HB8.out.size))
              have H39 := Lib.hid (H38.out.below hd9 H38.out.lt)
              clear hd2 hlo hd9 HADD HB8 H38
              go_wp2
              go_roundw
              case rel =>
                obtain ⟨p1, p2⟩ := HKB.out
                rw [if_neg (by decide)] at p1 p2
                exact ⟨q + 1, ai, by go_num, by omega, rfl, by rw [p1]; exact EAI.out, ⟨_, _, _, rfl⟩, by rw [p2]; exact HV9.out, H39.out, HB9.out⟩
              case measure => simp [intOf]; omega
        · as_aux_lemma =>
            obtain rfl : q = n := by omega
            obtain ⟨w5, hw5⟩ : ∃ y, y = wr := ⟨_, rfl⟩
            subst hw5
            have h5 := HRW.out.below HBY.out
            obtain ⟨b33, b34, b0⟩ := HCL.out _ H3Y.out
            obtain ⟨X, hX⟩ : ∃ X, X = othS xs x.sel.key q := ⟨_, rfl⟩
            have hsd := HSD.out
            rw [← hX] at hsd
            have HSD5 := Lib.hid hsd
            have HX := Lib.hid (show X < 18446744073709551616 ∧ X = sumT (xs.map Sel.leaf) - wasS (xs.map Sel.leaf) x.sel.key by
              have h1 := oth_le xs x.sel.key q (by have := HLN.out; omega)
              have h2 := sumX_le xs q
              have h3 := HFIT.out
              refine ⟨by omega, ?_⟩
              rw [← oth_sum HDIF.out, HLN.out]; exact hX)
            obtain ⟨LX, hLX⟩ : ∃ L, L = bcells x.sel.key := ⟨_, rfl⟩
            have hkf : ∀ v, Has v G 34 x.cells.toArray → v.rangeAt G 1 LX := fun v h => by rw [hLX]; exact op_key h
            have HKF := Lib.hid hkf
            have ELX := Lib.hid hLX
            have SZLX := Lib.hid (show (Tryd.prog.info? 28).map (·.size) = some LX.length by rw [hLX, bcells_length, x.sel.h.1]; kernel_rfl)
            have H5 := Lib.hid h5
            have hat5 := at_bound xs x.sel.key q
            rw [← EAI.out] at hat5
            have HAT := Lib.hid hat5
            clear hsd hX hkf hLX h5 hat5 HSD
            by_cases hK0 : kk = 0
            · subst hK0
              have hby : ∀ x0 ∈ x.sel.v, x0 < 256 := by obtain ⟨_, _, _, _, la, _⟩ := HXOK.out.bytes; exact la
              have HBYT := Lib.hid hby
              have hcp := copy_is w5 (.slice x.sel.a x.sel.v.length x.sel.c) x.sel.v (HXOK.out.bytes.alive H5.out.bel H5.out.bel.size) (by have := HXOK.out.short; omega)
              rw [← ENV.out] at hcp
              have HCP := Lib.hid hcp
              clear hcp hby
              go_wp2_with fail
              refine HCP.out.mono ?_
              rintro _ w6 ⟨⟨ma, mc, rfl, hown⟩, hd6⟩
              have hb6 : Below w1.heap.size w1 w6 := HBY.out.trans (hd6.mono HBY.out.size)
              have hsv : sv < 18446744073709551616 := by rw [ESV.out]; exact HXOK.out.s
              have hput := HRW.out.putC hb6 (own_bytes hown ENV.out.symm HBYT.out (Nat.le_refl _)) HL8.out x.sel.key x.sel.h sv hsv (by have := HXOK.out.short; omega)
              unfold arr at hput
              rw [← ELX.out] at hput
              obtain ⟨pe, hpe⟩ : ∃ pe, pe = putE (xs.map Sel.leaf) ⟨x.sel.key, x.sel.v, sv⟩ := ⟨_, rfl⟩
              rw [← hpe] at hput
              have EPU := Lib.hid hpe
              rw [put_why (n := q) HLN.out (by omega) HXOK.out.short X HX.out.2] at hpe
              change pe = if x.sel.v.length = 0 ∧ sv = 0 then 1 else if X + sv < 18446744073709551616 then 0 else 10 at hpe
              rw [← ENV.out] at hpe
              have h36 := H3Y.out.below hd6 H3Y.out.lt
              obtain ⟨d33, d34, -⟩ := HCL.out _ h36
              have HPUT := Lib.hid hput
              have HPE := Lib.hid hpe
              have HSV := Lib.hid hsv
              have H36 := Lib.hid h36
              have HK6 := Lib.hid (HKF.out _ h36)
              have HMI := Lib.hid (MineAt.of_own hown)
              have HSD6 := Lib.hid (HSD5.out.band.kept (Kept.of_below (S := fun _ => False) hd6) (fun _ e _ => e.elim))
              have HS := Lib.hid (show w1.heap.size = G ∧ G < w5.heap.size ∧ w5.heap.size ≤ w6.heap.size from ⟨HGG.out.1.symm, H3Y.out.lt, hd6.size⟩)
              clear hown hb6 hsv hput hpe h36 HCP b33 b34 b0 hd6
              go_wp2_with (refine wpList_load_mid rfl 28 (.tmp 76) rfl G 1 rfl LX _ HK6.out Tryd.underlying28 rfl SZLX.out ?_)
              refine HPUT.out.mono ?_
              rintro _ w7 ⟨rfl, ⟨S7, hk7, hS7⟩, hany⟩
              have hmi7 := HMI.out.kept hk7 (fun j e => by have := hS7 j e; have := HS.out; omega)
              have h37 := H36.out.kept hk7 (fun e => by have := hS7 G e; have := HS.out; omega)
              have hsd7 := HSD6.out.kept hk7 (fun j e => by have := hS7 j e; have := HS.out; omega)
              obtain ⟨lo5, hlo5⟩ : ∃ j, j = w5.heap.size := ⟨_, rfl⟩
              obtain ⟨hi6, hhi6⟩ : ∃ j, j = w6.heap.size := ⟨_, rfl⟩
              have hany2 : ∀ W2, Kept (fun j => lo5 ≤ j ∧ j < hi6) w7 W2 → RunW K s0 w W2 g (putN (xs.map Sel.leaf) ⟨x.sel.key, x.sel.v, sv⟩) xs a q c1 := fun W2 h => hany W2 _ h (fun j e => by have := HS.out; omega)
              rw [← hlo5, ← hhi6] at hmi7
              rw [← hlo5] at hsd7
              have HS5 := Lib.hid (show w1.heap.size = G ∧ G < lo5 ∧ lo5 ≤ hi6 by have := HS.out; omega)
              have HMI7 := Lib.hid hmi7
              have H37 := Lib.hid h37
              have HSD7 := Lib.hid hsd7
              have HANY := Lib.hid hany2
              clear hmi7 h37 hsd7 hany hany2 hlo5 hhi6 hk7 hS7 HPUT HMI HSD6 d33 d34 HK6 H36 HS
              go_wp2_with fail
              go_loopw [86] (fun jv wy => ∃ p : Nat, jv = .int .i64 (p : Int) ∧ p ≤ nv ∧ MineAt wy ma nv lo5 hi6 ∧ Kept (fun j => lo5 ≤ j ∧ j < hi6) w7 wy) (fun jv _ => nv - (intOf jv).toNat)
              case atStart => exact ⟨0, rfl, Nat.zero_le _, HMI7.out, Kept.refl _ _⟩
              case round =>
                obtain ⟨p, rfl, hp, hmi, hky⟩ := hrel
                have HMIY := Lib.hid hmi
                have HKY := Lib.hid hky
                clear hmi hky HMI7
                by_cases hp2 : p < nv
                · obtain ⟨b, cur, rfl, hb1, hb2, hh, hsz, hz2⟩ := HMIY.out (by omega)
                  obtain ⟨z, hz3⟩ := hz2 p hp2
                  have hcell : wr.cell? ⟨b, p, none⟩ = some (.int .u8 z) := hh.cell_is hz3
                  have hfree := hh.free p
                  have hat := at_byte b nv mc p hp2
                  have hset : ∀ u : Int, MineAt (wr.setCell ⟨b, p, none⟩ (.int .u8 u)) (some ⟨b, 0, none⟩) nv lo5 hi6 ∧ Kept (fun j => lo5 ≤ j ∧ j < hi6) w7 (wr.setCell ⟨b, p, none⟩ (.int .u8 u)) := fun u => by
                    refine ⟨fun _ => ⟨b, _, rfl, hb1, hb2, hh.set p _, by simpa using hsz, fun j hj => ?_⟩, HKY.out.set (p := ⟨b, p, none⟩) (.inl ⟨hb1, hb2⟩) _⟩
                    by_cases e : j = p
                    · subst e
                      exact ⟨u, Array.getElem?_setIfInBounds_self_of_lt (by omega)⟩
                    · obtain ⟨z2, hz4⟩ := hz2 j hj
                      exact ⟨z2, by rw [Array.getElem?_setIfInBounds_ne (by omega)]; exact hz4⟩
                  have HSET := Lib.hid hset
                  clear hset hz3 hsz hh hb1 hb2 hz2
                  go_wp2
                  go_roundw
                  case rel => exact ⟨p + 1, by go_num, by omega, (HSET.out _).1, (HSET.out _).2⟩
                  case measure => simp [intOf]; omega
                · obtain rfl : nv = p := by omega
                  obtain ⟨w8, hw8⟩ : ∃ y, y = wr := ⟨_, rfl⟩
                  subst hw8
                  have h8 := HANY.out _ HKY.out
                  have h38 := H37.out.kept HKY.out (fun e => by have := HS5.out; have := e.1; omega)
                  have hsd8 := HSD7.out.kept HKY.out (fun j e => by have := e.1; omega)
                  have hof := ofN_is w8 sv HSV.out
                  obtain ⟨e33, e34, -⟩ := HCL.out _ h38
                  have H8 := Lib.hid h8
                  have H38 := Lib.hid h38
                  have HSD8 := Lib.hid hsd8
                  have HOF := Lib.hid hof
                  clear h8 h38 hsd8 hof HANY H37 HSD7 HKY HMIY
                  go_wp2_with fail
                  refine HOF.out.mono ?_
                  rintro _ w9 ⟨⟨v9, rfl, hv9⟩, hd9⟩
                  obtain ⟨⟨a9, c9, rfl, hd1⟩, -⟩ := hv9
                  obtain ⟨⟨ax, cx, ex, hd0⟩, -⟩ := HSD8.out.kept (Kept.of_below (S := fun _ => False) hd9) (fun _ e _ => e.elim)
                  injection ex with ex1 ex2 ex3
                  subst ex1 ex2 ex3
                  have hadd := addN_is w9 _ _ _ _ _ _ _ _ hd0 hd1 (digs_smallR HX.out.1) (digs_smallR HSV.out)
                  have HADD := Lib.hid hadd
                  have H39 := Lib.hid (H38.out.below hd9 H38.out.lt)
                  have H9 := Lib.hid (H8.out.below hd9)
                  clear hadd hd0 hd1 hd9 HOF H8 H38 HSD8 e33 e34
                  go_wp2_with fail
                  refine HADD.out.mono ?_
                  rintro _ w10 ⟨⟨v10, rfl, hv10⟩, hd10⟩
                  obtain ⟨⟨a10, c10, rfl, hd2⟩, -⟩ := hv10
                  have hl10 : (digs (X + sv)).length ≤ 1000000 := by
                    have h1 := HX.out.1
                    have h2 := HSV.out
                    have h3 := (digs_len (X + sv) 9).2 (by rw [show 256 ^ 9 = 4722366482869645213696 from rfl]; omega)
                    omega
                  have hnum := num_is w10 a10 _ c10 (X + sv) hd2 hl10
                  obtain ⟨fb, hfb⟩ : ∃ b, b = decide (X + sv < 18446744073709551616) := ⟨_, rfl⟩
                  rw [← hfb] at hnum
                  have HNUM := Lib.hid hnum
                  have HFB := Lib.hid hfb
                  have h310 := H39.out.below hd10 H39.out.lt
                  obtain ⟨f33, f34, -⟩ := HCL.out _ h310
                  have H310 := Lib.hid h310
                  have H10 := Lib.hid (H9.out.below hd10)
                  clear hnum hfb hl10 hd2 hd10 h310 HADD H39 H9
                  have hnl2 : nv ≤ 9223372036854775807 := hnl
                  as_aux_lemma =>
                    go_wp2_with fail
                    refine HNUM.out.mono ?_
                    rintro _ w11 ⟨⟨yy, rfl, -⟩, hw11⟩
                    subst hw11
                    go_wp2_with fail
                    refine (none_is w11 x.sel.a nv x.sel.c sv hnl2).mono ?_
                    rintro _ w12 ⟨rfl, hd12⟩
                    have h12 := H10.out.below hd12
                    have h312 := H310.out.below hd12 H310.out.lt
                    obtain ⟨g33, g34, -⟩ := HCL.out _ h312
                    have H12 := Lib.hid h12
                    have H312 := Lib.hid h312
                    have hstay : pe ≠ 0 → RunI K s0 w g (k + 1) (.slice a q c1) w12 := fun e => by
                      have e2 : putN (xs.map Sel.leaf) ⟨x.sel.key, x.sel.v, sv⟩ = xs.map Sel.leaf := by
                        unfold putN
                        rw [if_neg (by rw [← EPU.out]; exact e)]
                      refine ⟨xs, a, q, c1, rfl, by omega, HDIF.out, HOKS.out, ?_⟩
                      have h := H12.out
                      rw [e2] at h
                      exact h
                    have HSTAY := Lib.hid hstay
                    clear h12 h312 hstay hd12 H10 H310 f33 f34 HNUM
                    by_cases hno : nv = 0 ∧ sv = 0
                    · have e1 := HPE.out
                      rw [if_pos hno] at e1
                      subst e1
                      rw [decide_eq_true hno]
                      have HEND := Lib.hid (HSTAY.out (by decide))
                      clear HSTAY hno
                      go_wp2
                      go_roundw
                      case rel => exact ⟨k + 1, by go_num, by omega, by omega, HEND.out⟩
                      case measure => simp [intOf]; omega
                    · have e1 := HPE.out
                      rw [if_neg hno] at e1
                      rw [decide_eq_false hno]
                      clear hno
                      by_cases hfit : X + sv < 18446744073709551616
                      · rw [if_pos hfit] at e1
                        subst e1
                        have e2 := HFB.out
                        rw [decide_eq_true hfit] at e2
                        subst e2
                        have hT : putN (xs.map Sel.leaf) ⟨x.sel.key, x.sel.v, sv⟩ = putT (xs.map Sel.leaf) x.sel.leaf := by
                          unfold putN
                          rw [if_pos EPU.out.symm, ESV.out]
                          rfl
                        have h12 := H12.out
                        rw [hT] at h12
                        have H12T := Lib.hid h12
                        obtain ⟨C, hC⟩ : ∃ l, l = x.sel.cells := ⟨_, rfl⟩
                        have hbd : ∀ W, (Instr.build 38 #[(0, .agg LX.toArray), (1, .slice x.sel.a nv x.sel.c), (2, .int .u64 (sv : Int))]).run Tryd.prog W = .ok (.agg C.toArray) W := fun W => by
                          rw [ELX.out, build_sel _ x.sel.h.1, hC, ENV.out, ESV.out]
                          rfl
                        obtain ⟨ZS, hzS, hzsS, hznS⟩ := zero_sel
                        have hcl : C.length = 34 := by rw [hC]; exact Sel.len' _
                        have HBD := Lib.hid hbd
                        have HCE := Lib.hid hC
                        have HCN := Lib.hid hcl
                        have HKX := Lib.hid (HKF.out _ H312.out)
                        have SZC := Lib.hid (show (Tryd.prog.info? 38).map (·.size) = some C.length by rw [hcl]; kernel_rfl)
                        have SZCA := Lib.hid (show (Tryd.prog.info? 38).map (·.size) = some C.toArray.size by rw [List.size_toArray, hcl]; kernel_rfl)
                        have HZC := Lib.hid (show ZS.size = C.toArray.size by rw [hzsS, List.size_toArray, hcl])
                        have HC1 := Lib.hid (show ∀ v ∈ C, v.oneCell' = true by rw [hC]; exact Sel.one _)
                        have HONEC := Lib.hid (show C.toArray.all (·.oneCell') = true from all_oneCell_toArray HC1.out)
                        have hnw : Has ((w12.alloc (.cells ZS 38)).setRow w12.heap.size C.toArray) w12.heap.size 38 C.toArray ∧ Kept (fun _ => False) w12 ((w12.alloc (.cells ZS 38)).setRow w12.heap.size C.toArray) := by
                          rw [World.setRow_alloc_new]
                          exact ⟨Has.new w12 _ _, (Kept.refl _ _).alloc _⟩
                        have HNW := Lib.hid hnw
                        clear hT h12 hC hbd hcl hnw H312 HSTAY hfit H12
                        go_upto_region 32 with (first
                          | (refine wpList_load_mid rfl 28 (.tmp 108) rfl G 1 rfl LX _ HKX.out Tryd.underlying28 rfl SZLX.out ?_)
                          | (refine wpList_build_run (by kernel_rfl) 38 _ rfl #[(0, .agg LX.toArray), (1, .slice x.sel.a nv x.sel.c), (2, .int .u64 (sv : Int))] (by kernel_rfl) (.agg C.toArray) (HBD.out _) ?_)
                          | (refine wpList_store_row rfl 38 (.tmp 16) (.tmp 116) rfl w12.heap.size C.toArray rfl rfl 38 ZS (heap_alloc_new w12 _) SZCA.out HZC.out HONEC.out ?_))
                        obtain ⟨hl13, hk13⟩ := HNW.out
                        have h13 := H12T.out.kept hk13
                        clear HNW H12T hk13 g33 g34
                        generalize (w12.alloc (.cells ZS 38)).setRow w12.heap.size C.toArray = W13 at hl13 h13 ⊢
                        generalize w12.heap.size = GL at hl13 ⊢
                        have HL13 := Lib.hid hl13.row0
                        have H13 := Lib.hid h13
                        clear hl13 h13
                        by_cases h0 : 0 ≤ ai
                        · obtain ⟨p, hp⟩ : ∃ p : Nat, ai = (p : Int) := ⟨ai.toNat, by omega⟩
                          subst hp
                          obtain ⟨y, hy, hyk⟩ := at_some xs x.sel.key q p (by rw [← EAI.out])
                          have hpq : p < q := by have := HAT.out.2; omega
                          have hset := put_at (l := x.sel.leaf) (n := x.sel) HDIF.out rfl hy hyk
                          obtain ⟨ab, hab, hth, hrs, -⟩ := H13.out.set hpq x.sel
                          subst hab
                          rw [hset, ← HCE.out] at hrs
                          have HEND := Lib.hid (show RunI K s0 w g (k + 1) (.slice (some ⟨ab, 0, none⟩) q c1) (W13.setCells ab (p * 34) C) from
                            ⟨xs.set p x.sel, _, q, c1, rfl, by omega, HDIF.out.set hy (by rw [hyk]), fun z hz => (List.mem_or_eq_of_mem_set hz).elim (HOKS.out z) (fun e => e ▸ HXOK.out), hrs⟩)
                          have HTH := Lib.hid (show W13.there ab (p * 34) C.toArray.size by rw [List.size_toArray, HCN.out]; exact hth)
                          have hat := at_selR ab q c1 p hpq
                          clear hy hyk hset hrs hth H13
                          go_wp2_with (first
                            | (refine wpList_load_mid rfl 38 (.tmp 16) rfl GL 0 rfl C _ HL13.out Tryd.underlying38 rfl SZC.out ?_)
                            | (refine wpList_store_mid rfl 38 (.tmp 122) (.tmp 121) rfl ab (p * 34) C.toArray rfl rfl HTH.out SZCA.out HONEC.out ?_))
                          go_roundw
                          case rel => exact ⟨k + 1, by go_num, by omega, by omega, HEND.out⟩
                          case measure => simp [intOf]; omega
                        · have hno2 := at_none xs x.sel.key q (by rw [← EAI.out]; omega)
                          have hset := put_newX (xs := xs) (n := x.sel) (fun i z hz => hno2 i (by have := (List.getElem?_eq_some_iff.1 hz).1; have := HLN.out; omega) z hz)
                          obtain ⟨isum, his, his0, his1, his2⟩ := info_parts info_sel
                          have HZ34 := Lib.hid (show (Value.agg (Sel.cells ⟨List.replicate 32 0, none, 0, [], 0, z32k⟩).toArray).cells.size = 34 by kernel_rfl)
                          have HML2 := Lib.hid (show q + 1 ≤ maxLen by unfold maxLen; omega)
                          have HBYC := Lib.hid (show (q + 1) * 64 ≤ 140737488355328 by omega)
                          have HBS := Lib.hid (show w.heap.size ≤ (W13.alloc (.cells C.toArray 38)).heap.size by show _ ≤ (W13.heap.push _).size; rw [Array.size_push]; have := H13.out.bel.size; omega)
                          have hend : ∀ g6 cap6 w6, w6.ownsRow w.heap.size 38 34 (.slice (some ⟨g6, 0, none⟩) (q + 1) cap6) (q + 1) (xs.flatMap Sel.cells ++ C) → (W13.alloc (.cells C.toArray 38)).grownBy w6 (Value.slice a q c1).ownBlock → ((Value.slice a q c1).ownBlock = some g6 ∨ g6 = (W13.alloc (.cells C.toArray 38)).heap.size) →
                              RunI K s0 w g (k + 1) (.slice (some ⟨g6, 0, none⟩) (q + 1) cap6) w6 := fun g6 cap6 w6 ho6 hg6 hb6 => by
                            rw [HCE.out] at ho6
                            have h := H13.out.app x.sel (W1 := W13.alloc (.cells C.toArray 38)) ((Kept.refl _ _).alloc _) ho6 hg6 hb6
                            rw [hset] at h
                            exact ⟨xs ++ [x.sel], _, _, _, rfl, by omega, HDIF.out.snoc (fun i z hz => hno2 i (by have := (List.getElem?_eq_some_iff.1 hz).1; have := HLN.out; omega) z hz), fun z hz => (List.mem_append.1 hz).elim (HOKS.out z) (fun e => by rw [List.mem_singleton] at e; rw [e]; exact HXOK.out), h⟩
                          have HEND := Lib.hid hend
                          have HOWN := Lib.hid H13.out.own
                          clear hno2 hset hend H13
                          go_wp2_with (first
                            | (refine wpList_load_mid rfl 38 (.tmp 16) rfl GL 0 rfl C _ HL13.out Tryd.underlying38 rfl SZC.out ?_)
                            | (refine wpList_build1 rfl 26 38 (.tmp 124) rfl isum _ Tryd.underlying26 his his0 C (by rw [his1, HCN.out]) (by rw [HCN.out]; kernel_rfl) (by rw [HCN.out]; decide) (by rw [HCN.out]; decide) rfl ?_)
                            | (at_builtin; refine wpList_append_lies _ rfl (.tmp 123) (.tmp 125) 26 rfl w.heap.size 38 isum _ 34 64 Tryd.underlying26 his his0 his1 his2 HZ34.out (by decide) _ q _ rfl (HOWN.out.alloc _) ⟨W13.heap.size, 0, none⟩ 1 1 C rfl HCN.out (World.news_of_block (cs := C.toArray) (heap_alloc_new W13 _)) HC1.out (by decide) HML2.out HBYC.out HBS.out _ rfl ?_; intro g6 cap6 w6 hown6 hgr6 hat6 hlt6))
                          have hfin := HEND.out g6 cap6 w6 hown6 hgr6 hat6
                          have HFIN := Lib.hid hfin
                          clear hfin hown6 hgr6 hat6 hlt6
                          go_wp2
                          go_roundw
                          case rel => exact ⟨k + 1, by go_num, by omega, by omega, HFIN.out⟩
                          case measure => simp [intOf]; omega
                      · rw [if_neg hfit] at e1
                        subst e1
                        have e2 := HFB.out
                        rw [decide_eq_false hfit] at e2
                        subst e2
                        have HEND := Lib.hid (HSTAY.out (by decide))
                        clear HSTAY hfit
                        go_wp2
                        go_roundw
                        case rel => exact ⟨k + 1, by go_num, by omega, by omega, HEND.out⟩
                        case measure => simp [intOf]; omega
            · by_cases hK1 : kk = 1
              · subst hK1
                have hdrop := H5.out.drop HL8.out x.sel.key x.sel.h
                unfold arr at hdrop
                obtain ⟨kn, hkn⟩ : ∃ b, b = (findT (xs.map Sel.leaf) x.sel.key).isSome := ⟨_, rfl⟩
                rw [← ELX.out, ← hkn] at hdrop
                have hfi := at_find (key := x.sel.key) HDIF.out
                rw [HLN.out, ← EAI.out, ← hkn] at hfi
                have HDROP := Lib.hid hdrop
                have HKX := Lib.hid (HKF.out _ H3Y.out)
                have EKN := Lib.hid hkn
                clear hdrop hkn b33 b34
                by_cases h0 : 0 ≤ ai
                · rw [decide_eq_true h0] at hfi
                  subst hfi
                  obtain ⟨p, hp⟩ : ∃ p : Nat, ai = (p : Int) := ⟨ai.toNat, by omega⟩
                  subst hp
                  obtain ⟨y, hy, hyk⟩ := at_some xs x.sel.key q p (by rw [← EAI.out])
                  have hpq : p < q := by have := HAT.out.2; omega
                  have hdt := drop_at (key := x.sel.key) HDIF.out hy hyk
                  have HDT := Lib.hid hdt
                  clear hy hyk hdt
                  go_wp2_with (refine wpList_load_mid rfl 28 (.tmp 141) rfl G 1 rfl LX _ HKX.out Tryd.underlying28 rfl SZLX.out ?_)
                  refine HDROP.out.mono ?_
                  rintro _ w6 ⟨rfl, h6⟩
                  have H6 := Lib.hid h6
                  clear h6 HDROP HKX
                  go_upto_region 45 with (fail)
                  obtain ⟨ab, ad1, cc1, cc2, hab, hablt, hcut1, hcut2, hnews1, hnews2⟩ := H6.out.cuts hpq
                  subst hab
                  obtain ⟨isum, his, his0, his1, his2⟩ := info_parts info_sel
                  have HPW := Lib.hid (show IntKind.i64.wrap ((p : Int) + 1) = (p : Int) + 1 by rw [IntKind.wrap_i64]; omega)
                  have hsz6 := H6.out.bel.size
                  have HZ34 := Lib.hid (show (Value.agg (Sel.cells ⟨List.replicate 32 0, none, 0, [], 0, z32k⟩).toArray).cells.size = 34 by kernel_rfl)
                  have hal : Below w6.heap.size w6 (w6.drew.alloc (.cells #[] 38)) := (Below.refl _ _).drew.alloc (Nat.le_refl _) _
                  have hmade : (w6.drew.alloc (.cells #[] 38)).ownsRow w6.heap.size 38 34 (.slice (some ⟨w6.heap.size, 0, none⟩) 0 0) 0 [] := World.ownsRow_made w6.drew #[] 0 (Nat.le_refl _) (by decide) rfl
                  have hone : ∀ ys : List Sel, ∀ u ∈ ys.flatMap Sel.cells, u.oneCell' = true := fun ys u hu => by
                    obtain ⟨z, _, hz⟩ := List.mem_flatMap.1 hu
                    exact Sel.one z u hz
                  have hl1 : ((xs.take p).flatMap Sel.cells).length = p * 34 := by rw [flat_len, List.length_take, HLN.out]; congr 1; omega
                  have hl2 : ((xs.drop (p + 1)).flatMap Sel.cells).length = (q - (p + 1)) * 34 := by rw [flat_len, List.length_drop, HLN.out]
                  as_aux_lemma =>
                    have hend : ∀ W1 W2 oa oc oa2 oc2 (m2 : Nat), W1.ownsRow w6.heap.size 38 34 (.slice oa p oc) p ([] ++ (xs.take p).flatMap Sel.cells) → (w6.drew.alloc (.cells #[] 38)).grownBy W1 (Value.slice (some ⟨w6.heap.size, 0, none⟩) 0 0).ownBlock → W2.ownsRow w6.heap.size 38 34 (.slice oa2 m2 oc2) m2 ([] ++ (xs.take p).flatMap Sel.cells ++ (xs.drop (p + 1)).flatMap Sel.cells) → W1.grownBy W2 (Value.slice oa p oc).ownBlock → m2 = p + (q - (p + 1)) → RunI K s0 w g (k + 1) (.slice oa2 m2 oc2) W2 := fun W1 W2 oa oc oa2 oc2 m2 o1 g1 o2 g2 hm2 => by
                      have hk1 : Kept (fun j => w6.heap.size ≤ j) w6 W1 := (Kept.of_below hal).grown g1 (fun j e => .inr (by simp [Value.ownBlock] at e; omega))
                      have hk2 : Kept (fun j => w6.heap.size ≤ j) w6 W2 := hk1.grown g2 (fun j e => .inl (own_blk o1 j e))
                      have h := H6.out.swap hk2 (fun j e => .inl e) (ys := xs.take p ++ xs.drop (p + 1)) (own_base (by rw [List.flatMap_append]; exact o2) hsz6) (by rw [List.length_append, List.length_take, List.length_drop, HLN.out]; omega) (fun A e => .inl (own_blk o2 A.block (by rw [e]; rfl)))
                      rw [HDT.out] at h
                      exact ⟨_, _, _, _, rfl, by omega, HDIF.out.drop p, fun z hz => (List.mem_append.1 hz).elim (fun e => HOKS.out z (List.mem_of_mem_take e)) (fun e => HOKS.out z (List.mem_of_mem_drop e)), h⟩
                    have HEND := Lib.hid hend
                    have HN1 := Lib.hid hnews1
                    have HN2 := Lib.hid hnews2
                    have HL1 := Lib.hid hl1
                    have HL2 := Lib.hid hl2
                    have HONES := Lib.hid hone
                    have HMADE := Lib.hid hmade
                    have HAL := Lib.hid hal
                    have HBB := Lib.hid hablt
                    have HQ := Lib.hid (show q ≤ 60 ∧ p < q by omega)
                    clear hnews1 hnews2 hl1 hl2 hone hmade hal hablt hend H6
                    refine wp_region_noPanic ?_
                    refine wp_region_held_drew (S := (fun _ => True)) (by kernel_rfl) trivial (fun hH0 => ?_)
                    refine wpAnyH_take (i := 1) (v := ((.slice (some ⟨ab, 0, none⟩) q c1))) rfl (by kernel_rfl) (by kernel_rfl) (by kernel_rfl) (fun _ _ _ h => h) (Or.inl ⟨by kernel_rfl, by intro w' hS; go_simp⟩) hH0 ?_
                    simp only [Act.put, List.getElem_toArray, List.getElem_cons_zero, List.getElem_cons_succ, List.setIfInBounds_toArray, List.set_cons_zero, List.set_cons_succ]
                    refine wpAnyH_take (i := 2) (v := ((.int .i64 (p : Int)))) rfl (by kernel_rfl) (by kernel_rfl) (by kernel_rfl) (fun _ _ _ h => h) (Or.inl ⟨by kernel_rfl, by intro w' hS; go_simp⟩) hH0 ?_
                    simp only [Act.put, List.getElem_toArray, List.getElem_cons_zero, List.getElem_cons_succ, List.setIfInBounds_toArray, List.set_cons_zero, List.set_cons_succ]
                    refine wpAnyH_take (i := 3) (v := ((.slice (some ⟨ab, 0, none⟩) p cc1))) rfl (by kernel_rfl) (by kernel_rfl) (by kernel_rfl) (fun _ _ _ h => h) (Or.inl ⟨by kernel_rfl, by intro w' hS; go_simp⟩) hH0 ?_
                    simp only [Act.put, List.getElem_toArray, List.getElem_cons_zero, List.getElem_cons_succ, List.setIfInBounds_toArray, List.set_cons_zero, List.set_cons_succ]
                    refine wpAnyH_take (i := 5) (v := ((.slice (some ⟨ab, 0, none⟩) q c1))) rfl (by kernel_rfl) (by kernel_rfl) (by kernel_rfl) (fun _ _ _ h => h) (Or.inl ⟨by kernel_rfl, by intro w' hS; go_simp⟩) hH0 ?_
                    simp only [Act.put, List.getElem_toArray, List.getElem_cons_zero, List.getElem_cons_succ, List.setIfInBounds_toArray, List.set_cons_zero, List.set_cons_succ]
                    refine wpAnyH_take (i := 6) (v := ((.int .i64 (p : Int)))) rfl (by kernel_rfl) (by kernel_rfl) (by kernel_rfl) (fun _ _ _ h => h) (Or.inl ⟨by kernel_rfl, by intro w' hS; go_simp⟩) hH0 ?_
                    simp only [Act.put, List.getElem_toArray, List.getElem_cons_zero, List.getElem_cons_succ, List.setIfInBounds_toArray, List.set_cons_zero, List.set_cons_succ]
                    refine wpAnyH_take (i := 7) (v := ((.int .i64 ((p : Int) + 1)))) rfl (by kernel_rfl) (by kernel_rfl) (by kernel_rfl) (fun _ _ _ h => h) (Or.inl ⟨by kernel_rfl, by intro w' hS; have hpw := HPW.out; go_simp⟩) hH0 ?_
                    simp only [Act.put, List.getElem_toArray, List.getElem_cons_zero, List.getElem_cons_succ, List.setIfInBounds_toArray, List.set_cons_zero, List.set_cons_succ]
                    refine wpAnyH_take (i := 8) (v := ((.slice (some ad1) (q - (p + 1)) cc2))) rfl (by kernel_rfl) (by kernel_rfl) (by kernel_rfl) (fun _ _ _ h => h) (Or.inl ⟨by kernel_rfl, by intro w' hS; go_simp⟩) hH0 ?_
                    simp only [Act.put, List.getElem_toArray, List.getElem_cons_zero, List.getElem_cons_succ, List.setIfInBounds_toArray, List.set_cons_zero, List.set_cons_succ]
                    refine wpAnyH_ready (rs := [0]) (by kernel_rfl) (by simp) ?_
                    refine AllReadyH.cons rfl (fun K hK => ?_) AllReadyH.nil
                    go_simp
                    refine Shut.out hK _ _ trivial (fun hH1 => ?_)
                    clear hK K
                    try simp only [Act.put, List.getElem_toArray, List.getElem_cons_zero, List.getElem_cons_succ, List.setIfInBounds_toArray, List.set_cons_zero, List.set_cons_succ]
                    refine wpAnyH_ready (rs := [4]) (by kernel_rfl) (by simp) ?_
                    refine AllReadyH.cons rfl (fun K hK => ?_) AllReadyH.nil
                    refine step_append_any rfl (.tmp 149) (.tmp 152) 26 rfl w6.heap.size 38 isum _ 34 64 Tryd.underlying26 his his0 his1 his2 HZ34.out (by decide) _ 0 _ rfl HMADE.out ⟨ab, 0, none⟩ p cc1 ((xs.take p).flatMap Sel.cells) rfl HL1.out (fun j u hu => by rw [← HN1.out j u hu]; exact World.cell?_of_block (HAL.out.block _ (by rw [Addr.add_mid]; exact HBB.out))) (HONES.out _) (by unfold maxLen; have := HQ.out; omega) (by have := HQ.out; omega) HAL.out.size ?_
                    intro oa oc W1 ho1 hg1
                    rw [Nat.zero_add] at ho1
                    try rw [Nat.zero_add]
                    have HO1 := Lib.hid ho1
                    have HG1 := Lib.hid hg1
                    have HB1 := Lib.hid ((HAL.out.grown hg1 HAL.out.size (own_blk HMADE.out)))
                    clear ho1 hg1
                    refine Shut.out hK _ _ trivial (fun hH2 => ?_)
                    clear hK K
                    try simp only [Act.put, List.getElem_toArray, List.getElem_cons_zero, List.getElem_cons_succ, List.setIfInBounds_toArray, List.set_cons_zero, List.set_cons_succ]
                    refine wpAnyH_ready (rs := [9]) (by kernel_rfl) (by simp) ?_
                    refine AllReadyH.cons rfl (fun K hK => ?_) AllReadyH.nil
                    refine step_append_any rfl (.tmp 153) (.tmp 157) 26 rfl w6.heap.size 38 isum _ 34 64 Tryd.underlying26 his his0 his1 his2 HZ34.out (by decide) _ p _ rfl HO1.out ad1 (q - (p + 1)) cc2 ((xs.drop (p + 1)).flatMap Sel.cells) rfl HL2.out (fun j u hu => by rw [← (HN2.out j u hu).1]; exact World.cell?_of_block (HB1.out.block _ (by rw [(HN2.out j u hu).2]; exact HBB.out))) (HONES.out _) (by unfold maxLen; have := HQ.out; omega) (by have := HQ.out; omega) HB1.out.size ?_
                    intro oa2 oc2 W2 ho2 hg2
                    have hfin := HEND.out W1 W2 oa oc oa2 oc2 _ HO1.out HG1.out ho2 hg2 rfl
                    have HFIN := Lib.hid hfin
                    clear hfin ho2 hg2
                    refine Shut.out hK _ _ trivial (fun hH3 => ?_)
                    clear hK K
                    try simp only [Act.put, List.getElem_toArray, List.getElem_cons_zero, List.getElem_cons_succ, List.setIfInBounds_toArray, List.set_cons_zero, List.set_cons_succ]
                    refine wpAnyH_take (i := 10) (v := ((.slice oa2 (p + (q - (p + 1))) oc2))) rfl (by kernel_rfl) (by kernel_rfl) (by kernel_rfl) (fun _ _ _ h => h) (Or.inl ⟨by kernel_rfl, by intro w' hS; go_simp⟩) hH3 ?_
                    simp only [Act.put, List.getElem_toArray, List.getElem_cons_zero, List.getElem_cons_succ, List.setIfInBounds_toArray, List.set_cons_zero, List.set_cons_succ]
                    refine wpAnyH_done (by kernel_rfl) ?_ _
                    refine NoPanic.normal ?_
                    go_wp2_with fail
                    go_roundw
                    case rel => exact ⟨k + 1, by go_num, by omega, by omega, HFIN.out⟩
                    case measure => simp [intOf]; omega
                · rw [decide_eq_false h0] at hfi
                  subst hfi
                  have hf : findT (xs.map Sel.leaf) x.sel.key = none := by
                    have h := EKN.out
                    cases hf : findT (xs.map Sel.leaf) x.sel.key with
                    | none => rfl
                    | some l => rw [hf] at h; cases h
                  have hdt := drop_none hf
                  have HDT := Lib.hid hdt
                  clear hf hdt
                  go_wp2_with (refine wpList_load_mid rfl 28 (.tmp 141) rfl G 1 rfl LX _ HKX.out Tryd.underlying28 rfl SZLX.out ?_)
                  refine HDROP.out.mono ?_
                  rintro _ w6 ⟨rfl, h6⟩
                  rw [HDT.out] at h6
                  have HEND := Lib.hid (show RunI K s0 w g (k + 1) (.slice a q c1) w6 from ⟨xs, a, q, c1, rfl, by omega, HDIF.out, HOKS.out, h6⟩)
                  clear h6 HDROP HKX
                  go_wp2
                  go_roundw
                  case rel => exact ⟨k + 1, by go_num, by omega, by omega, HEND.out⟩
                  case measure => simp [intOf]; omega
              · by_cases hK2 : kk = 2
                · subst hK2
                  have hget := H5.out.get x.sel.key x.sel.h
                  unfold arr at hget
                  obtain ⟨kn, hkn⟩ : ∃ b, b = (findT (xs.map Sel.leaf) x.sel.key).isSome := ⟨_, rfl⟩
                  obtain ⟨gs, hgs⟩ : ∃ b, b = wasS (xs.map Sel.leaf) x.sel.key := ⟨_, rfl⟩
                  obtain ⟨gv, hgv⟩ : ∃ b, b = valT (xs.map Sel.leaf) x.sel.key := ⟨_, rfl⟩
                  obtain ⟨gn, hgn⟩ : ∃ b, b = gv.length := ⟨_, rfl⟩
                  rw [← ELX.out, ← hkn, ← hgs, ← hgv, ← hgn] at hget
                  have hfi := at_find (key := x.sel.key) HDIF.out
                  rw [HLN.out, ← EAI.out, ← hkn] at hfi
                  have HGET := Lib.hid hget
                  have HKX := Lib.hid (HKF.out _ H3Y.out)
                  have EKN := Lib.hid hkn
                  have EGS := Lib.hid hgs
                  have EGV := Lib.hid hgv
                  have EGN := Lib.hid hgn
                  clear hget hkn hgs hgv hgn b33 b34
                  go_wp2_with (refine wpList_load_mid rfl 28 (.tmp 163) rfl G 1 rfl LX _ HKX.out Tryd.underlying28 rfl SZLX.out ?_)
                  refine HGET.out.mono ?_
                  rintro _ w6 ⟨ga, gc, rfl, hgb, h6⟩
                  have hnw : Has ((w6.alloc (.cells #[.slice none 0 0, .int .u64 0] 32)).setRow w6.heap.size #[.slice ga gn gc, .int .u64 (gs : Int)]) w6.heap.size 32 #[.slice ga gn gc, .int .u64 (gs : Int)] ∧ Kept (fun _ => False) w6 ((w6.alloc (.cells #[.slice none 0 0, .int .u64 0] 32)).setRow w6.heap.size #[.slice ga gn gc, .int .u64 (gs : Int)]) := by
                    rw [World.setRow_alloc_new]
                    exact ⟨Has.new w6 _ _, (Kept.refl _ _).alloc _⟩
                  have HNW := Lib.hid hnw
                  have H6 := Lib.hid h6
                  have HGB := Lib.hid hgb
                  have SZ2 := Lib.hid (show (Tryd.prog.info? 32).map (·.size) = some (#[Value.slice ga gn gc, .int .u64 (gs : Int)] : Array Value).size by kernel_rfl)
                  have ONE2 := Lib.hid (show (#[Value.slice ga gn gc, .int .u64 (gs : Int)] : Array Value).all (·.oneCell') = true by kernel_rfl)
                  clear hnw h6 hgb HGET HKX
                  go_upto_region 48 with (refine wpList_store_row rfl 32 (.tmp 17) (.tmp 166) rfl w6.heap.size #[.slice ga gn gc, .int .u64 (gs : Int)] rfl rfl 32 #[.slice none 0 0, .int .u64 0] (heap_alloc_new w6 _) SZ2.out rfl ONE2.out ?_)
                  obtain ⟨hl8, hk8⟩ := HNW.out
                  have h8 := H6.out.kept hk8
                  have hgb8 := HGB.out.alive (hk8.below (Nat.le_refl _) (fun _ h => h.elim)) hk8.size
                  clear HNW H6 HGB hk8
                  generalize (w6.alloc (.cells #[.slice none 0 0, .int .u64 0] 32)).setRow w6.heap.size #[.slice ga gn gc, .int .u64 (gs : Int)] = W8 at hl8 h8 hgb8 ⊢
                  generalize w6.heap.size = G8 at hl8 ⊢
                  have hdrew : ∀ n, Below W8.heap.size W8 (W8.drewN n) := fun n => ⟨rfl, rfl, rfl, Nat.le_refl _, fun _ _ => rfl⟩
                  have HDR := Lib.hid hdrew
                  have H8 := Lib.hid h8
                  by_cases h0 : 0 ≤ ai
                  · rw [decide_eq_true h0] at hfi
                    subst hfi
                    obtain ⟨p, hp⟩ : ∃ p : Nat, ai = (p : Int) := ⟨ai.toNat, by omega⟩
                    subst hp
                    obtain ⟨y, hy, hyk⟩ := at_some xs x.sel.key q p (by rw [← EAI.out])
                    have hpq : p < q := by have := HAT.out.2; omega
                    have hfa := find_at HDIF.out hy hyk
                    have e1 : gv = y.v := by rw [EGV.out]; unfold valT; rw [hfa]; rfl
                    have e2 : gs = y.s := by rw [EGS.out]; unfold wasS; rw [hfa]; rfl
                    subst e1
                    have c81 : W8.cell? ⟨G8, 1, none⟩ = some (.int .u64 (gs : Int)) := hl8.cell_is rfl
                    have c80 : W8.cell? ⟨G8, 0, none⟩ = some (.slice ga gn gc) := hl8.cell_is rfl
                    obtain ⟨ab, hab, hablt, -, hr⟩ := h8.row (by omega)
                    subst hab
                    obtain ⟨r1, r2⟩ := sel_get y.h.1
                    have cy0 := hr p y hy 32 _ r1
                    have cy1 := hr p y hy 33 _ r2
                    rw [← e2] at cy1
                    rw [← EGN.out] at cy0
                    have hat := at_selR ab q c1 p hpq
                    have hbY := ((HOKS.out y (List.mem_of_getElem? hy)).bytes.alive h8.bel h8.bel.size)
                    rw [← EGN.out] at hbY
                    have hsame : ∀ n, Calls Tryd.prog 23 #[.slice ga gn gc, .slice y.a gn y.c] (W8.drewN n) fun e w' => e = .returned (.bool true) ∧ w' = W8.drewN n := fun n => by
                      have h := same_is (W8.drewN n) (.slice ga gn gc) (.slice y.a gn y.c) y.v y.v (hgb8.alive (hdrew n) (Nat.le_refl _)) (hbY.alive (hdrew n) (Nat.le_refl _))
                      rw [decide_eq_true rfl] at h
                      exact h
                    have HSAME := Lib.hid hsame
                    have HEND := Lib.hid (fun n => show RunI K s0 w g (k + 1) (.slice (some ⟨ab, 0, none⟩) q c1) (W8.drewN n) from ⟨xs, _, q, c1, rfl, by omega, HDIF.out, HOKS.out, H8.out.below (HDR.out n)⟩)
                    clear hsame hbY hgb8 hr r1 r2 hfa hy hyk e2 hdrew hl8 h8 H8 HDR
                    go_quiet ((go_at_call 23; exact Calls.quiet_of_same (HSAME.out _)))
                    go_wp2
                    go_roundw
                    case rel => exact ⟨k + 1, by go_num, by omega, by omega, HEND.out _⟩
                    case measure => simp [intOf]; omega
                  · rw [decide_eq_false h0] at hfi
                    subst hfi
                    have hf : findT (xs.map Sel.leaf) x.sel.key = none := by
                      have h := EKN.out
                      cases hf : findT (xs.map Sel.leaf) x.sel.key with
                      | none => rfl
                      | some l => rw [hf] at h; cases h
                    have e1 : gn = 0 := by rw [EGN.out, EGV.out]; unfold valT; rw [hf]; rfl
                    have e2 : gs = 0 := by rw [EGS.out]; unfold wasS; rw [hf]
                    obtain ⟨LL, hLL⟩ : ∃ L : List Value, L = [.slice ga gn gc, .int .u64 (gs : Int)] := ⟨_, rfl⟩
                    have hnone : ∀ v, Calls Tryd.prog 20 #[.agg LL.toArray] v fun e w' => e = .returned (.bool true) ∧ Below v.heap.size v w' := fun v => by
                      have h := none_is v ga gn gc gs (by omega)
                      rw [decide_eq_true ⟨e1, e2⟩] at h
                      rw [hLL]
                      exact h
                    have HNONE := Lib.hid hnone
                    have hS0 : W8.drew.rangeAt G8 0 LL := by
                      rw [hLL]
                      exact Has.row0 (L := [.slice ga gn gc, .int .u64 (gs : Int)]) (hl8.below (hdrew 1) hl8.lt)
                    have hS1 : ∀ v, Below W8.heap.size W8 v → v.rangeAt G8 0 LL := fun v hv => by
                      rw [hLL]
                      exact Has.row0 (L := [.slice ga gn gc, .int .u64 (gs : Int)]) (hl8.below hv hl8.lt)
                    have HS1 := Lib.hid hS1
                    have SZL := Lib.hid (show (Tryd.prog.info? 32).map (·.size) = some LL.length by rw [hLL]; kernel_rfl)
                    clear hS1 hnone hf e1 e2 hLL hl8 hgb8 hdrew h8
                    refine wp_region_noPanic ?_
                    refine wp_region_held_drew (S := (fun v => v.rangeAt G8 0 LL)) (by kernel_rfl) hS0 (fun hH0 => ?_)
                    refine wpAnyH_take (i := 0) (v := ((.bool false))) rfl (by kernel_rfl) (by kernel_rfl) (by kernel_rfl) (fun _ _ _ h => h) (Or.inl ⟨by kernel_rfl, by intro w' hS; go_simp⟩) hH0 ?_
                    simp only [Act.put, List.getElem_toArray, List.getElem_cons_zero, List.getElem_cons_succ, List.setIfInBounds_toArray, List.set_cons_zero, List.set_cons_succ]
                    refine wpAnyH_take (i := 1) (v := ((.int .i64 ai))) rfl (by kernel_rfl) (by kernel_rfl) (by kernel_rfl) (fun _ _ _ h => h) (Or.inl ⟨by kernel_rfl, by intro w' hS; go_simp⟩) hH0 ?_
                    simp only [Act.put, List.getElem_toArray, List.getElem_cons_zero, List.getElem_cons_succ, List.setIfInBounds_toArray, List.set_cons_zero, List.set_cons_succ]
                    refine wpAnyH_take (i := 2) (v := ((.bool false))) rfl (by kernel_rfl) (by kernel_rfl) (by kernel_rfl) (fun _ _ _ h => h) (Or.inl ⟨by kernel_rfl, by intro w' hS; go_simp⟩) hH0 ?_
                    simp only [Act.put, List.getElem_toArray, List.getElem_cons_zero, List.getElem_cons_succ, List.setIfInBounds_toArray, List.set_cons_zero, List.set_cons_succ]
                    refine wpAnyH_take (i := 3) (v := ((.bool false))) rfl (by kernel_rfl) (by kernel_rfl) (by kernel_rfl) (fun _ _ _ h => h) (Or.inl ⟨by kernel_rfl, by intro w' hS; go_simp⟩) hH0 ?_
                    simp only [Act.put, List.getElem_toArray, List.getElem_cons_zero, List.getElem_cons_succ, List.setIfInBounds_toArray, List.set_cons_zero, List.set_cons_succ]
                    refine wpAnyH_take (i := 4) (v := ((.bool false))) rfl (by kernel_rfl) (by kernel_rfl) (by kernel_rfl) (fun _ _ _ h => h) (Or.inl ⟨by kernel_rfl, by intro w' hS; go_simp⟩) hH0 ?_
                    simp only [Act.put, List.getElem_toArray, List.getElem_cons_zero, List.getElem_cons_succ, List.setIfInBounds_toArray, List.set_cons_zero, List.set_cons_succ]
                    refine wpAnyH_take (i := 5) (v := ((.bool false))) rfl (by kernel_rfl) (by kernel_rfl) (by kernel_rfl) (fun _ _ _ h => h) (Or.inl ⟨by kernel_rfl, by intro w' hS; go_simp⟩) hH0 ?_
                    simp only [Act.put, List.getElem_toArray, List.getElem_cons_zero, List.getElem_cons_succ, List.setIfInBounds_toArray, List.set_cons_zero, List.set_cons_succ]
                    refine wpAnyH_take (i := 6) (v := ((.bool true))) rfl (by kernel_rfl) (by kernel_rfl) (by kernel_rfl) (fun _ _ _ h => h) (Or.inl ⟨by kernel_rfl, by intro w' hS; go_simp⟩) hH0 ?_
                    simp only [Act.put, List.getElem_toArray, List.getElem_cons_zero, List.getElem_cons_succ, List.setIfInBounds_toArray, List.set_cons_zero, List.set_cons_succ]
                    refine wpAnyH_take (i := 7) (v := ((.bool true))) rfl (by kernel_rfl) (by kernel_rfl) (by kernel_rfl) (fun _ _ _ h => h) (Or.inl ⟨by kernel_rfl, by intro w' hS; go_simp⟩) hH0 ?_
                    simp only [Act.put, List.getElem_toArray, List.getElem_cons_zero, List.getElem_cons_succ, List.setIfInBounds_toArray, List.set_cons_zero, List.set_cons_succ]
                    refine wpAnyH_take (i := 8) (v := (.agg LL.toArray)) rfl (by kernel_rfl) (by kernel_rfl) (by kernel_rfl) (fun _ _ _ h => h) (yieldsIf_load_mid (by kernel_rfl) 32 (.tmp 17) rfl G8 0 rfl LL _ (fun w' h => h) Tryd.underlying32 rfl SZL.out) hH0 ?_
                    simp only [Act.put, List.getElem_toArray, List.getElem_cons_zero, List.getElem_cons_succ, List.setIfInBounds_toArray, List.set_cons_zero, List.set_cons_succ]
                    refine wpAnyH_ready (rs := [9]) (by kernel_rfl) (by simp) ?_
                    refine AllReadyH.cons rfl (fun K hK => ?_) AllReadyH.nil
                    go_simp
                    refine (HNONE.out _).mono ?_
                    rintro _ x1 ⟨rfl, hc1⟩
                    have HB1 := Lib.hid (show Below W8.heap.size W8 x1 from below_undrew hc1)
                    refine Shut.out hK _ _ (HS1.out _ HB1.out) (fun hH1 => ?_)
                    clear hK K
                    try simp only [Act.put, List.getElem_toArray, List.getElem_cons_zero, List.getElem_cons_succ, List.setIfInBounds_toArray, List.set_cons_zero, List.set_cons_succ]
                    refine wpAnyH_take (i := 10) (v := ((.bool false))) rfl (by kernel_rfl) (by kernel_rfl) (by kernel_rfl) (fun _ _ _ h => h) (Or.inl ⟨by kernel_rfl, by intro w' hS; go_simp⟩) hH1 ?_
                    simp only [Act.put, List.getElem_toArray, List.getElem_cons_zero, List.getElem_cons_succ, List.setIfInBounds_toArray, List.set_cons_zero, List.set_cons_succ]
                    refine wpAnyH_take (i := 11) (v := ((.bool false))) rfl (by kernel_rfl) (by kernel_rfl) (by kernel_rfl) (fun _ _ _ h => h) (Or.inl ⟨by kernel_rfl, by intro w' hS; go_simp⟩) hH1 ?_
                    simp only [Act.put, List.getElem_toArray, List.getElem_cons_zero, List.getElem_cons_succ, List.setIfInBounds_toArray, List.set_cons_zero, List.set_cons_succ]
                    refine wpAnyH_take (i := 12) (v := ((.bool false))) rfl (by kernel_rfl) (by kernel_rfl) (by kernel_rfl) (fun _ _ _ h => h) (Or.inl ⟨by kernel_rfl, by intro w' hS; go_simp⟩) hH1 ?_
                    simp only [Act.put, List.getElem_toArray, List.getElem_cons_zero, List.getElem_cons_succ, List.setIfInBounds_toArray, List.set_cons_zero, List.set_cons_succ]
                    refine wpAnyH_take (i := 13) (v := ((.bool false))) rfl (by kernel_rfl) (by kernel_rfl) (by kernel_rfl) (fun _ _ _ h => h) (Or.inl ⟨by kernel_rfl, by intro w' hS; go_simp⟩) hH1 ?_
                    simp only [Act.put, List.getElem_toArray, List.getElem_cons_zero, List.getElem_cons_succ, List.setIfInBounds_toArray, List.set_cons_zero, List.set_cons_succ]
                    refine wpAnyH_take (i := 14) (v := ((.bool false))) rfl (by kernel_rfl) (by kernel_rfl) (by kernel_rfl) (fun _ _ _ h => h) (Or.inl ⟨by kernel_rfl, by intro w' hS; go_simp⟩) hH1 ?_
                    simp only [Act.put, List.getElem_toArray, List.getElem_cons_zero, List.getElem_cons_succ, List.setIfInBounds_toArray, List.set_cons_zero, List.set_cons_succ]
                    refine wpAnyH_take (i := 15) (v := ((.bool false))) rfl (by kernel_rfl) (by kernel_rfl) (by kernel_rfl) (fun _ _ _ h => h) (Or.inl ⟨by kernel_rfl, by intro w' hS; go_simp⟩) hH1 ?_
                    simp only [Act.put, List.getElem_toArray, List.getElem_cons_zero, List.getElem_cons_succ, List.setIfInBounds_toArray, List.set_cons_zero, List.set_cons_succ]
                    refine wpAnyH_take (i := 16) (v := undef) rfl (by kernel_rfl) (by kernel_rfl) (by kernel_rfl) (fun _ _ _ h => h) (Or.inr ⟨by kernel_rfl, rfl⟩) hH1 ?_
                    simp only [Act.put, List.getElem_toArray, List.getElem_cons_zero, List.getElem_cons_succ, List.setIfInBounds_toArray, List.set_cons_zero, List.set_cons_succ]
                    refine wpAnyH_take (i := 17) (v := undef) rfl (by kernel_rfl) (by kernel_rfl) (by kernel_rfl) (fun _ _ _ h => h) (Or.inr ⟨by kernel_rfl, rfl⟩) hH1 ?_
                    simp only [Act.put, List.getElem_toArray, List.getElem_cons_zero, List.getElem_cons_succ, List.setIfInBounds_toArray, List.set_cons_zero, List.set_cons_succ]
                    refine wpAnyH_take (i := 18) (v := undef) rfl (by kernel_rfl) (by kernel_rfl) (by kernel_rfl) (fun _ _ _ h => h) (Or.inr ⟨by kernel_rfl, rfl⟩) hH1 ?_
                    simp only [Act.put, List.getElem_toArray, List.getElem_cons_zero, List.getElem_cons_succ, List.setIfInBounds_toArray, List.set_cons_zero, List.set_cons_succ]
                    refine wpAnyH_take (i := 19) (v := undef) rfl (by kernel_rfl) (by kernel_rfl) (by kernel_rfl) (fun _ _ _ h => h) (Or.inr ⟨by kernel_rfl, rfl⟩) hH1 ?_
                    simp only [Act.put, List.getElem_toArray, List.getElem_cons_zero, List.getElem_cons_succ, List.setIfInBounds_toArray, List.set_cons_zero, List.set_cons_succ]
                    refine wpAnyH_take (i := 20) (v := undef) rfl (by kernel_rfl) (by kernel_rfl) (by kernel_rfl) (fun _ _ _ h => h) (Or.inr ⟨by kernel_rfl, rfl⟩) hH1 ?_
                    simp only [Act.put, List.getElem_toArray, List.getElem_cons_zero, List.getElem_cons_succ, List.setIfInBounds_toArray, List.set_cons_zero, List.set_cons_succ]
                    refine wpAnyH_take (i := 21) (v := undef) rfl (by kernel_rfl) (by kernel_rfl) (by kernel_rfl) (fun _ _ _ h => h) (Or.inr ⟨by kernel_rfl, rfl⟩) hH1 ?_
                    simp only [Act.put, List.getElem_toArray, List.getElem_cons_zero, List.getElem_cons_succ, List.setIfInBounds_toArray, List.set_cons_zero, List.set_cons_succ]
                    refine wpAnyH_take (i := 22) (v := undef) rfl (by kernel_rfl) (by kernel_rfl) (by kernel_rfl) (fun _ _ _ h => h) (Or.inr ⟨by kernel_rfl, rfl⟩) hH1 ?_
                    simp only [Act.put, List.getElem_toArray, List.getElem_cons_zero, List.getElem_cons_succ, List.setIfInBounds_toArray, List.set_cons_zero, List.set_cons_succ]
                    refine wpAnyH_take (i := 23) (v := undef) rfl (by kernel_rfl) (by kernel_rfl) (by kernel_rfl) (fun _ _ _ h => h) (Or.inr ⟨by kernel_rfl, rfl⟩) hH1 ?_
                    simp only [Act.put, List.getElem_toArray, List.getElem_cons_zero, List.getElem_cons_succ, List.setIfInBounds_toArray, List.set_cons_zero, List.set_cons_succ]
                    refine wpAnyH_take (i := 24) (v := undef) rfl (by kernel_rfl) (by kernel_rfl) (by kernel_rfl) (fun _ _ _ h => h) (Or.inr ⟨by kernel_rfl, rfl⟩) hH1 ?_
                    simp only [Act.put, List.getElem_toArray, List.getElem_cons_zero, List.getElem_cons_succ, List.setIfInBounds_toArray, List.set_cons_zero, List.set_cons_succ]
                    refine wpAnyH_take (i := 25) (v := undef) rfl (by kernel_rfl) (by kernel_rfl) (by kernel_rfl) (fun _ _ _ h => h) (Or.inr ⟨by kernel_rfl, rfl⟩) hH1 ?_
                    simp only [Act.put, List.getElem_toArray, List.getElem_cons_zero, List.getElem_cons_succ, List.setIfInBounds_toArray, List.set_cons_zero, List.set_cons_succ]
                    refine wpAnyH_take (i := 26) (v := undef) rfl (by kernel_rfl) (by kernel_rfl) (by kernel_rfl) (fun _ _ _ h => h) (Or.inr ⟨by kernel_rfl, rfl⟩) hH1 ?_
                    simp only [Act.put, List.getElem_toArray, List.getElem_cons_zero, List.getElem_cons_succ, List.setIfInBounds_toArray, List.set_cons_zero, List.set_cons_succ]
                    refine wpAnyH_take (i := 27) (v := undef) rfl (by kernel_rfl) (by kernel_rfl) (by kernel_rfl) (fun _ _ _ h => h) (Or.inr ⟨by kernel_rfl, rfl⟩) hH1 ?_
                    simp only [Act.put, List.getElem_toArray, List.getElem_cons_zero, List.getElem_cons_succ, List.setIfInBounds_toArray, List.set_cons_zero, List.set_cons_succ]
                    refine wpAnyH_take (i := 28) (v := undef) rfl (by kernel_rfl) (by kernel_rfl) (by kernel_rfl) (fun _ _ _ h => h) (Or.inr ⟨by kernel_rfl, rfl⟩) hH1 ?_
                    simp only [Act.put, List.getElem_toArray, List.getElem_cons_zero, List.getElem_cons_succ, List.setIfInBounds_toArray, List.set_cons_zero, List.set_cons_succ]
                    refine wpAnyH_take (i := 29) (v := undef) rfl (by kernel_rfl) (by kernel_rfl) (by kernel_rfl) (fun _ _ _ h => h) (Or.inr ⟨by kernel_rfl, rfl⟩) hH1 ?_
                    simp only [Act.put, List.getElem_toArray, List.getElem_cons_zero, List.getElem_cons_succ, List.setIfInBounds_toArray, List.set_cons_zero, List.set_cons_succ]
                    refine wpAnyH_take (i := 30) (v := undef) rfl (by kernel_rfl) (by kernel_rfl) (by kernel_rfl) (fun _ _ _ h => h) (Or.inr ⟨by kernel_rfl, rfl⟩) hH1 ?_
                    simp only [Act.put, List.getElem_toArray, List.getElem_cons_zero, List.getElem_cons_succ, List.setIfInBounds_toArray, List.set_cons_zero, List.set_cons_succ]
                    refine wpAnyH_take (i := 31) (v := undef) rfl (by kernel_rfl) (by kernel_rfl) (by kernel_rfl) (fun _ _ _ h => h) (Or.inr ⟨by kernel_rfl, rfl⟩) hH1 ?_
                    simp only [Act.put, List.getElem_toArray, List.getElem_cons_zero, List.getElem_cons_succ, List.setIfInBounds_toArray, List.set_cons_zero, List.set_cons_succ]
                    refine wpAnyH_take (i := 32) (v := undef) rfl (by kernel_rfl) (by kernel_rfl) (by kernel_rfl) (fun _ _ _ h => h) (Or.inr ⟨by kernel_rfl, rfl⟩) hH1 ?_
                    simp only [Act.put, List.getElem_toArray, List.getElem_cons_zero, List.getElem_cons_succ, List.setIfInBounds_toArray, List.set_cons_zero, List.set_cons_succ]
                    refine wpAnyH_take (i := 33) (v := undef) rfl (by kernel_rfl) (by kernel_rfl) (by kernel_rfl) (fun _ _ _ h => h) (Or.inr ⟨by kernel_rfl, rfl⟩) hH1 ?_
                    simp only [Act.put, List.getElem_toArray, List.getElem_cons_zero, List.getElem_cons_succ, List.setIfInBounds_toArray, List.set_cons_zero, List.set_cons_succ]
                    refine wpAnyH_take (i := 34) (v := undef) rfl (by kernel_rfl) (by kernel_rfl) (by kernel_rfl) (fun _ _ _ h => h) (Or.inr ⟨by kernel_rfl, rfl⟩) hH1 ?_
                    simp only [Act.put, List.getElem_toArray, List.getElem_cons_zero, List.getElem_cons_succ, List.setIfInBounds_toArray, List.set_cons_zero, List.set_cons_succ]
                    refine wpAnyH_take (i := 35) (v := ((.bool false))) rfl (by kernel_rfl) (by kernel_rfl) (by kernel_rfl) (fun _ _ _ h => h) (Or.inl ⟨by kernel_rfl, by intro w' hS; go_simp⟩) hH1 ?_
                    simp only [Act.put, List.getElem_toArray, List.getElem_cons_zero, List.getElem_cons_succ, List.setIfInBounds_toArray, List.set_cons_zero, List.set_cons_succ]
                    refine wpAnyH_take (i := 36) (v := ((.bool false))) rfl (by kernel_rfl) (by kernel_rfl) (by kernel_rfl) (fun _ _ _ h => h) (Or.inl ⟨by kernel_rfl, by intro w' hS; go_simp⟩) hH1 ?_
                    simp only [Act.put, List.getElem_toArray, List.getElem_cons_zero, List.getElem_cons_succ, List.setIfInBounds_toArray, List.set_cons_zero, List.set_cons_succ]
                    refine wpAnyH_done (by kernel_rfl) ?_ _
                    refine NoPanic.normal ?_
                    have HEND := Lib.hid (show RunI K s0 w g (k + 1) (.slice a q c1) x1 from ⟨xs, a, q, c1, rfl, by omega, HDIF.out, HOKS.out, H8.out.below HB1.out⟩)
                    clear H8 HB1
                    go_wp2_with fail
                    go_roundw
                    case rel => exact ⟨k + 1, by go_num, by omega, by omega, HEND.out⟩
                    case measure => simp [intOf]; omega
                · have HEND := Lib.hid (show RunI K s0 w g (k + 1) (.slice a q c1) w5 from ⟨xs, a, q, c1, rfl, by omega, HDIF.out, HOKS.out, H5.out⟩)
                  clear H5
                  go_wp2
                  go_roundw
                  case rel => exact ⟨k + 1, by go_num, by omega, by omega, HEND.out⟩
                  case measure => simp [intOf]; omega
    · by_cases hx : k < N
      · have hx' : (k : Int) < (N : Int) := by omega
        have hx2' : ¬ (k : Int) < 60 := by omega
        clear hx hlt hk hk60
        have hkeys := HRW.out.keys
        have HKEYS := Lib.hid hkeys
        clear hkeys
        go_wp2_with fail
        refine HKEYS.out.mono ?_
        rintro _ w4 ⟨a1, n1, c1', ks, rfl, hkt, hka, hn1, h4⟩
        have hlen : n1 = n := by
          rw [← hka.len, hkt.len_eq (by rw [List.map_map]; exact HDIF.out), List.length_map, HRW.out.len]
        subst hlen
        have HKT := Lib.hid hkt
        have HKA := Lib.hid hka
        have H4 := Lib.hid h4
        clear hkt hka h4 HKEYS
        obtain ⟨ZK, hzK, hzKs, hzKn⟩ := zero_key
        go_wp2_with fail
        go_loopw [214] (fun jv wy => ∃ q : Nat, jv = .int .i64 (q : Int) ∧ q ≤ n1 ∧ Below w4.heap.size w4 wy) (fun jv _ => n1 - (intOf jv).toNat)
        case atStart => exact ⟨0, rfl, Nat.zero_le _, Below.refl _ _⟩
        case round =>
          obtain ⟨q, rfl, hq, hby⟩ := hrel
          have HBY := Lib.hid hby
          clear hby
          by_cases hq2 : q < n1
          · as_aux_lemma =>
              obtain ⟨y, hy⟩ : ∃ y, ks[q]? = some y := ⟨_, List.getElem?_eq_getElem (by rw [HKA.out.len]; exact hq2)⟩
              obtain ⟨kb, ko, hA2, hkb, hrk⟩ := HKA.out.at_ (by omega)
              subst hA2
              have hyh := HKA.out.hash y (List.mem_of_getElem? hy)
              obtain ⟨LK, hLK⟩ : ∃ L, L = bcells y := ⟨_, rfl⟩
              have lk : LK.length = 32 := by rw [hLK, bcells_length, hyh.1]
              have hrw4 := rangeAt_kept (hrk q y hy) (Kept.of_below (S := fun _ => False) HBY.out) (fun h => h)
              rw [← hLK] at hrw4
              have HR4 := Lib.hid hrw4
              have hat := at_hashR kb ko n1 c1' q hq2
              have SZK := Lib.hid (show (Tryd.prog.info? 28).map (·.size) = some LK.length by rw [lk]; kernel_rfl)
              have SZKA := Lib.hid (show (Tryd.prog.info? 28).map (·.size) = some LK.toArray.size by rw [List.size_toArray, lk]; kernel_rfl)
              have HZK := Lib.hid (show ZK.size = LK.toArray.size by rw [hzKs, List.size_toArray, lk])
              have ONEK := Lib.hid (show LK.toArray.all (·.oneCell') = true by rw [hLK]; exact all_oneCell_toArray (bcells_oneC _))
              have hnw : Has ((wr.alloc (.cells ZK 28)).setRow wr.heap.size LK.toArray) wr.heap.size 28 LK.toArray ∧ Kept (fun _ => False) wr ((wr.alloc (.cells ZK 28)).setRow wr.heap.size LK.toArray) := by
                rw [World.setRow_alloc_new]
                exact ⟨Has.new wr _ _, (Kept.refl _ _).alloc _⟩
              have HNW := Lib.hid hnw
              have HHY := Lib.hid hyh
              have EY := Lib.hid hy
              have EL := Lib.hid hLK
              have HRK := Lib.hid hrk
              clear hnw hyh hy hLK lk hrw4 hrk
              go_upto_region 56 with (first
                | (refine wpList_load_mid rfl 28 (.tmp 217) rfl kb (ko + q * 32) rfl LK _ HR4.out Tryd.underlying28 rfl SZK.out ?_)
                | (refine wpList_store_row rfl 28 (.tmp 21) (.tmp 218) rfl wr.heap.size LK.toArray rfl rfl 28 ZK (heap_alloc_new wr _) SZKA.out HZK.out ONEK.out ?_))
              obtain ⟨hk5, hkk5⟩ := HNW.out
              have hb5 := HBY.out.trans (hkk5.below HBY.out.size (fun _ h => h.elim))
              clear HNW HR4 hkk5
              generalize (wr.alloc (.cells ZK 28)).setRow wr.heap.size LK.toArray = W5 at hk5 hb5 ⊢
              generalize wr.heap.size = G5 at hk5 ⊢
              have HK5 := Lib.hid hk5
              have HB5 := Lib.hid hb5
              have hfin : ∀ v, Below W5.heap.size W5 v → v.rangeAt G5 0 LK ∧ Calls Tryd.prog 22 #[.pointer (some ⟨g, 0, none⟩), .agg LK.toArray] v fun e w' => ∃ a0 n0 c0 s0, e = .returned (.tuple #[.agg #[.slice a0 n0 c0, .int .u64 ((s0 : Nat) : Int)], .bool true]) ∧ Below w4.heap.size w4 w' := fun v hv => by
                have hb6 := HB5.out.trans (hv.mono HB5.out.size)
                refine ⟨(HK5.out.below hv HK5.out.lt).row0, ?_⟩
                obtain ⟨l, hl⟩ := HKT.out.find y (List.mem_of_getElem? EY.out)
                have h := tr_get (H4.out.tr.quiet hb6) y HHY.out
                rw [hl] at h
                rw [EL.out]
                refine h.mono fun e w' ⟨v', h1, h2, h3⟩ => ?_
                obtain ⟨a0, c0, rfl, -⟩ := h2
                exact ⟨a0, _, c0, _, h1, hb6.trans (h3.mono hb6.size)⟩
              have HFIN := Lib.hid hfin
              have hFW := HFIN.out W5.drew (Below.refl _ _).drew
              have HFW := Lib.hid hFW
              clear hk5 hb5 hfin hFW
              rcases Nat.eq_zero_or_pos q with hq0 | hq0
              · have hq0' : ¬ (0 : Int) < (q : Int) := by omega
                have hq0n : ¬ 0 < q := by omega
                clear HK5 hq0
                refine wp_region_noPanic ?_
                refine wp_region_held_drew (S := (fun _ => True)) (by kernel_rfl) trivial (fun hH0 => ?_)
                refine wpAnyH_take (i := 0) (v := ((.int .i64 (q : Int)))) rfl (by kernel_rfl) (by kernel_rfl) (by kernel_rfl) (fun _ _ _ h => h) (Or.inl ⟨by kernel_rfl, by intro w' hS; go_simp⟩) hH0 ?_
                simp only [Act.put, List.getElem_toArray, List.getElem_cons_zero, List.getElem_cons_succ, List.setIfInBounds_toArray, List.set_cons_zero, List.set_cons_succ]
                refine wpAnyH_take (i := 1) (v := ((.bool false))) rfl (by kernel_rfl) (by kernel_rfl) (by kernel_rfl) (fun _ _ _ h => h) (Or.inl ⟨by kernel_rfl, by intro w' hS; go_simp⟩) hH0 ?_
                simp only [Act.put, List.getElem_toArray, List.getElem_cons_zero, List.getElem_cons_succ, List.setIfInBounds_toArray, List.set_cons_zero, List.set_cons_succ]
                refine wpAnyH_take (i := 2) (v := ((.bool false))) rfl (by kernel_rfl) (by kernel_rfl) (by kernel_rfl) (fun _ _ _ h => h) (Or.inl ⟨by kernel_rfl, by intro w' hS; go_simp⟩) hH0 ?_
                simp only [Act.put, List.getElem_toArray, List.getElem_cons_zero, List.getElem_cons_succ, List.setIfInBounds_toArray, List.set_cons_zero, List.set_cons_succ]
                refine wpAnyH_take (i := 3) (v := undef) rfl (by kernel_rfl) (by kernel_rfl) (by kernel_rfl) (fun _ _ _ h => h) (Or.inr ⟨by kernel_rfl, rfl⟩) hH0 ?_
                simp only [Act.put, List.getElem_toArray, List.getElem_cons_zero, List.getElem_cons_succ, List.setIfInBounds_toArray, List.set_cons_zero, List.set_cons_succ]
                refine wpAnyH_take (i := 4) (v := undef) rfl (by kernel_rfl) (by kernel_rfl) (by kernel_rfl) (fun _ _ _ h => h) (Or.inr ⟨by kernel_rfl, rfl⟩) hH0 ?_
                simp only [Act.put, List.getElem_toArray, List.getElem_cons_zero, List.getElem_cons_succ, List.setIfInBounds_toArray, List.set_cons_zero, List.set_cons_succ]
                refine wpAnyH_take (i := 5) (v := undef) rfl (by kernel_rfl) (by kernel_rfl) (by kernel_rfl) (fun _ _ _ h => h) (Or.inr ⟨by kernel_rfl, rfl⟩) hH0 ?_
                simp only [Act.put, List.getElem_toArray, List.getElem_cons_zero, List.getElem_cons_succ, List.setIfInBounds_toArray, List.set_cons_zero, List.set_cons_succ]
                refine wpAnyH_take (i := 6) (v := undef) rfl (by kernel_rfl) (by kernel_rfl) (by kernel_rfl) (fun _ _ _ h => h) (Or.inr ⟨by kernel_rfl, rfl⟩) hH0 ?_
                simp only [Act.put, List.getElem_toArray, List.getElem_cons_zero, List.getElem_cons_succ, List.setIfInBounds_toArray, List.set_cons_zero, List.set_cons_succ]
                refine wpAnyH_take (i := 7) (v := undef) rfl (by kernel_rfl) (by kernel_rfl) (by kernel_rfl) (fun _ _ _ h => h) (Or.inr ⟨by kernel_rfl, rfl⟩) hH0 ?_
                simp only [Act.put, List.getElem_toArray, List.getElem_cons_zero, List.getElem_cons_succ, List.setIfInBounds_toArray, List.set_cons_zero, List.set_cons_succ]
                refine wpAnyH_take (i := 8) (v := undef) rfl (by kernel_rfl) (by kernel_rfl) (by kernel_rfl) (fun _ _ _ h => h) (Or.inr ⟨by kernel_rfl, rfl⟩) hH0 ?_
                simp only [Act.put, List.getElem_toArray, List.getElem_cons_zero, List.getElem_cons_succ, List.setIfInBounds_toArray, List.set_cons_zero, List.set_cons_succ]
                refine wpAnyH_take (i := 9) (v := undef) rfl (by kernel_rfl) (by kernel_rfl) (by kernel_rfl) (fun _ _ _ h => h) (Or.inr ⟨by kernel_rfl, rfl⟩) hH0 ?_
                simp only [Act.put, List.getElem_toArray, List.getElem_cons_zero, List.getElem_cons_succ, List.setIfInBounds_toArray, List.set_cons_zero, List.set_cons_succ]
                refine wpAnyH_take (i := 10) (v := undef) rfl (by kernel_rfl) (by kernel_rfl) (by kernel_rfl) (fun _ _ _ h => h) (Or.inr ⟨by kernel_rfl, rfl⟩) hH0 ?_
                simp only [Act.put, List.getElem_toArray, List.getElem_cons_zero, List.getElem_cons_succ, List.setIfInBounds_toArray, List.set_cons_zero, List.set_cons_succ]
                refine wpAnyH_take (i := 11) (v := ((.bool false))) rfl (by kernel_rfl) (by kernel_rfl) (by kernel_rfl) (fun _ _ _ h => h) (Or.inl ⟨by kernel_rfl, by intro w' hS; go_simp⟩) hH0 ?_
                simp only [Act.put, List.getElem_toArray, List.getElem_cons_zero, List.getElem_cons_succ, List.setIfInBounds_toArray, List.set_cons_zero, List.set_cons_succ]
                refine wpAnyH_done (by kernel_rfl) ?_ _
                refine NoPanic.normal ?_
                go_wp2_with (refine wpList_load_mid rfl 28 (.tmp 21) rfl G5 0 rfl LK _ HFW.out.1 Tryd.underlying28 rfl SZK.out ?_)
                refine HFW.out.2.mono ?_
                rintro _ w7 ⟨a0, n0, c0, s7, rfl, hb7⟩
                have hb8 : Below w4.heap.size w4 ((w7.alloc (.cells #[.slice none 0 0, .int .u64 0] 32)).setRow w7.heap.size #[.slice a0 n0 c0, .int .u64 ((s7 : Nat) : Int)]) := by
                  rw [World.setRow_alloc_new]
                  exact hb7.alloc hb7.size _
                have HB8 := Lib.hid hb8
                have SZ2 := Lib.hid (show (Tryd.prog.info? 32).map (·.size) = some (#[Value.slice a0 n0 c0, .int .u64 ((s7 : Nat) : Int)] : Array Value).size by kernel_rfl)
                have ONE2 := Lib.hid (show (#[Value.slice a0 n0 c0, .int .u64 ((s7 : Nat) : Int)] : Array Value).all (·.oneCell') = true by kernel_rfl)
                clear hb7 hb8
                go_wp2_with (refine wpList_store_row rfl 32 (.tmp 22) (.tmp 235) rfl w7.heap.size #[.slice a0 n0 c0, .int .u64 ((s7 : Nat) : Int)] rfl rfl 32 #[.slice none 0 0, .int .u64 0] (heap_alloc_new w7 _) SZ2.out rfl ONE2.out ?_)
                go_roundw
                case rel => exact ⟨q + 1, by go_num, by omega, HB8.out⟩
                case measure => simp [intOf]; omega
              · obtain ⟨q', hq'⟩ : ∃ q', q = q' + 1 := ⟨q - 1, by omega⟩
                obtain ⟨z, hz9⟩ : ∃ z, ks[q']? = some z := ⟨_, List.getElem?_eq_getElem (by rw [HKA.out.len]; omega)⟩
                have hzh := HKA.out.hash z (List.mem_of_getElem? hz9)
                have hlt : lexC z y < 0 := by
                  obtain ⟨i1, e1⟩ := List.getElem?_eq_some_iff.1 hz9
                  obtain ⟨i2, e2⟩ := List.getElem?_eq_some_iff.1 EY.out
                  have := List.pairwise_iff_getElem.1 HKT.out.sorted q' q i1 i2 (by omega)
                  rwa [e1, e2] at this
                have hat2 := at_hashR kb ko n1 c1' q' (by omega)
                have hpos : (0 : Int) < (q : Int) := by omega
                have hw2 : IntKind.i64.wrap ((q : Int) - 1) = (q' : Int) := by rw [IntKind.wrap_i64]; omega
                have HW2 := Lib.hid hw2
                clear hw2
                obtain ⟨lx, hlx⟩ : ∃ j, j = lexC z y := ⟨_, rfl⟩
                have hcmp : Calls Tryd.prog 25 #[.slice (some ⟨kb, ko + q' * 32, none⟩) 32 32, .slice (some ⟨G5, 0, none⟩) 32 32] W5.drew fun e w' => e = .returned (.int .i64 lx) ∧ w' = W5.drew := by
                  have hb6 := HB5.out.trans ((Below.refl W5.heap.size W5).drew.mono HB5.out.size)
                  have r1 := rangeAt_kept (HRK.out q' z hz9) (Kept.of_below (S := fun _ => False) hb6) (fun h => h)
                  have r2 := HFW.out.1
                  rw [EL.out] at r2
                  rw [hlx]
                  exact (bytesCompare_is W5.drew kb (ko + q' * 32) 32 G5 0 32 32 32 z y hzh.1 HHY.out.1 (fun i hi => r1 i _ (bcells_get z i (by rw [hzh.1]; exact hi))) (fun i hi => r2 i _ (bcells_get y i (by rw [HHY.out.1]; exact hi))) hzh.2 HHY.out.2).mono fun e w' he => ⟨he.1, he.2.symm⟩
                have hlx0 : ¬ 0 ≤ lx := by omega
                have HCMP := Lib.hid hcmp
                clear hcmp hlx hlt hzh hz9 HK5 hq'
                refine wp_region_noPanic ?_
                refine wp_region_held_drew (S := (fun _ => True)) (by kernel_rfl) trivial (fun hH0 => ?_)
                refine wpAnyH_take (i := 0) (v := ((.int .i64 (q : Int)))) rfl (by kernel_rfl) (by kernel_rfl) (by kernel_rfl) (fun _ _ _ h => h) (Or.inl ⟨by kernel_rfl, by intro w' hS; go_simp⟩) hH0 ?_
                simp only [Act.put, List.getElem_toArray, List.getElem_cons_zero, List.getElem_cons_succ, List.setIfInBounds_toArray, List.set_cons_zero, List.set_cons_succ]
                refine wpAnyH_take (i := 1) (v := ((.bool true))) rfl (by kernel_rfl) (by kernel_rfl) (by kernel_rfl) (fun _ _ _ h => h) (Or.inl ⟨by kernel_rfl, by intro w' hS; go_simp⟩) hH0 ?_
                simp only [Act.put, List.getElem_toArray, List.getElem_cons_zero, List.getElem_cons_succ, List.setIfInBounds_toArray, List.set_cons_zero, List.set_cons_succ]
                refine wpAnyH_take (i := 2) (v := ((.bool true))) rfl (by kernel_rfl) (by kernel_rfl) (by kernel_rfl) (fun _ _ _ h => h) (Or.inl ⟨by kernel_rfl, by intro w' hS; go_simp⟩) hH0 ?_
                simp only [Act.put, List.getElem_toArray, List.getElem_cons_zero, List.getElem_cons_succ, List.setIfInBounds_toArray, List.set_cons_zero, List.set_cons_succ]
                refine wpAnyH_take (i := 3) (v := ((.slice (some ⟨kb, ko, none⟩) n1 c1'))) rfl (by kernel_rfl) (by kernel_rfl) (by kernel_rfl) (fun _ _ _ h => h) (Or.inl ⟨by kernel_rfl, by intro w' hS; go_simp⟩) hH0 ?_
                simp only [Act.put, List.getElem_toArray, List.getElem_cons_zero, List.getElem_cons_succ, List.setIfInBounds_toArray, List.set_cons_zero, List.set_cons_succ]
                refine wpAnyH_take (i := 4) (v := ((.int .i64 (q : Int)))) rfl (by kernel_rfl) (by kernel_rfl) (by kernel_rfl) (fun _ _ _ h => h) (Or.inl ⟨by kernel_rfl, by intro w' hS; go_simp⟩) hH0 ?_
                simp only [Act.put, List.getElem_toArray, List.getElem_cons_zero, List.getElem_cons_succ, List.setIfInBounds_toArray, List.set_cons_zero, List.set_cons_succ]
                refine wpAnyH_take (i := 5) (v := ((.int .i64 (q' : Int)))) rfl (by kernel_rfl) (by kernel_rfl) (by kernel_rfl) (fun _ _ _ h => h) (Or.inl ⟨by kernel_rfl, by intro w' hS; have hw2 := HW2.out; go_simp⟩) hH0 ?_
                simp only [Act.put, List.getElem_toArray, List.getElem_cons_zero, List.getElem_cons_succ, List.setIfInBounds_toArray, List.set_cons_zero, List.set_cons_succ]
                refine wpAnyH_take (i := 6) (v := ((.pointer (some ⟨kb, ko + q' * 32, none⟩)))) rfl (by kernel_rfl) (by kernel_rfl) (by kernel_rfl) (fun _ _ _ h => h) (Or.inl ⟨by kernel_rfl, by intro w' hS; go_simp⟩) hH0 ?_
                simp only [Act.put, List.getElem_toArray, List.getElem_cons_zero, List.getElem_cons_succ, List.setIfInBounds_toArray, List.set_cons_zero, List.set_cons_succ]
                refine wpAnyH_take (i := 7) (v := ((.slice (some ⟨kb, ko + q' * 32, none⟩) 32 32))) rfl (by kernel_rfl) (by kernel_rfl) (by kernel_rfl) (fun _ _ _ h => h) (Or.inl ⟨by kernel_rfl, by intro w' hS; go_simp⟩) hH0 ?_
                simp only [Act.put, List.getElem_toArray, List.getElem_cons_zero, List.getElem_cons_succ, List.setIfInBounds_toArray, List.set_cons_zero, List.set_cons_succ]
                refine wpAnyH_take (i := 8) (v := ((.slice (some ⟨G5, 0, none⟩) 32 32))) rfl (by kernel_rfl) (by kernel_rfl) (by kernel_rfl) (fun _ _ _ h => h) (Or.inl ⟨by kernel_rfl, by intro w' hS; go_simp⟩) hH0 ?_
                simp only [Act.put, List.getElem_toArray, List.getElem_cons_zero, List.getElem_cons_succ, List.setIfInBounds_toArray, List.set_cons_zero, List.set_cons_succ]
                refine wpAnyH_ready (rs := [9]) (by kernel_rfl) (by simp) ?_
                refine AllReadyH.cons rfl (fun K hK => ?_) AllReadyH.nil
                go_simp
                refine HCMP.out.mono ?_
                rintro _ x1 ⟨rfl, hx1⟩
                subst hx1
                refine Shut.out hK _ _ trivial (fun hH1 => ?_)
                clear hK K
                try simp only [Act.put, List.getElem_toArray, List.getElem_cons_zero, List.getElem_cons_succ, List.setIfInBounds_toArray, List.set_cons_zero, List.set_cons_succ]
                refine wpAnyH_take (i := 10) (v := ((.bool false))) rfl (by kernel_rfl) (by kernel_rfl) (by kernel_rfl) (fun _ _ _ h => h) (Or.inl ⟨by kernel_rfl, by intro w' hS; go_simp⟩) hH1 ?_
                simp only [Act.put, List.getElem_toArray, List.getElem_cons_zero, List.getElem_cons_succ, List.setIfInBounds_toArray, List.set_cons_zero, List.set_cons_succ]
                refine wpAnyH_take (i := 11) (v := ((.bool false))) rfl (by kernel_rfl) (by kernel_rfl) (by kernel_rfl) (fun _ _ _ h => h) (Or.inl ⟨by kernel_rfl, by intro w' hS; go_simp⟩) hH1 ?_
                simp only [Act.put, List.getElem_toArray, List.getElem_cons_zero, List.getElem_cons_succ, List.setIfInBounds_toArray, List.set_cons_zero, List.set_cons_succ]
                refine wpAnyH_done (by kernel_rfl) ?_ _
                refine NoPanic.normal ?_
                go_wp2_with (refine wpList_load_mid rfl 28 (.tmp 21) rfl G5 0 rfl LK _ HFW.out.1 Tryd.underlying28 rfl SZK.out ?_)
                refine HFW.out.2.mono ?_
                rintro _ w7 ⟨a0, n0, c0, s7, rfl, hb7⟩
                have hb8 : Below w4.heap.size w4 ((w7.alloc (.cells #[.slice none 0 0, .int .u64 0] 32)).setRow w7.heap.size #[.slice a0 n0 c0, .int .u64 ((s7 : Nat) : Int)]) := by
                  rw [World.setRow_alloc_new]
                  exact hb7.alloc hb7.size _
                have HB8 := Lib.hid hb8
                have SZ2 := Lib.hid (show (Tryd.prog.info? 32).map (·.size) = some (#[Value.slice a0 n0 c0, .int .u64 ((s7 : Nat) : Int)] : Array Value).size by kernel_rfl)
                have ONE2 := Lib.hid (show (#[Value.slice a0 n0 c0, .int .u64 ((s7 : Nat) : Int)] : Array Value).all (·.oneCell') = true by kernel_rfl)
                clear hb7 hb8
                go_wp2_with (refine wpList_store_row rfl 32 (.tmp 22) (.tmp 235) rfl w7.heap.size #[.slice a0 n0 c0, .int .u64 ((s7 : Nat) : Int)] rfl rfl 32 #[.slice none 0 0, .int .u64 0] (heap_alloc_new w7 _) SZ2.out rfl ONE2.out ?_)
                go_roundw
                case rel => exact ⟨q + 1, by go_num, by omega, HB8.out⟩
                case measure => simp [intOf]; omega
          · obtain rfl : q = n1 := by omega
            have HFB := Lib.hid (H4.out.bel.trans (HBY.out.mono H4.out.bel.size))
            go_wp2
            go_ret
            exact ⟨rfl, HFB.out⟩
      · have hx' : ¬ (k : Int) < (N : Int) := by omega
        clear hx hlt hk hk60
        have hkeys := HRW.out.keys
        have HKEYS := Lib.hid hkeys
        clear hkeys
        go_wp2_with fail
        refine HKEYS.out.mono ?_
        rintro _ w4 ⟨a1, n1, c1', ks, rfl, hkt, hka, hn1, h4⟩
        have hlen : n1 = n := by
          rw [← hka.len, hkt.len_eq (by rw [List.map_map]; exact HDIF.out), List.length_map, HRW.out.len]
        subst hlen
        have HKT := Lib.hid hkt
        have HKA := Lib.hid hka
        have H4 := Lib.hid h4
        clear hkt hka h4 HKEYS
        obtain ⟨ZK, hzK, hzKs, hzKn⟩ := zero_key
        go_wp2_with fail
        go_loopw [214] (fun jv wy => ∃ q : Nat, jv = .int .i64 (q : Int) ∧ q ≤ n1 ∧ Below w4.heap.size w4 wy) (fun jv _ => n1 - (intOf jv).toNat)
        case atStart => exact ⟨0, rfl, Nat.zero_le _, Below.refl _ _⟩
        case round =>
          obtain ⟨q, rfl, hq, hby⟩ := hrel
          have HBY := Lib.hid hby
          clear hby
          by_cases hq2 : q < n1
          · as_aux_lemma =>
              obtain ⟨y, hy⟩ : ∃ y, ks[q]? = some y := ⟨_, List.getElem?_eq_getElem (by rw [HKA.out.len]; exact hq2)⟩
              obtain ⟨kb, ko, hA2, hkb, hrk⟩ := HKA.out.at_ (by omega)
              subst hA2
              have hyh := HKA.out.hash y (List.mem_of_getElem? hy)
              obtain ⟨LK, hLK⟩ : ∃ L, L = bcells y := ⟨_, rfl⟩
              have lk : LK.length = 32 := by rw [hLK, bcells_length, hyh.1]
              have hrw4 := rangeAt_kept (hrk q y hy) (Kept.of_below (S := fun _ => False) HBY.out) (fun h => h)
              rw [← hLK] at hrw4
              have HR4 := Lib.hid hrw4
              have hat := at_hashR kb ko n1 c1' q hq2
              have SZK := Lib.hid (show (Tryd.prog.info? 28).map (·.size) = some LK.length by rw [lk]; kernel_rfl)
              have SZKA := Lib.hid (show (Tryd.prog.info? 28).map (·.size) = some LK.toArray.size by rw [List.size_toArray, lk]; kernel_rfl)
              have HZK := Lib.hid (show ZK.size = LK.toArray.size by rw [hzKs, List.size_toArray, lk])
              have ONEK := Lib.hid (show LK.toArray.all (·.oneCell') = true by rw [hLK]; exact all_oneCell_toArray (bcells_oneC _))
              have hnw : Has ((wr.alloc (.cells ZK 28)).setRow wr.heap.size LK.toArray) wr.heap.size 28 LK.toArray ∧ Kept (fun _ => False) wr ((wr.alloc (.cells ZK 28)).setRow wr.heap.size LK.toArray) := by
                rw [World.setRow_alloc_new]
                exact ⟨Has.new wr _ _, (Kept.refl _ _).alloc _⟩
              have HNW := Lib.hid hnw
              have HHY := Lib.hid hyh
              have EY := Lib.hid hy
              have EL := Lib.hid hLK
              have HRK := Lib.hid hrk
              clear hnw hyh hy hLK lk hrw4 hrk
              go_upto_region 56 with (first
                | (refine wpList_load_mid rfl 28 (.tmp 217) rfl kb (ko + q * 32) rfl LK _ HR4.out Tryd.underlying28 rfl SZK.out ?_)
                | (refine wpList_store_row rfl 28 (.tmp 21) (.tmp 218) rfl wr.heap.size LK.toArray rfl rfl 28 ZK (heap_alloc_new wr _) SZKA.out HZK.out ONEK.out ?_))
              obtain ⟨hk5, hkk5⟩ := HNW.out
              have hb5 := HBY.out.trans (hkk5.below HBY.out.size (fun _ h => h.elim))
              clear HNW HR4 hkk5
              generalize (wr.alloc (.cells ZK 28)).setRow wr.heap.size LK.toArray = W5 at hk5 hb5 ⊢
              generalize wr.heap.size = G5 at hk5 ⊢
              have HK5 := Lib.hid hk5
              have HB5 := Lib.hid hb5
              have hfin : ∀ v, Below W5.heap.size W5 v → v.rangeAt G5 0 LK ∧ Calls Tryd.prog 22 #[.pointer (some ⟨g, 0, none⟩), .agg LK.toArray] v fun e w' => ∃ a0 n0 c0 s0, e = .returned (.tuple #[.agg #[.slice a0 n0 c0, .int .u64 ((s0 : Nat) : Int)], .bool true]) ∧ Below w4.heap.size w4 w' := fun v hv => by
                have hb6 := HB5.out.trans (hv.mono HB5.out.size)
                refine ⟨(HK5.out.below hv HK5.out.lt).row0, ?_⟩
                obtain ⟨l, hl⟩ := HKT.out.find y (List.mem_of_getElem? EY.out)
                have h := tr_get (H4.out.tr.quiet hb6) y HHY.out
                rw [hl] at h
                rw [EL.out]
                refine h.mono fun e w' ⟨v', h1, h2, h3⟩ => ?_
                obtain ⟨a0, c0, rfl, -⟩ := h2
                exact ⟨a0, _, c0, _, h1, hb6.trans (h3.mono hb6.size)⟩
              have HFIN := Lib.hid hfin
              have hFW := HFIN.out W5.drew (Below.refl _ _).drew
              have HFW := Lib.hid hFW
              clear hk5 hb5 hfin hFW
              rcases Nat.eq_zero_or_pos q with hq0 | hq0
              · have hq0' : ¬ (0 : Int) < (q : Int) := by omega
                have hq0n : ¬ 0 < q := by omega
                clear HK5 hq0
                refine wp_region_noPanic ?_
                refine wp_region_held_drew (S := (fun _ => True)) (by kernel_rfl) trivial (fun hH0 => ?_)
                refine wpAnyH_take (i := 0) (v := ((.int .i64 (q : Int)))) rfl (by kernel_rfl) (by kernel_rfl) (by kernel_rfl) (fun _ _ _ h => h) (Or.inl ⟨by kernel_rfl, by intro w' hS; go_simp⟩) hH0 ?_
                simp only [Act.put, List.getElem_toArray, List.getElem_cons_zero, List.getElem_cons_succ, List.setIfInBounds_toArray, List.set_cons_zero, List.set_cons_succ]
                refine wpAnyH_take (i := 1) (v := ((.bool false))) rfl (by kernel_rfl) (by kernel_rfl) (by kernel_rfl) (fun _ _ _ h => h) (Or.inl ⟨by kernel_rfl, by intro w' hS; go_simp⟩) hH0 ?_
                simp only [Act.put, List.getElem_toArray, List.getElem_cons_zero, List.getElem_cons_succ, List.setIfInBounds_toArray, List.set_cons_zero, List.set_cons_succ]
                refine wpAnyH_take (i := 2) (v := ((.bool false))) rfl (by kernel_rfl) (by kernel_rfl) (by kernel_rfl) (fun _ _ _ h => h) (Or.inl ⟨by kernel_rfl, by intro w' hS; go_simp⟩) hH0 ?_
                simp only [Act.put, List.getElem_toArray, List.getElem_cons_zero, List.getElem_cons_succ, List.setIfInBounds_toArray, List.set_cons_zero, List.set_cons_succ]
                refine wpAnyH_take (i := 3) (v := undef) rfl (by kernel_rfl) (by kernel_rfl) (by kernel_rfl) (fun _ _ _ h => h) (Or.inr ⟨by kernel_rfl, rfl⟩) hH0 ?_
                simp only [Act.put, List.getElem_toArray, List.getElem_cons_zero, List.getElem_cons_succ, List.setIfInBounds_toArray, List.set_cons_zero, List.set_cons_succ]
                refine wpAnyH_take (i := 4) (v := undef) rfl (by kernel_rfl) (by kernel_rfl) (by kernel_rfl) (fun _ _ _ h => h) (Or.inr ⟨by kernel_rfl, rfl⟩) hH0 ?_
                simp only [Act.put, List.getElem_toArray, List.getElem_cons_zero, List.getElem_cons_succ, List.setIfInBounds_toArray, List.set_cons_zero, List.set_cons_succ]
                refine wpAnyH_take (i := 5) (v := undef) rfl (by kernel_rfl) (by kernel_rfl) (by kernel_rfl) (fun _ _ _ h => h) (Or.inr ⟨by kernel_rfl, rfl⟩) hH0 ?_
                simp only [Act.put, List.getElem_toArray, List.getElem_cons_zero, List.getElem_cons_succ, List.setIfInBounds_toArray, List.set_cons_zero, List.set_cons_succ]
                refine wpAnyH_take (i := 6) (v := undef) rfl (by kernel_rfl) (by kernel_rfl) (by kernel_rfl) (fun _ _ _ h => h) (Or.inr ⟨by kernel_rfl, rfl⟩) hH0 ?_
                simp only [Act.put, List.getElem_toArray, List.getElem_cons_zero, List.getElem_cons_succ, List.setIfInBounds_toArray, List.set_cons_zero, List.set_cons_succ]
                refine wpAnyH_take (i := 7) (v := undef) rfl (by kernel_rfl) (by kernel_rfl) (by kernel_rfl) (fun _ _ _ h => h) (Or.inr ⟨by kernel_rfl, rfl⟩) hH0 ?_
                simp only [Act.put, List.getElem_toArray, List.getElem_cons_zero, List.getElem_cons_succ, List.setIfInBounds_toArray, List.set_cons_zero, List.set_cons_succ]
                refine wpAnyH_take (i := 8) (v := undef) rfl (by kernel_rfl) (by kernel_rfl) (by kernel_rfl) (fun _ _ _ h => h) (Or.inr ⟨by kernel_rfl, rfl⟩) hH0 ?_
                simp only [Act.put, List.getElem_toArray, List.getElem_cons_zero, List.getElem_cons_succ, List.setIfInBounds_toArray, List.set_cons_zero, List.set_cons_succ]
                refine wpAnyH_take (i := 9) (v := undef) rfl (by kernel_rfl) (by kernel_rfl) (by kernel_rfl) (fun _ _ _ h => h) (Or.inr ⟨by kernel_rfl, rfl⟩) hH0 ?_
                simp only [Act.put, List.getElem_toArray, List.getElem_cons_zero, List.getElem_cons_succ, List.setIfInBounds_toArray, List.set_cons_zero, List.set_cons_succ]
                refine wpAnyH_take (i := 10) (v := undef) rfl (by kernel_rfl) (by kernel_rfl) (by kernel_rfl) (fun _ _ _ h => h) (Or.inr ⟨by kernel_rfl, rfl⟩) hH0 ?_
                simp only [Act.put, List.getElem_toArray, List.getElem_cons_zero, List.getElem_cons_succ, List.setIfInBounds_toArray, List.set_cons_zero, List.set_cons_succ]
                refine wpAnyH_take (i := 11) (v := ((.bool false))) rfl (by kernel_rfl) (by kernel_rfl) (by kernel_rfl) (fun _ _ _ h => h) (Or.inl ⟨by kernel_rfl, by intro w' hS; go_simp⟩) hH0 ?_
                simp only [Act.put, List.getElem_toArray, List.getElem_cons_zero, List.getElem_cons_succ, List.setIfInBounds_toArray, List.set_cons_zero, List.set_cons_succ]
                refine wpAnyH_done (by kernel_rfl) ?_ _
                refine NoPanic.normal ?_
                go_wp2_with (refine wpList_load_mid rfl 28 (.tmp 21) rfl G5 0 rfl LK _ HFW.out.1 Tryd.underlying28 rfl SZK.out ?_)
                refine HFW.out.2.mono ?_
                rintro _ w7 ⟨a0, n0, c0, s7, rfl, hb7⟩
                have hb8 : Below w4.heap.size w4 ((w7.alloc (.cells #[.slice none 0 0, .int .u64 0] 32)).setRow w7.heap.size #[.slice a0 n0 c0, .int .u64 ((s7 : Nat) : Int)]) := by
                  rw [World.setRow_alloc_new]
                  exact hb7.alloc hb7.size _
                have HB8 := Lib.hid hb8
                have SZ2 := Lib.hid (show (Tryd.prog.info? 32).map (·.size) = some (#[Value.slice a0 n0 c0, .int .u64 ((s7 : Nat) : Int)] : Array Value).size by kernel_rfl)
                have ONE2 := Lib.hid (show (#[Value.slice a0 n0 c0, .int .u64 ((s7 : Nat) : Int)] : Array Value).all (·.oneCell') = true by kernel_rfl)
                clear hb7 hb8
                go_wp2_with (refine wpList_store_row rfl 32 (.tmp 22) (.tmp 235) rfl w7.heap.size #[.slice a0 n0 c0, .int .u64 ((s7 : Nat) : Int)] rfl rfl 32 #[.slice none 0 0, .int .u64 0] (heap_alloc_new w7 _) SZ2.out rfl ONE2.out ?_)
                go_roundw
                case rel => exact ⟨q + 1, by go_num, by omega, HB8.out⟩
                case measure => simp [intOf]; omega
              · obtain ⟨q', hq'⟩ : ∃ q', q = q' + 1 := ⟨q - 1, by omega⟩
                obtain ⟨z, hz9⟩ : ∃ z, ks[q']? = some z := ⟨_, List.getElem?_eq_getElem (by rw [HKA.out.len]; omega)⟩
                have hzh := HKA.out.hash z (List.mem_of_getElem? hz9)
                have hlt : lexC z y < 0 := by
                  obtain ⟨i1, e1⟩ := List.getElem?_eq_some_iff.1 hz9
                  obtain ⟨i2, e2⟩ := List.getElem?_eq_some_iff.1 EY.out
                  have := List.pairwise_iff_getElem.1 HKT.out.sorted q' q i1 i2 (by omega)
                  rwa [e1, e2] at this
                have hat2 := at_hashR kb ko n1 c1' q' (by omega)
                have hpos : (0 : Int) < (q : Int) := by omega
                have hw2 : IntKind.i64.wrap ((q : Int) - 1) = (q' : Int) := by rw [IntKind.wrap_i64]; omega
                have HW2 := Lib.hid hw2
                clear hw2
                obtain ⟨lx, hlx⟩ : ∃ j, j = lexC z y := ⟨_, rfl⟩
                have hcmp : Calls Tryd.prog 25 #[.slice (some ⟨kb, ko + q' * 32, none⟩) 32 32, .slice (some ⟨G5, 0, none⟩) 32 32] W5.drew fun e w' => e = .returned (.int .i64 lx) ∧ w' = W5.drew := by
                  have hb6 := HB5.out.trans ((Below.refl W5.heap.size W5).drew.mono HB5.out.size)
                  have r1 := rangeAt_kept (HRK.out q' z hz9) (Kept.of_below (S := fun _ => False) hb6) (fun h => h)
                  have r2 := HFW.out.1
                  rw [EL.out] at r2
                  rw [hlx]
                  exact (bytesCompare_is W5.drew kb (ko + q' * 32) 32 G5 0 32 32 32 z y hzh.1 HHY.out.1 (fun i hi => r1 i _ (bcells_get z i (by rw [hzh.1]; exact hi))) (fun i hi => r2 i _ (bcells_get y i (by rw [HHY.out.1]; exact hi))) hzh.2 HHY.out.2).mono fun e w' he => ⟨he.1, he.2.symm⟩
                have hlx0 : ¬ 0 ≤ lx := by omega
                have HCMP := Lib.hid hcmp
                clear hcmp hlx hlt hzh hz9 HK5 hq'
                refine wp_region_noPanic ?_
                refine wp_region_held_drew (S := (fun _ => True)) (by kernel_rfl) trivial (fun hH0 => ?_)
                refine wpAnyH_take (i := 0) (v := ((.int .i64 (q : Int)))) rfl (by kernel_rfl) (by kernel_rfl) (by kernel_rfl) (fun _ _ _ h => h) (Or.inl ⟨by kernel_rfl, by intro w' hS; go_simp⟩) hH0 ?_
                simp only [Act.put, List.getElem_toArray, List.getElem_cons_zero, List.getElem_cons_succ, List.setIfInBounds_toArray, List.set_cons_zero, List.set_cons_succ]
                refine wpAnyH_take (i := 1) (v := ((.bool true))) rfl (by kernel_rfl) (by kernel_rfl) (by kernel_rfl) (fun _ _ _ h => h) (Or.inl ⟨by kernel_rfl, by intro w' hS; go_simp⟩) hH0 ?_
                simp only [Act.put, List.getElem_toArray, List.getElem_cons_zero, List.getElem_cons_succ, List.setIfInBounds_toArray, List.set_cons_zero, List.set_cons_succ]
                refine wpAnyH_take (i := 2) (v := ((.bool true))) rfl (by kernel_rfl) (by kernel_rfl) (by kernel_rfl) (fun _ _ _ h => h) (Or.inl ⟨by kernel_rfl, by intro w' hS; go_simp⟩) hH0 ?_
                simp only [Act.put, List.getElem_toArray, List.getElem_cons_zero, List.getElem_cons_succ, List.setIfInBounds_toArray, List.set_cons_zero, List.set_cons_succ]
                refine wpAnyH_take (i := 3) (v := ((.slice (some ⟨kb, ko, none⟩) n1 c1'))) rfl (by kernel_rfl) (by kernel_rfl) (by kernel_rfl) (fun _ _ _ h => h) (Or.inl ⟨by kernel_rfl, by intro w' hS; go_simp⟩) hH0 ?_
                simp only [Act.put, List.getElem_toArray, List.getElem_cons_zero, List.getElem_cons_succ, List.setIfInBounds_toArray, List.set_cons_zero, List.set_cons_succ]
                refine wpAnyH_take (i := 4) (v := ((.int .i64 (q : Int)))) rfl (by kernel_rfl) (by kernel_rfl) (by kernel_rfl) (fun _ _ _ h => h) (Or.inl ⟨by kernel_rfl, by intro w' hS; go_simp⟩) hH0 ?_
                simp only [Act.put, List.getElem_toArray, List.getElem_cons_zero, List.getElem_cons_succ, List.setIfInBounds_toArray, List.set_cons_zero, List.set_cons_succ]
                refine wpAnyH_take (i := 5) (v := ((.int .i64 (q' : Int)))) rfl (by kernel_rfl) (by kernel_rfl) (by kernel_rfl) (fun _ _ _ h => h) (Or.inl ⟨by kernel_rfl, by intro w' hS; have hw2 := HW2.out; go_simp⟩) hH0 ?_
                simp only [Act.put, List.getElem_toArray, List.getElem_cons_zero, List.getElem_cons_succ, List.setIfInBounds_toArray, List.set_cons_zero, List.set_cons_succ]
                refine wpAnyH_take (i := 6) (v := ((.pointer (some ⟨kb, ko + q' * 32, none⟩)))) rfl (by kernel_rfl) (by kernel_rfl) (by kernel_rfl) (fun _ _ _ h => h) (Or.inl ⟨by kernel_rfl, by intro w' hS; go_simp⟩) hH0 ?_
                simp only [Act.put, List.getElem_toArray, List.getElem_cons_zero, List.getElem_cons_succ, List.setIfInBounds_toArray, List.set_cons_zero, List.set_cons_succ]
                refine wpAnyH_take (i := 7) (v := ((.slice (some ⟨kb, ko + q' * 32, none⟩) 32 32))) rfl (by kernel_rfl) (by kernel_rfl) (by kernel_rfl) (fun _ _ _ h => h) (Or.inl ⟨by kernel_rfl, by intro w' hS; go_simp⟩) hH0 ?_
                simp only [Act.put, List.getElem_toArray, List.getElem_cons_zero, List.getElem_cons_succ, List.setIfInBounds_toArray, List.set_cons_zero, List.set_cons_succ]
                refine wpAnyH_take (i := 8) (v := ((.slice (some ⟨G5, 0, none⟩) 32 32))) rfl (by kernel_rfl) (by kernel_rfl) (by kernel_rfl) (fun _ _ _ h => h) (Or.inl ⟨by kernel_rfl, by intro w' hS; go_simp⟩) hH0 ?_
                simp only [Act.put, List.getElem_toArray, List.getElem_cons_zero, List.getElem_cons_succ, List.setIfInBounds_toArray, List.set_cons_zero, List.set_cons_succ]
                refine wpAnyH_ready (rs := [9]) (by kernel_rfl) (by simp) ?_
                refine AllReadyH.cons rfl (fun K hK => ?_) AllReadyH.nil
                go_simp
                refine HCMP.out.mono ?_
                rintro _ x1 ⟨rfl, hx1⟩
                subst hx1
                refine Shut.out hK _ _ trivial (fun hH1 => ?_)
                clear hK K
                try simp only [Act.put, List.getElem_toArray, List.getElem_cons_zero, List.getElem_cons_succ, List.setIfInBounds_toArray, List.set_cons_zero, List.set_cons_succ]
                refine wpAnyH_take (i := 10) (v := ((.bool false))) rfl (by kernel_rfl) (by kernel_rfl) (by kernel_rfl) (fun _ _ _ h => h) (Or.inl ⟨by kernel_rfl, by intro w' hS; go_simp⟩) hH1 ?_
                simp only [Act.put, List.getElem_toArray, List.getElem_cons_zero, List.getElem_cons_succ, List.setIfInBounds_toArray, List.set_cons_zero, List.set_cons_succ]
                refine wpAnyH_take (i := 11) (v := ((.bool false))) rfl (by kernel_rfl) (by kernel_rfl) (by kernel_rfl) (fun _ _ _ h => h) (Or.inl ⟨by kernel_rfl, by intro w' hS; go_simp⟩) hH1 ?_
                simp only [Act.put, List.getElem_toArray, List.getElem_cons_zero, List.getElem_cons_succ, List.setIfInBounds_toArray, List.set_cons_zero, List.set_cons_succ]
                refine wpAnyH_done (by kernel_rfl) ?_ _
                refine NoPanic.normal ?_
                go_wp2_with (refine wpList_load_mid rfl 28 (.tmp 21) rfl G5 0 rfl LK _ HFW.out.1 Tryd.underlying28 rfl SZK.out ?_)
                refine HFW.out.2.mono ?_
                rintro _ w7 ⟨a0, n0, c0, s7, rfl, hb7⟩
                have hb8 : Below w4.heap.size w4 ((w7.alloc (.cells #[.slice none 0 0, .int .u64 0] 32)).setRow w7.heap.size #[.slice a0 n0 c0, .int .u64 ((s7 : Nat) : Int)]) := by
                  rw [World.setRow_alloc_new]
                  exact hb7.alloc hb7.size _
                have HB8 := Lib.hid hb8
                have SZ2 := Lib.hid (show (Tryd.prog.info? 32).map (·.size) = some (#[Value.slice a0 n0 c0, .int .u64 ((s7 : Nat) : Int)] : Array Value).size by kernel_rfl)
                have ONE2 := Lib.hid (show (#[Value.slice a0 n0 c0, .int .u64 ((s7 : Nat) : Int)] : Array Value).all (·.oneCell') = true by kernel_rfl)
                clear hb7 hb8
                go_wp2_with (refine wpList_store_row rfl 32 (.tmp 22) (.tmp 235) rfl w7.heap.size #[.slice a0 n0 c0, .int .u64 ((s7 : Nat) : Int)] rfl rfl 32 #[.slice none 0 0, .int .u64 0] (heap_alloc_new w7 _) SZ2.out rfl ONE2.out ?_)
                go_roundw
                case rel => exact ⟨q + 1, by go_num, by omega, HB8.out⟩
                case measure => simp [intOf]; omega
          · obtain rfl : q = n1 := by omega
            have HFB := Lib.hid (H4.out.bel.trans (HBY.out.mono H4.out.bel.size))
            go_wp2
            go_ret
            exact ⟨rfl, HFB.out⟩
end Go.Proofs.YtngmpcmeebcdmaaDoor
