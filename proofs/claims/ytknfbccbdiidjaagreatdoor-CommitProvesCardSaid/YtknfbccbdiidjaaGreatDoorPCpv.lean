/- The walk of CommitProves. -/
import Derived.Test.YtknfbccbdiidjaaGreatDoorWu
import Derived.Test.YtknfbccbdiidjaaGreatDoorPCpp
namespace Go.Proofs.YtknfbccbdiidjaaGreatDoor
set_option linter.unusedVariables false
set_option linter.unusedSimpArgs false
open Go.ChangeShapes Go.WideShapes Go.ChangeAt Go.RowKit Go.Maps

set_option maxRecDepth 100000 in
set_option maxHeartbeats 16000000 in
theorem commitProves_walk (w : World) (hT : Tabs KS SS w) (A : Option Addr) (n c : Nat) (ls : List LeafT) (hls : RowsAt LeafT.cells 99 w A n ls) (hok : ∀ l ∈ ls, l.ok) (hnm : n ≤ 9223372036854775807) (wh : Int) (hw1 : -9223372036854775808 ≤ wh) (hw2 : wh ≤ 9223372036854775807) (mo : Nat) (hmo : mo < 18446744073709551616) :
   Calls Tryz.prog 8 #[.slice A n c, .int .i64 wh, .int .u64 (mo : Int)] w fun e w' => e = .returned (.bool true) ∧ Below w.heap.size w w' := by
 obtain ⟨zl, hzl, -, D2, hzln, hzle'⟩ := zero_leafT
 clear hzle'
 obtain ⟨zw, hzw, E9, D4, hzwn⟩ := zero_ways
 clear E9
 obtain ⟨zn, hzn, D3, hznn⟩ := zero_nodeA
 have Gf := Hh D2
 have Ey := Hh D4
 have G2 := Hh D3
 have Gx := Hh hls
 have Fz := Hh hok
 have Ek := Hh hls.len
 have Em := Hh hmo
 have Gb := Hh (And.intro hw1 hw2)
 have Dd := Hh (show ∀ v, Below w.heap.size w v → Tabs KS SS v from fun v hv => hT.below hv hT.low)
 have Fs := Hh (headC_is w hT)
 clear hT hls hok D2 D4 D3 hw1 hw2 hmo
 go_enter Tryz.func8, Tryz.ntmps8
 go_wp2_with fail
 refine Fs.o.mono ?_
 rintro _ W1 ⟨rfl, hb1⟩
 have As := Hh hb1
 clear hb1 Fs
 by_cases h8 : n ≤ 8
 · have h8' : ¬ (8 : Int) < (n : Int) := by omega
   go_wp2_with fail
   refine (coNew_is KS SS (fun k => W1.heap.size ≤ k) W1 (fun k h => h)).mono ?_
   rintro _ W2 ⟨g, rfl, Dn, hb2, hga⟩
   have Aj := Hh (show Cz W1.heap.size W2 g (addAll KS SS (ls.take 0)) (fun k => W1.heap.size ≤ k ∧ k < W2.heap.size) ∧ Below W1.heap.size W1 W2 from ⟨⟨Dn.zoneS (fun k h1 h2 => ⟨h2, h1⟩), fun k h => h⟩, hb2⟩)
   clear Dn hb2 hga h8'
   go_wp2_with fail
   go_loopw [8, 34] (fun nv iv wr => ∃ (k m : Nat) (S : Nat → Prop), iv = .int .i64 (k : Int) ∧ nv = .int .i64 (m : Int) ∧ m = (addAll KS SS (ls.take k)).length ∧ k ≤ n ∧ Cz W1.heap.size wr g (addAll KS SS (ls.take k)) S ∧ Below W1.heap.size W1 wr) (fun _ iv _ => n - (intOf iv).toNat)
   case atStart => exact ⟨0, 0, _, rfl, rfl, rfl, Nat.zero_le _, Aj.o⟩
   case round =>
    clear Aj
    obtain ⟨k, m, S, rfl, rfl, hm, hk, hcz, hbw⟩ := hrel
    have hm8 : m ≤ 8 := by
      have := addAll_len (K := KS) (s0 := SS) (ls.take k)
      rw [List.length_take] at this
      omega
    by_cases hlt : k < n
    · have hlt' : (k : Int) < (n : Int) := by omega
      obtain ⟨sb, so, hA, hsb, hrr⟩ := Gx.o.at_ (by omega)
      subst hA
      obtain ⟨l, hl⟩ : ∃ l, ls[k]? = some l := ⟨_, List.getElem?_eq_getElem (by rw [Ek.o]; exact hlt)⟩
      have Ai := Fz.o l (List.mem_of_getElem? hl)
      obtain ⟨LC, hLC⟩ : ∃ L, L = l.cells := ⟨_, rfl⟩
      have hrw := rangeAt_kept (hrr k l hl) (Kept.of_below (S := fun _ => False) (As.o.trans (hbw.mono As.o.size))) (fun e => e)
      rw [← hLC] at hrw
      have hat := at_leaf sb so n c k hlt
      have B9 := Hh (show (Tryz.prog.info? 32).map (·.size) = some LC.length by rw [hLC, LeafT.len Ai]; kernel_rfl)
      have An := Hh (show (Tryz.prog.info? 32).map (·.size) = some LC.toArray.size by rw [List.size_toArray, hLC, LeafT.len Ai]; kernel_rfl)
      have Ea := Hh (show zl.size = LC.toArray.size by rw [Gf.o, List.size_toArray, hLC, LeafT.len Ai])
      have Bp := Hh (show LC.toArray.all (·.oneCell') = true by rw [hLC]; exact LeafT.one l)
      have Fy := Hh (show ∀ C, Has ((wr.alloc (.cells zl 32)).setRow wr.heap.size C) wr.heap.size 32 C ∧ Below wr.heap.size wr ((wr.alloc (.cells zl 32)).setRow wr.heap.size C) from fun C => by
        rw [World.setRow_alloc_new]
        exact ⟨Has.new wr _ _, (Below.refl _ _).alloc (Nat.le_refl _) _⟩)
      have Db := Hh hrw
      have C4 := Hh hcz
      have B3 := Hh hbw
      have HL := Hh Ai
      have Bb := Hh hLC
      have El := Hh hl
      have D6 := Hh hlt
      have EM := Hh hm
      clear hrw hcz hbw Ai hLC hl hlt hsb hrr hm
      go_upto_region 10 with (first
        | (refine wpList_load_mid rfl 32 (.tmp 36) rfl sb (so + k * 99) rfl LC _ Db.o Tryz.underlying32 rfl B9.o ?_)
        | (refine wpList_store_row rfl 32 (.tmp 10) (.tmp 37) rfl wr.heap.size LC.toArray rfl rfl 32 zl (heap_alloc_new wr _) An.o Ea.o Bp.o ?_))
      obtain ⟨h6, hb6⟩ := Fy.o LC.toArray
      have Bq := C4.o.below hb6
      have Bh := B3.o.trans (hb6.mono B3.o.size)
      clear hb6 Fy Db hat B3 C4
      generalize (wr.alloc (.cells zl 32)).setRow wr.heap.size LC.toArray = W6 at h6 Bq Bh ⊢
      generalize wr.heap.size = G6 at h6 ⊢
      have Cb := cz_add Bq (Dd.o W6 (As.o.trans (Bh.mono As.o.size))) Bh.size l HL.o
      obtain ⟨x, hx⟩ : ∃ x, x = addE KS SS (addAll KS SS (ls.take k)) l := ⟨_, rfl⟩
      rw [← Bb.o, ← hx] at Cb
      have EX := Hh hx
      have Ct := Hh Cb
      have H6 := Hh h6
      have C1 := Hh Bh
      have G1 := Hh (fun k e => (Bq.2 k e).1)
      clear Cb h6 Bq Bh hx
      go_wp2_with (refine wpList_load_row rfl 32 (.tmp 10) rfl G6 rfl 32 LC.toArray (0, 0) _ H6.o Tryz.underlying32 rfl An.o ?_)
      refine Ct.o.mono ?_
      rintro _ W7 ⟨rfl, Dp, hk7⟩
      have Da := Hh (show Cz W1.heap.size W7 g (addAll KS SS (ls.take (k + 1))) _ ∧ Below W1.heap.size W1 W7 from ⟨by rw [addAll_take El.o]; exact Dp, C1.o.trans (hk7.below C1.o.size (fun j e => G1.o j e))⟩)
      clear Dp hk7 Ct
      by_cases hx0 : x = 0
      · have HX := Hh (show m + 1 = (addAll KS SS (ls.take (k + 1))).length by
          rw [addAll_take El.o]
          unfold addC
          rw [if_pos (by rw [← EX.o]; exact hx0), List.length_append, ← EM.o]
          rfl)
        subst hx0
        go_wp2_with fail
        go_roundw
        case rel => exact ⟨k + 1, m + 1, _, by go_num, by go_num, HX.o, D6.o, Da.o⟩
        case measure => have := D6.o; simp [intOf]; omega
      · have HX := Hh (show m = (addAll KS SS (ls.take (k + 1))).length by
          rw [addAll_take El.o]
          unfold addC
          rw [if_neg (by rw [← EX.o]; exact hx0), ← EM.o])
        go_wp2_with fail
        go_roundw
        case rel => exact ⟨k + 1, m, _, by go_num, rfl, HX.o, D6.o, Da.o⟩
        case measure => have := D6.o; simp [intOf]; omega
    · obtain rfl : k = n := by omega
      have Bi : Fine KS SS (addAll KS SS (ls.take k)) := addAll_fine _ (fun l hl => Fz.o l (List.mem_of_mem_take hl))
      obtain ⟨cs, hcs⟩ : ∃ cs, cs = addAll KS SS (ls.take k) := ⟨_, rfl⟩
      rw [← hcs] at hcz Bi hm
      clear hcs
      have Cl := Hh (show 2 + 1 ≤ W1.heap.size from (Dd.o W1 As.o).low)
      have hlv := cz_leaves hcz
      rw [← hm] at hlv
      have Fv := Hh hlv
      have Cj := Hh Bi
      have EM := Hh hm
      have B3 := Hh hbw
      have C4 := Hh hcz
      clear hlv Bi hm hbw hcz hk
      go_wp2_with fail
      refine Fv.o.mono ?_
      rintro _ V1 ⟨a1, c1, srt, rfl, A4, -, Dy, hb1⟩
      have Fu := Hh (show srt.length = m by rw [A4.length_eq, ← EM.o])
      obtain ⟨D1, -⟩ := own_rows Dy Fu.o (len_cells (fun l hl => Cj.o.ok l (A4.mem_iff.1 hl)))
      have Eq := Hh D1
      have Gz := Hh A4
      have Bl := Hh (B3.o.trans (hb1.mono B3.o.size))
      have Bm := Hh (C4.o.below hb1)
      have h50 : ((m : Int) != (m : Int)) = false := by simp
      clear Dy D1 A4 hb1 Fv B3 C4
      by_cases hm0 : m = 0
      · subst hm0
        go_wp2_with fail
        go_ret
        exact ⟨rfl, As.o.trans (Bl.o.mono As.o.size)⟩
      have hm0' : ((m : Int) == 0) = false := by rw [beq_eq_false_iff_ne]; omega
      obtain ⟨q, hq⟩ : ∃ q : Nat, wh % 1024 = (q : Int) := ⟨(wh % 1024).toNat, by omega⟩
      obtain ⟨i, hi⟩ : ∃ i, i = q % m := ⟨_, rfl⟩
      have Du : i < m := by rw [hi]; exact Nat.mod_lt _ (by omega)
      have E7 : bits BinOp.and .i64 wh 1023 = (q : Int) := by rw [and_1023C wh Gb.o.1 Gb.o.2, hq]
      have E8 : Int.tmod (q : Int) (m : Int) = (i : Int) := by
        rw [hi, Int.natCast_emod]
        exact Int.tmod_eq_emod_of_nonneg (by omega)
      obtain ⟨sb, so, hA, hsb, hrr⟩ := Eq.o.at_ (by omega)
      subst hA
      obtain ⟨l, hl⟩ : ∃ l, srt[i]? = some l := ⟨_, List.getElem?_eq_getElem (by rw [Fu.o]; exact Du)⟩
      have B7 := Hh (show l ∈ cs from Gz.o.mem_iff.1 (List.mem_of_getElem? hl))
      have Ai := Cj.o.ok l B7.o
      obtain ⟨LC, hLC⟩ : ∃ L, L = l.cells := ⟨_, rfl⟩
      have hrw := hrr i l hl
      rw [← hLC] at hrw
      have hat := at_leaf sb so m c1 i Du
      have B9 := Hh (show (Tryz.prog.info? 32).map (·.size) = some LC.length by rw [hLC, LeafT.len Ai]; kernel_rfl)
      have An := Hh (show (Tryz.prog.info? 32).map (·.size) = some LC.toArray.size by rw [List.size_toArray, hLC, LeafT.len Ai]; kernel_rfl)
      have Ea := Hh (show zl.size = LC.toArray.size by rw [Gf.o, List.size_toArray, hLC, LeafT.len Ai])
      have Bp := Hh (show LC.toArray.all (·.oneCell') = true by rw [hLC]; exact LeafT.one l)
      have Db := Hh hrw
      have HL := Hh Ai
      have Bb := Hh hLC
      obtain ⟨h12, hb2⟩ := new_row V1 32 zl LC.toArray
      have Fe := Hh h12
      have Cv := Hh hb2
      clear hrw Ai hLC hl hsb hrr hq hi h12 hb2
      go_upto_region 19 with (first
        | (refine wpList_load_mid rfl 32 (.tmp 58) rfl sb (so + i * 99) rfl LC _ Db.o Tryz.underlying32 rfl B9.o ?_)
        | (refine wpList_store_row rfl 32 (.tmp 12) (.tmp 59) rfl V1.heap.size LC.toArray rfl rfl 32 zl (heap_alloc_new V1 _) An.o Ea.o Bp.o ?_))
      clear hat E7 E8 hm0 hm0' h50
      obtain ⟨V2, hV2⟩ : ∃ V, V = (V1.alloc (.cells zl 32)).setRow V1.heap.size LC.toArray := ⟨_, rfl⟩
      obtain ⟨Ar, hG12⟩ : ∃ y, y = V1.heap.size := ⟨_, rfl⟩
      have h12 := Fe.o
      have hb2 := Cv.o
      rw [← hV2, ← hG12] at h12
      rw [← hV2] at hb2 ⊢
      rw [← hG12]
      have A8 := Hh (show ∀ j, S j → j < Ar from fun j e => by have := (Bm.o.2 j e).2; omega)
      have D8 := Hh (show ∀ j, S j → W1.heap.size ≤ j from fun j e => (Bm.o.2 j e).1)
      have HG := Hh (show Ar < V2.heap.size from h12.lt)
      have B0 := Hh (Bl.o.trans (hb2.mono Bl.o.size))
      have C5 := Hh (Bm.o.below hb2)
      have B6 := Hh h12
      clear hV2 hG12 h12 hb2 Fe Cv Bm Bl Db
      have A1 := cz_prove C5.o (Dd.o V2 (As.o.trans (B0.o.mono As.o.size))) Cl.o l HL.o
      rw [if_pos B7.o, ← Bb.o] at A1
      have Bf := Hh A1
      clear A1
      go_wp2_with (refine wpList_load_row rfl 32 (.tmp 12) rfl Ar rfl 32 LC.toArray (0, 0) _ B6.o Tryz.underlying32 rfl An.o ?_)
      refine Bf.o.mono ?_
      rintro _ V3 ⟨p, q, rfl, hpa, hqa, Do, hk3, hof⟩
      obtain ⟨T, hop, htp, hoq⟩ := hof B7.o
      obtain ⟨LW, hLW⟩ : ∃ L, L = waysC p q := ⟨_, rfl⟩
      rw [← hLW]
      have Ez := Hh (show LW.length = 66 by rw [hLW]; exact waysC_len hpa.hash hqa.hash)
      obtain ⟨h13, hb4⟩ := new_row V3 41 zw LW.toArray
      have Gi := Hh (show (Tryz.prog.info? 41).map (·.size) = some LW.toArray.size by rw [List.size_toArray, Ez.o]; kernel_rfl)
      have Dk := Hh (show (Tryz.prog.info? 41).map (·.size) = some LW.length by rw [Ez.o]; kernel_rfl)
      have G5 := Hh (show zw.size = LW.toArray.size by rw [Ey.o, List.size_toArray, Ez.o])
      have E1 := Hh (show LW.toArray.all (·.oneCell') = true by rw [hLW]; exact waysC_one _ _)
      have D5 := Hh hLW
      have F0 := Hh hop
      have F1 := Hh hoq
      have F9 := Hh htp
      have Ej := Hh hk3
      have Fj := Hh Do
      have Ei := Hh (B6.o.kept hk3 (fun e => by have := A8.o _ e; omega))
      have B1 := Hh (B0.o.trans (hk3.below B0.o.size (fun j e => D8.o j e)))
      have Ff := Hh h13
      have Cw := Hh hb4
      clear hpa hqa hof hop hoq htp hk3 Do hLW h13 hb4 Bf C5 B6
      go_upto_region 20 with (refine wpList_store_row rfl 41 (.tmp 13) (.tmp 64) rfl V3.heap.size LW.toArray rfl rfl 41 zw (heap_alloc_new V3 _) Gi.o G5.o E1.o ?_)
      obtain ⟨V4, hV4⟩ : ∃ V, V = (V3.alloc (.cells zw 41)).setRow V3.heap.size LW.toArray := ⟨_, rfl⟩
      obtain ⟨Bc, hG13⟩ : ∃ y, y = V3.heap.size := ⟨_, rfl⟩
      have h13 := Ff.o
      have hb4 := Cw.o
      rw [← hV4, ← hG13] at h13
      rw [← hV4] at hb4 ⊢
      rw [← hG13]
      -- all that lies still: the boxes, the proof, the tables
      have C7 := Hh (show Ar < Bc from by have := Ej.o.size; have := HG.o; omega)
      have Dw := F0.o.below hb4
      have Dx := F1.o.below hb4
      have B2 := Hh (B1.o.trans (hb4.mono B1.o.size))
      have hh4 := Ei.o.below hb4 Ei.o.lt
      have Fk := Hh (Fj.o.below hb4)
      have Aj := Hh (show ∀ v, Kept S V4 v → Has v Ar 32 LC.toArray ∧ Has v Bc 41 LW.toArray ∧ Tabs KS SS v ∧ p.Of KS SS (lowT KS SS cs l.id) (keyK KS SS l) V2.heap.size v ∧ q.Of KS SS T l.id V2.heap.size v ∧ Below W1.heap.size W1 v from fun v hv => by
        have a1 := HG.o
        have a2 := C7.o
        exact ⟨hh4.kept hv (fun e => by have := A8.o _ e; omega), h13.kept hv (fun e => by have := A8.o _ e; omega), (Dd.o V4 (As.o.trans (B2.o.mono As.o.size))).kept hv (fun j e => Nat.le_trans Cl.o (D8.o j e)), Dw.kept hv (fun j e => by have := A8.o _ e; omega), Dx.kept hv (fun j e => by have := A8.o _ e; omega), B2.o.trans (hv.below B2.o.size (fun j e => D8.o j e))⟩)
      have Es := Hh (show V2.heap.size ≤ V4.heap.size from Nat.le_trans Ej.o.size hb4.size)
      clear hV4 hG13 h13 hb4 Dw Dx hh4 F0 F1 Ei Fj Ej Ff Cw B1
      obtain ⟨AN, hAN⟩ : ∃ y, y = anchorOf KS SS cs := ⟨_, rfl⟩
      obtain ⟨LAN, hLAN⟩ : ∃ y, y = bcells AN := ⟨_, rfl⟩
      have hANh : IsHash AN := by rw [hAN]; exact anchor_hash cs
      have Bz := Hh hANh
      have Eb := Hh hAN
      have A5 := Hh hLAN
      have h0 := Aj.o V4 (Kept.refl _ _)
      have Gw := Hh (show leadR KS SS p q l = .ok AN by rw [hAN]; exact lead_made ss_len Cj.o B7.o F9.o h0.2.2.2.1 h0.2.2.2.2.1)
      have C3 := Hh (show chkR (leadR KS SS p q l) AN = 0 by rw [Gw.o]; exact if_pos rfl)
      have C9 := Hh (show lowR KS SS p l = .ok (partNd KS SS 256 (lowT KS SS cs l.id)) from low_root ss_len Cj.o B7.o h0.2.2.2.1)
      have D7 := Hh (And.intro (of_dec h0.2.2.2.1) (of_dec h0.2.2.2.2.1))
      have G0 := Hh (wdec_ways h0.2.2.2.1 h0.2.2.2.2.1)
      have F5 := Hh (And.intro (of_len h0.2.2.2.1).2 (of_len h0.2.2.2.2.1).2)
      have Gu := Hh (enc_ways p q (of_bytes h0.2.2.2.1) (of_bytes h0.2.2.2.2.1))
      have Gr := Hh (waysB_lt (p := p) (q := q) (pbytes_lt h0.2.2.2.1.at_.hash _ h0.2.2.2.1.at_.nodes.hash) (pbytes_lt h0.2.2.2.2.1.at_.hash _ h0.2.2.2.2.1.at_.nodes.hash))
      have Gp := Hh (waysB_few (p := p) (q := q) (of_bytes h0.2.2.2.1) (of_bytes h0.2.2.2.2.1))
      have hcc := Fk.o.below (Below.refl V4.heap.size V4).drew
      have hS0 : Kept S V4 V4.drew := (Kept.refl _ _).drew
      clear hAN hLAN hANh h0 Fk F9
      go_upto_region 20 with (fail)
      refine wp_region_noPanic ?_
      refine wp_region_held_drew (S := (fun v => Kept S V4 v)) (by kernel_rfl) hS0 (fun hH0 => ?_)
      apply tl 0 rfl ?hv hH0 ?_
      case hv => intro w' hS; go_simp; try rfl
      simp only [qc]
      apply tl 1 rfl ?hv hH0 ?_
      case hv => intro w' hS; go_simp; try rfl
      simp only [qc]
      apply tl 2 rfl ?hv hH0 ?_
      case hv => intro w' hS; go_simp; try rfl
      simp only [qc]
      refine tk 3 (v := (.agg LW.toArray)) rfl (yieldsIf_load_mid (by kernel_rfl) 41 (.tmp 13) rfl Bc 0 rfl LW _ (fun w' h => (Aj.o _ h).2.1.row0) Tryz.underlying41 rfl Dk.o) hH0 ?_
      simp only [qc]
      apply tl 4 rfl ?hv hH0 ?_
      case hv => intro w' hS; go_simp; try rfl
      simp only [qc]
      refine tk 6 (v := (.agg LC.toArray)) rfl (yieldsIf_load_mid (by kernel_rfl) 32 (.tmp 12) rfl Ar 0 rfl LC _ (fun w' h => (Aj.o _ h).1.row0) Tryz.underlying32 rfl B9.o) hH0 ?_
      simp only [qc]
      refine rdy [5] (ar1 rfl fun KK hKK => ?_)
      go_simp
      have han := cz_anchor hcc (Aj.o _ hH0).2.2.1 Cl.o
      rw [← Eb.o] at han
      unfold arr at han
      rw [← A5.o] at han
      refine han.mono ?_
      rintro _ xa ⟨rfl, hcl, hkl⟩
      have Ad : Kept S V4 xa := Kept.trans hH0 hkl
      replace hcc := hcl
      clear han hcl hkl
      refine hKK _ _ Ad fun hH1 => ?_
      clear hKK KK
      try simp only [qc]
      refine rdy [7] (ar1 rfl fun KK hKK => ?_)
      go_simp
      have hck := coCheck_is KS SS xa (Aj.o _ hH1).2.2.1 p q (Aj.o _ hH1).2.2.2.1.at_ (Aj.o _ hH1).2.2.2.2.1.at_ AN Bz.o l HL.o
      rw [← D5.o, ← Bb.o, C3.o] at hck
      unfold arr at hck
      rw [← A5.o] at hck
      refine hck.mono ?_
      rintro _ xc ⟨rfl, hb⟩
      have A2 : Kept S V4 xc := Kept.trans hH1 (Kept.of_below hb)
      replace hcc := hcc.below hb
      clear hck hb
      refine hKK _ _ A2 fun hH2 => ?_
      clear hKK KK
      try simp only [qc]
      apply tl 8 rfl ?hv hH2 ?_
      case hv => intro w' hS; go_simp; try rfl
      simp only [qc]
      apply tl 9 rfl ?hv hH2 ?_
      case hv => intro w' hS; go_simp; try rfl
      simp only [qc]
      refine wpAnyH_done (by kernel_rfl) ?_ _
      refine NoPanic.normal ?_
      have Et := Hh A2
      have Fl := Hh hcc
      clear hS0 Ad A2 hcc
      obtain ⟨BS, hBS⟩ : ∃ y, y = waysB (pbytes p.b p.xs) (pbytes q.b q.xs) := ⟨_, rfl⟩
      have h5 := Aj.o xc Et.o
      have Eg := Hh (coEnc_is xc p q h5.2.2.2.1.at_ h5.2.2.2.2.1.at_ (Nat.le_trans F5.o.1 (by decide)) (Nat.le_trans F5.o.2 (by decide)) BS (by rw [hBS]; exact Gu.o))
      rw [← D5.o] at Eg
      have Ga := Hh h5.2.1
      have Ec := Hh hBS
      clear h5 hBS
      go_wp2_with (refine wpList_load_row rfl 41 (.tmp 13) rfl Bc rfl 41 LW.toArray (0, 0) _ Ga.o Tryz.underlying41 rfl Gi.o ?_)
      refine Eg.o.mono ?_
      intro e6 V6 hmm
      obtain ⟨v6, rfl, ⟨sa, sc, rfl, ho6⟩, hb6⟩ := (show ∃ v', e6 = .returned (.tuple #[v', .int .i64 0]) ∧ BigW _ _ BS v' V6 from hmm)
      obtain ⟨KB, hKB⟩ : ∃ y, y = BS.length := ⟨_, rfl⟩
      rw [← hKB] at ho6 ⊢
      have Fr := Hh (coDec_is V6 sa KB sc BS (own_bytes ho6 hKB.symm (by rw [Ec.o]; exact Gr.o) (Nat.le_refl _)) (by rw [hKB, Ec.o]; exact Nat.le_trans Gp.o (by decide)))
      have Eu := Hh (show Kept S V4 V6 from Et.o.trans (Kept.of_below hb6))
      have Fm := Hh (Fl.o.below hb6)
      clear hmm ho6 hb6 hKB Fl Ga Eg
      go_wp2_with fail
      refine Fr.o.mono ?_
      intro e7 V7 hmm
      have hwd := G0.o
      rw [← Ec.o] at hwd
      obtain ⟨p2, q2, he7, hpa, hqa, hb7, Bt⟩ := hmm.all
      rw [hwd] at Bt he7
      obtain ⟨_, hR, -⟩ | ⟨u, v, hR, hpb, hpx, hqb, hqx, hpn, hqn⟩ := Bt
      · cases hR
      injection hR with hR
      injection hR with hu hv
      subst hu hv
      rw [D7.o.1.2.1] at hpb
      rw [D7.o.1.2.2] at hpx
      rw [D7.o.2.2.1] at hqb
      rw [D7.o.2.2.2] at hqx
      have Gv := Hh (show chkR (leadR KS SS p2 q2 l) AN = 0 by rw [lead_same hpb hpx hqb hqx]; exact C3.o)
      obtain ⟨LX, hLX⟩ : ∃ L, L = waysC p2 q2 := ⟨_, rfl⟩
      rw [← hLX] at he7
      replace he7 : e7 = .returned (.tuple #[.agg LX.toArray, .int .i64 0]) := he7
      subst he7
      have E0 := Hh (show LX.length = 66 by rw [hLX]; exact waysC_len hpa.hash hqa.hash)
      obtain ⟨h17, hb8⟩ := new_row V7 41 zw LX.toArray
      have G3 := Hh (show (Tryz.prog.info? 41).map (·.size) = some LX.toArray.size by rw [List.size_toArray, E0.o]; kernel_rfl)
      have E6 := Hh (show (Tryz.prog.info? 41).map (·.size) = some LX.length by rw [E0.o]; kernel_rfl)
      have G7 := Hh (show zw.size = LX.toArray.size by rw [Ey.o, List.size_toArray, E0.o])
      have E2 := Hh (show LX.toArray.all (·.oneCell') = true by rw [hLX]; exact waysC_one _ _)
      have Gk := Hh hLX
      have Ge := Hh (show Kept S V4 V7 from Eu.o.trans (Kept.of_below hb7))
      have Fn := Hh (Fm.o.below hb7)
      have F2 := Hh hpa
      have F6 := Hh hqa
      have F4 := Hh (And.intro hpn hqn)
      have Fg := Hh h17
      have Cx := Hh hb8
      have Er := Hh hb7.size
      clear hmm hwd hpb hpx hqb hqx hpa hqa hb7 hpn hqn hLX h17 hb8 Fm Fr
      go_upto_region 24 with (refine wpList_store_row rfl 41 (.tmp 17) (.tmp 84) rfl V7.heap.size LX.toArray rfl rfl 41 zw (heap_alloc_new V7 _) G3.o G7.o E2.o ?_)
      obtain ⟨V8, hV8⟩ : ∃ V, V = (V7.alloc (.cells zw 41)).setRow V7.heap.size LX.toArray := ⟨_, rfl⟩
      obtain ⟨Fd, hG17⟩ : ∃ y, y = V7.heap.size := ⟨_, rfl⟩
      have h17 := Fg.o
      have hb8 := Cx.o
      rw [← hV8, ← hG17] at h17
      rw [← hV8] at hb8 ⊢
      rw [← hG17]
      have Ev := Hh (show Kept S V4 V8 from Ge.o.trans (Kept.of_below hb8))
      have Dz := F2.o.below hb8
      have D0 := F6.o.below hb8
      have hcc := (Fn.o.below hb8).below (Below.refl V8.heap.size V8).drew
      have Aw := Hh (show ∀ v, Kept S V8 v → Kept S V4 v ∧ Has v Fd 41 LX.toArray ∧ p2.At v ∧ q2.At v from fun v hv => by
        have a1 := HG.o
        have a2 := Es.o
        have a3 := Eu.o.size
        have a4 := Er.o
        exact ⟨Ev.o.trans hv, h17.kept hv (fun e => by have := A8.o _ e; omega), Dz.keptN hv (fun _ A e1 e2 => by have := A8.o _ e2; have := F4.o.1 A e1; omega), D0.keptN hv (fun _ A e1 e2 => by have := A8.o _ e2; have := F4.o.2 A e1; omega)⟩)
      have hS0 : Kept S V8 V8.drew := (Kept.refl _ _).drew
      clear hV8 hG17 h17 hb8 Dz D0 Ge Fn F2 F6 Fg Cx Eu
      refine wp_region_noPanic ?_
      refine wp_region_held_drew (S := (fun v => Kept S V8 v)) (by kernel_rfl) hS0 (fun hH0 => ?_)
      apply tl 0 rfl ?hv hH0 ?_
      case hv => intro w' hS; go_simp; try rfl
      simp only [qc]
      apply tl 1 rfl ?hv hH0 ?_
      case hv => intro w' hS; go_simp; try rfl
      simp only [qc]
      apply tl 2 rfl ?hv hH0 ?_
      case hv => intro w' hS; go_simp; try rfl
      simp only [qc]
      apply tl 3 rfl ?hv hH0 ?_
      case hv => intro w' hS; go_simp; try rfl
      simp only [qc]
      apply tl 4 rfl ?hv hH0 ?_
      case hv => intro w' hS; go_simp; try rfl
      simp only [qc]
      apply tl 5 rfl ?hv hH0 ?_
      case hv => intro w' hS; go_simp; try rfl
      simp only [qc]
      apply tl 6 rfl ?hv hH0 ?_
      case hv => intro w' hS; go_simp; try rfl
      simp only [qc]
      refine tk 7 (v := (.agg LX.toArray)) rfl (yieldsIf_load_mid (by kernel_rfl) 41 (.tmp 17) rfl Fd 0 rfl LX _ (fun w' h => (Aw.o _ h).2.1.row0) Tryz.underlying41 rfl E6.o) hH0 ?_
      simp only [qc]
      apply tl 8 rfl ?hv hH0 ?_
      case hv => intro w' hS; go_simp; try rfl
      simp only [qc]
      refine tk 10 (v := (.agg LC.toArray)) rfl (yieldsIf_load_mid (by kernel_rfl) 32 (.tmp 12) rfl Ar 0 rfl LC _ (fun w' h => (Aj.o _ (Aw.o _ h).1).1.row0) Tryz.underlying32 rfl B9.o) hH0 ?_
      simp only [qc]
      refine rdy [9] (ar1 rfl fun KK hKK => ?_)
      go_simp
      have han := cz_anchor hcc (Aj.o _ (Aw.o _ hH0).1).2.2.1 Cl.o
      rw [← Eb.o] at han
      unfold arr at han
      rw [← A5.o] at han
      refine han.mono ?_
      rintro _ xa ⟨rfl, hcl, hkl⟩
      have Ad : Kept S V8 xa := Kept.trans hH0 hkl
      replace hcc := hcl
      clear han hcl hkl
      refine hKK _ _ Ad fun hH1 => ?_
      clear hKK KK
      try simp only [qc]
      refine rdy [11] (ar1 rfl fun KK hKK => ?_)
      go_simp
      have hck := coCheck_is KS SS xa (Aj.o _ (Aw.o _ hH1).1).2.2.1 p2 q2 (Aw.o _ hH1).2.2.1 (Aw.o _ hH1).2.2.2 AN Bz.o l HL.o
      rw [← Gk.o, ← Bb.o, Gv.o] at hck
      unfold arr at hck
      rw [← A5.o] at hck
      refine hck.mono ?_
      rintro _ xd ⟨rfl, hb⟩
      have Ch : Kept S V8 xd := Kept.trans hH1 (Kept.of_below hb)
      replace hcc := hcc.below hb
      clear hck hb
      refine hKK _ _ Ch fun hH2 => ?_
      clear hKK KK
      try simp only [qc]
      apply tl 12 rfl ?hv hH2 ?_
      case hv => intro w' hS; go_simp; try rfl
      simp only [qc]
      apply tl 13 rfl ?hv hH2 ?_
      case hv => intro w' hS; go_simp; try rfl
      simp only [qc]
      refine wpAnyH_done (by kernel_rfl) ?_ _
      refine NoPanic.normal ?_
      have Ew := Hh (Ev.o.trans Ch)
      have Fo := Hh hcc
      clear hS0 Ad Ch hcc Ev Aw Et
      have F8 := Hh (Aj.o xd Ew.o).1
      obtain ⟨h19, Ay⟩ := new_row xd 32 zl LC.toArray
      have Fh := Hh h19
      have Cu := Hh Ay
      clear h19 Ay
      go_upto_region 27 with (first
        | (refine wpList_load_row rfl 32 (.tmp 12) rfl Ar rfl 32 LC.toArray (0, 0) _ F8.o Tryz.underlying32 rfl An.o ?_)
        | (refine wpList_store_row rfl 32 (.tmp 19) (.tmp 100) rfl xd.heap.size LC.toArray rfl rfl 32 zl (heap_alloc_new xd _) An.o Ea.o Bp.o ?_))
      obtain ⟨Bs, hV10⟩ : ∃ V, V = (xd.alloc (.cells zl 32)).setRow xd.heap.size LC.toArray := ⟨_, rfl⟩
      obtain ⟨Ag, hG19⟩ : ∃ y, y = xd.heap.size := ⟨_, rfl⟩
      have h19 := Fh.o
      have Ay := Cu.o
      rw [← hV10, ← hG19] at h19
      rw [← hV10] at Ay ⊢
      rw [← hG19]
      have hcc := Fo.o.below Ay
      have De := Hh (show Kept S V4 Bs from Ew.o.trans (Kept.of_below Ay))
      have Ck := Hh (show V4.heap.size ≤ Ag from by rw [hG19]; exact Ew.o.size)
      clear hV10 hG19 Ay Fh Cu F8 Fo
      have c32 : Bs.cell? ⟨Ag, 32, none⟩ = some (.int .u64 (l.am : Int)) := h19.cell_is (by rw [List.getElem?_toArray, Bb.o]; exact LeafT.at_am HL.o)
      have fz := h19.free 32
      have Ap := h19.set 32 (.int .u64 (mo : Int))
      have A0 : Kept (· = Ag) Bs (Bs.setCell ⟨Ag, 32, none⟩ (.int .u64 (mo : Int))) := (Kept.refl (· = Ag) Bs).set (p := ⟨Ag, 32, none⟩) (.inl rfl) _
      have By := A0.size
      have Fp := Hh hcc
      have Dc := Hh Ap
      have Be := Hh A0
      clear Ap A0 h19 hcc
      go_upto_region 28 with (fail)
      obtain ⟨Dl, hV11⟩ : ∃ W, W = Bs.setCell ⟨Ag, 32, none⟩ (.int .u64 (mo : Int)) := ⟨_, rfl⟩
      have Ap := Dc.o
      have A0 := Be.o
      rw [← hV11] at Ap A0 By ⊢
      clear hV11 c32 fz Dc Be
      have c98 : Dl.cell? ⟨Ag, 98, none⟩ = some (.int .u64 (l.sp.s : Int)) := Ap.cell_is (by rw [Bb.o, amG_set HL.o mo, List.getElem?_toArray]; exact LeafT.at_ss (l := { l with am := mo }) ⟨HL.o.id, Em.o, HL.o.ow, HL.o.lo, HL.o.hi, HL.o.sp, HL.o.ss⟩)
      have fz := Ap.free 98
      have Aq := Ap.set 98 (.int .u64 18446744073709551615)
      have A9 : Kept (· = Ag) Dl (Dl.setCell ⟨Ag, 98, none⟩ (.int .u64 18446744073709551615)) := (Kept.refl (· = Ag) Dl).set (p := ⟨Ag, 98, none⟩) (.inl rfl) _
      obtain ⟨m', hm'⟩ : ∃ m', m' = moreL l mo := ⟨_, rfl⟩
      rw [Bb.o, more_set HL.o Em.o, ← hm'] at Aq
      have Bg := Hh Aq
      have C8 := Hh A9
      have Be := Hh A0
      have Cq := Hh hm'
      clear Aq A9 Ap A0 hm' By
      go_upto_region 29 with (fail)
      obtain ⟨Cn, hV12⟩ : ∃ W, W = Dl.setCell ⟨Ag, 98, none⟩ (.int .u64 18446744073709551615) := ⟨_, rfl⟩
      obtain ⟨LM, hLM⟩ : ∃ L, L = m'.cells := ⟨_, rfl⟩
      have Aq := Bg.o
      have A9 := C8.o
      rw [← hV12] at A9 ⊢
      rw [← hV12, ← hLM] at Aq
      clear hV12 c98 fz Bg C8
      have Al := Hh (show m'.ok by rw [Cq.o]; exact more_ok HL.o Em.o)
      have Ci := Hh hLM
      have D9 := Hh (show (Tryz.prog.info? 32).map (·.size) = some LM.toArray.size by rw [List.size_toArray, hLM, LeafT.len Al.o]; kernel_rfl)
      have Ca := Hh (show (Tryz.prog.info? 32).map (·.size) = some LM.length by rw [hLM, LeafT.len Al.o]; kernel_rfl)
      have Az : Kept (· = Ag) Bs Cn := Be.o.trans A9
      have hng : ∀ j, S j → j ≠ Ag := fun j e => by have a1 := A8.o _ e; have a2 := HG.o; have a3 := Es.o; have a4 := Ck.o; omega
      have hcc := Fp.o.kept Az (fun j e => hng j e)
      -- what lies still behind this
      have h10 := Aj.o Bs De.o
      have hB12 : Below W1.heap.size W1 Cn := h10.2.2.2.2.2.trans (Az.below h10.2.2.2.2.2.size (fun j e => by have e' : j = Ag := e; have a1 := Ck.o; have a2 := (Aj.o V4 (Kept.refl _ _)).2.2.2.2.2.size; omega))
      have Dq := h10.1.kept Az (fun e => by have e' : Ar = Ag := e; have a1 := HG.o; have a2 := Es.o; have a4 := Ck.o; omega)
      have Dr := h10.2.1.kept Az (fun e => by have e' : Bc = Ag := e; have a1 := (Aj.o V4 (Kept.refl _ _)).2.1.lt; have a4 := Ck.o; omega)
      have h4 := Aj.o V4 (Kept.refl _ _)
      have F3 := Hh (show 0 < p.n → ∀ A, p.a = some A → V2.heap.size ≤ A.block ∧ A.block < V4.heap.size from fun h A e => ⟨h4.2.2.2.1.new h A e, h4.2.2.2.1.at_.lt h A e⟩)
      have F7 := Hh (show 0 < q.n → ∀ A, q.a = some A → V2.heap.size ≤ A.block ∧ A.block < V4.heap.size from fun h A e => ⟨h4.2.2.2.2.1.new h A e, h4.2.2.2.2.1.at_.lt h A e⟩)
      have Bw := h10.2.2.2.1.at_.keptN Az (fun h A e1 e2 => by have a1 := (F3.o h A e1).2; have a2 := Ck.o; have e2' : A.block = Ag := e2; omega)
      have Bx := h10.2.2.2.2.1.at_.keptN Az (fun h A e1 e2 => by have a1 := (F7.o h A e1).2; have a2 := Ck.o; have e2' : A.block = Ag := e2; omega)
      have Ao := Hh (show ∀ v, Kept S Cn v → Has v Ar 32 LC.toArray ∧ Has v Bc 41 LW.toArray ∧ Tabs KS SS v ∧ p.At v ∧ q.At v ∧ Below W1.heap.size W1 v ∧ Has v Ag 32 LM.toArray from fun v hv => by
        have a1 := HG.o
        have a2 := C7.o
        have hb : Below W1.heap.size W1 v := hB12.trans (hv.below hB12.size (fun j e => D8.o j e))
        exact ⟨Dq.kept hv (fun e => by have := A8.o _ e; omega), Dr.kept hv (fun e => by have := A8.o _ e; omega), Dd.o v (As.o.trans (hb.mono As.o.size)), Bw.keptN hv (fun h A e1 e2 => by have := A8.o _ e2; have := F3.o h A e1; omega), Bx.keptN hv (fun h A e1 e2 => by have := A8.o _ e2; have := F7.o h A e1; omega), hb, Aq.kept hv (fun e => hng _ e rfl)⟩)
      have C6 := Hh (show ∀ v, Kept S Cn v → Below w.heap.size w v from fun v hv => As.o.trans ((Ao.o v hv).2.2.2.2.2.1.mono As.o.size))
      have Bg := Hh Aq
      have A1 := cz_prove hcc (Ao.o Cn (Kept.refl _ _)).2.2.1 Cl.o m' Al.o
      obtain ⟨pe, hpe⟩ : ∃ x : Int, x = if m' ∈ cs then 0 else 5 := ⟨_, rfl⟩
      rw [← hpe, ← Ci.o] at A1
      have Bf := Hh A1
      have Gl := Hh hpe
      clear Aq A9 hLM Az hng hcc h10 hB12 Dq Dr h4 Bw Bx A1 hpe Aj Fp De Be
      go_wp2_with (refine wpList_load_row rfl 32 (.tmp 19) rfl Ag rfl 32 LM.toArray (0, 0) _ Bg.o Tryz.underlying32 rfl D9.o ?_)
      refine Bf.o.mono ?_
      rintro _ Co ⟨p3, q3, rfl, hpa, hqa, Bu, Dv, -⟩
      obtain ⟨LY, hLY⟩ : ∃ L, L = waysC p3 q3 := ⟨_, rfl⟩
      rw [← hLY]
      have Gg := Hh (show LY.length = 66 by rw [hLY]; exact waysC_len hpa.hash hqa.hash)
      obtain ⟨-, Cd⟩ := new_row Co 41 zw LY.toArray
      have G4 := Hh (show (Tryz.prog.info? 41).map (·.size) = some LY.toArray.size by rw [List.size_toArray, Gg.o]; kernel_rfl)
      have G8 := Hh (show zw.size = LY.toArray.size by rw [Ey.o, List.size_toArray, Gg.o])
      have E3 := Hh (show LY.toArray.all (·.oneCell') = true by rw [hLY]; exact waysC_one _ _)
      have Df := Hh (Dv.trans (Kept.of_below Cd))
      have C2 := Hh (Bu.below Cd)
      clear hpa hqa Bu Dv hLY Cd Bf
      go_upto_region 30 with (refine wpList_store_row rfl 41 (.tmp 20) (.tmp 109) rfl Co.heap.size LY.toArray rfl rfl 41 zw (heap_alloc_new Co _) G4.o G8.o E3.o ?_)
      obtain ⟨Cp, hV14⟩ : ∃ V, V = (Co.alloc (.cells zw 41)).setRow Co.heap.size LY.toArray := ⟨_, rfl⟩
      have Bj := Df.o
      have Cg := C2.o
      rw [← hV14] at Bj Cg ⊢
      generalize Co.heap.size = G20
      have Ex := Hh Bj
      have Ed := Hh Cg
      have Bd := Hh (Ao.o Cp Bj).1
      have A3 := Hh (Ao.o Cp Bj).2.2.2.2.2.2
      clear hV14 Bj Cg Df C2 Bg
      obtain ⟨b, hb⟩ : ∃ b, b = decide (m' = l) := ⟨_, rfl⟩
      have En := Hh (show ∀ v, (binOp .neq 32 (.agg LM.toArray) (.agg LC.toArray)).run Tryz.prog v = .ok (.bool (!b)) v from fun v => by rw [run_neq_struct, Ci.o, Bb.o, le_eq m' l Al.o HL.o v, ← hb]; rfl)
      have Ef := Hh (show ∀ v, (eqGuard .neq 32 (.tmp 111) (.tmp 112) (.agg LM.toArray) (.agg LC.toArray)).run Tryz.prog v = .ok () v from fun v => by first | rfl | simp [eqGuard])
      have Fi := Hh hb
      clear hb
      go_cut [117] from 111 (fun v117 wx => v117 = .bool false ∧ wx = Cp)
      case first =>
        cases b with
        | true =>
          go_wp2_with (first
            | (refine wpList_load_row rfl 32 (.tmp 19) rfl Ag rfl 32 LM.toArray (0, 0) _ A3.o Tryz.underlying32 rfl D9.o ?_)
            | (refine wpList_load_row rfl 32 (.tmp 12) rfl Ar rfl 32 LC.toArray (0, 0) _ Bd.o Tryz.underlying32 rfl An.o ?_)
            | (refine wpList_neq_run rfl 32 _ (.tmp 111) (.tmp 112) rfl (.agg LM.toArray) (.agg LC.toArray) rfl rfl false (En.o _) (Ef.o _) ?_))
          go_meet
          case rel => exact ⟨rfl, rfl⟩
        | false =>
          have hp5 : pe = 5 := by
            rw [Gl.o, if_neg]
            have hne : m' ≠ l := of_decide_eq_false Fi.o.symm
            rw [Cq.o] at hne ⊢
            exact more_in Cj.o B7.o hne
          have h116 : ((pe : Int) != 5) = false := by rw [hp5]; rfl
          clear hp5
          go_wp2_with (first
            | (refine wpList_load_row rfl 32 (.tmp 19) rfl Ag rfl 32 LM.toArray (0, 0) _ A3.o Tryz.underlying32 rfl D9.o ?_)
            | (refine wpList_load_row rfl 32 (.tmp 12) rfl Ar rfl 32 LC.toArray (0, 0) _ Bd.o Tryz.underlying32 rfl An.o ?_)
            | (refine wpList_neq_run rfl 32 _ (.tmp 111) (.tmp 112) rfl (.agg LM.toArray) (.agg LC.toArray) rfl rfl true (En.o _) (Ef.o _) ?_))
          go_meet
          case rel => exact ⟨rfl, rfl⟩
      case rest =>
      obtain ⟨rfl, hw⟩ := hcut
      replace hw := hw.symm
      subst hw
      clear En Ef Fi
      have hck := leafCheck_is Cp m' Al.o
      rw [← Ci.o] at hck
      obtain ⟨c0, hc0⟩ : ∃ c, c = leafE m' := ⟨_, rfl⟩
      rw [← hc0] at hck
      have Fq := Hh hck
      have Fb := Hh hc0
      clear hck hc0
      go_wp2_with (refine wpList_load_row rfl 32 (.tmp 19) rfl Ag rfl 32 LM.toArray (0, 0) _ A3.o Tryz.underlying32 rfl D9.o ?_)
      refine Fq.o.mono ?_
      rintro _ Af ⟨rfl, hV15⟩
      have Ce : Below Cp.heap.size Cp Af := by rw [hV15]; exact (Below.refl _ _).alloc (Nat.le_refl _) _
      have B8 := Hh (show Kept S Cn Af from Ex.o.trans (Kept.of_below Ce))
      have Ee := Hh (Ed.o.below Ce)
      clear hV15 Ce Fq Bd A3
      have Ac := Hh (show ∀ v, Kept S Af v → Has v Ar 32 LC.toArray ∧ Has v Bc 41 LW.toArray ∧ Tabs KS SS v ∧ p.At v ∧ q.At v ∧ Below W1.heap.size W1 v ∧ Has v Ag 32 LM.toArray from fun v hv => Ao.o v (B8.o.trans hv))
      cases hbad : leafBad m' with
      | true =>
        have hc1 : c0 = 1 := by rw [Fb.o]; unfold leafE; rw [if_pos hbad]
        have Gs := Hh (show chkR (leadR KS SS p q m') AN = 1 by rw [lead_bad hbad]; rfl)
        subst hc1
        have hcc := Ee.o.below (Below.refl Af.heap.size Af).drew
        have hS0 : Kept S Af Af.drew := (Kept.refl _ _).drew
        clear hbad
        go_upto_region 33 with (fail)
        refine wp_region_noPanic ?_
        refine wp_region_held_drew (S := (fun v => Kept S Af v)) (by kernel_rfl) hS0 (fun hH0 => ?_)
        refine tk 0 (v := (.agg LW.toArray)) rfl (yieldsIf_load_mid (by kernel_rfl) 41 (.tmp 13) rfl Bc 0 rfl LW _ (fun w' h => (Ac.o _ h).2.1.row0) Tryz.underlying41 rfl Dk.o) hH0 ?_
        simp only [qc]
        apply tl 1 rfl ?hv hH0 ?_
        case hv => intro w' hS; go_simp; try rfl
        simp only [qc]
        refine tk 3 (v := (.agg LM.toArray)) rfl (yieldsIf_load_mid (by kernel_rfl) 32 (.tmp 19) rfl Ag 0 rfl LM _ (fun w' h => (Ac.o _ h).2.2.2.2.2.2.row0) Tryz.underlying32 rfl Ca.o) hH0 ?_
        simp only [qc]
        refine rdy [2] (ar1 rfl fun KK hKK => ?_)
        go_simp
        have han := cz_anchor hcc (Ac.o _ hH0).2.2.1 Cl.o
        rw [← Eb.o] at han
        unfold arr at han
        rw [← A5.o] at han
        refine han.mono ?_
        rintro _ xa ⟨rfl, hcl, hkl⟩
        have Ad : Kept S Af xa := Kept.trans hH0 hkl
        replace hcc := hcl
        clear han hcl hkl
        refine hKK _ _ Ad fun hH1 => ?_
        clear hKK KK
        try simp only [qc]
        refine rdy [4] (ar1 rfl fun KK hKK => ?_)
        go_simp
        have hck := coCheck_is KS SS xa (Ac.o _ hH1).2.2.1 p q (Ac.o _ hH1).2.2.2.1 (Ac.o _ hH1).2.2.2.2.1 AN Bz.o m' Al.o
        rw [← D5.o, ← Ci.o, Gs.o] at hck
        unfold arr at hck
        rw [← A5.o] at hck
        refine hck.mono ?_
        rintro _ xc ⟨rfl, hb⟩
        have A2 : Kept S Af xc := Kept.trans hH1 (Kept.of_below hb)
        replace hcc := hcc.below hb
        clear hck hb
        refine hKK _ _ A2 fun hH2 => ?_
        clear hKK KK
        try simp only [qc]
        apply tl 5 rfl ?hv hH2 ?_
        case hv => intro w' hS; go_simp; try rfl
        simp only [qc]
        apply tl 6 rfl ?hv hH2 ?_
        case hv => intro w' hS; go_simp; try rfl
        simp only [qc]
        refine wpAnyH_done (by kernel_rfl) ?_ _
        refine NoPanic.normal ?_
        have Au := Hh (C6.o xc (B8.o.trans A2))
        clear hS0 Ad A2 hcc
        go_wp2_with fail
        go_ret
        exact ⟨rfl, Au.o⟩
      | false =>
        have hc1 : c0 = 0 := by rw [Fb.o]; unfold leafE; rw [if_neg (by rw [hbad]; decide)]
        have C0 := Hh (show ¬ leafBad m' = true by rw [hbad]; decide)
        have Cy := Hh (show ¬ leafBad l = true by rw [Cj.o.good l B7.o]; decide)
        subst hc1
        clear hbad
        obtain ⟨KL, hKL⟩ : ∃ K, K = bcells (keyK KS SS l) := ⟨_, rfl⟩
        have Gj := Hh (show KL = bcells (keyK KS SS m') by rw [hKL, Cq.o]; rfl)
        obtain ⟨R1, hR1⟩ : ∃ R, R = lowR KS SS p l := ⟨_, rfl⟩
        obtain ⟨R2, hR2⟩ : ∃ R, R = lowR KS SS p m' := ⟨_, rfl⟩
        have A6 := Hh (show IsHash (pfN R1).h ∧ (pfN R1).s < 18446744073709551616 by rw [hR1]; exact ⟨pf_hash ss_len (leaf_hash KS SS ss_len _ _), pf_fits HL.o.am⟩)
        have A7 := Hh (show IsHash (pfN R2).h ∧ (pfN R2).s < 18446744073709551616 by rw [hR2]; exact ⟨pf_hash ss_len (leaf_hash KS SS ss_len _ _), pf_fits Al.o.am⟩)
        obtain ⟨u1, hu1⟩ : ∃ u, u = pfE R1 := ⟨_, rfl⟩
        obtain ⟨u2, hu2⟩ : ∃ u, u = pfE R2 := ⟨_, rfl⟩
        obtain ⟨LP, hLP⟩ : ∃ L, L = p.cells := ⟨_, rfl⟩
        have Gm := Hh hR1
        have Gn := Hh hR2
        have Go := Hh hu1
        have Fc := Hh hu2
        have h15 := Ac.o Af (Kept.refl _ _)
        have Gh := Hh (show (Tryz.prog.info? 39).map (·.size) = some LP.length by rw [hLP, show p.cells.length = 33 from pcells_len h15.2.2.2.1.hash _ _ _]; kernel_rfl)
        have Gc := Hh (show ∀ v, Kept S Af v → v.rangeAt Bc 0 LP from fun v hv => by have h := (Ac.o v hv).2.1; rw [D5.o] at h; rw [hLP]; exact (ways_at h15.2.2.2.1.hash h).1)
        have Ah := Hh (show ∀ n : Nd, IsHash n.h → (Tryz.prog.info? 30).map (·.size) = some (ndV n).toArray.size ∧ zn.size = (ndV n).length from fun n hn => ⟨by rw [List.size_toArray, ndV_len hn]; kernel_rfl, by rw [G2.o, ndV_len hn]⟩)
        have Bn := Hh (root_f ss_len (S := S) (V := Af) (fun v hv => ⟨(Ac.o v hv).2.2.1, (Ac.o v hv).2.2.2.1⟩) HL.o Cy.o Bb.o hKL hLP hR1 hu1)
        have Bo := Hh (root_f ss_len (S := S) (V := Af) (fun v hv => ⟨(Ac.o v hv).2.2.1, (Ac.o v hv).2.2.2.1⟩) Al.o C0.o Ci.o Gj.o hLP hR2 hu2)
        clear hKL hR1 hR2 hu1 hu2 hLP h15
        go_upto_region 34 with (fail)
        go_cut [22, 23] from 26 (fun v22 v23 wx => ∃ G, v22 = .pointer (some ⟨G, 0, none⟩) ∧ v23 = .int .i64 (u1 : Int) ∧ Has wx G 30 (ndV (pfN R1)).toArray ∧ Below Af.heap.size Af wx)
        case first =>
          have hS0 : Below Af.heap.size Af Af.drew := (Below.refl _ _).drew
          have Am := Hh (show ∀ v, Below Af.heap.size Af v → Kept S Af v from fun v hv => Kept.of_below hv)
          refine wp_region_noPanic ?_
          refine wp_region_held_drew (S := (fun v => Below Af.heap.size Af v)) (by kernel_rfl) hS0 (fun hH0 => ?_)
          apply tl 0 rfl ?hv hH0 ?_
          case hv => intro w' hS; go_simp; try rfl
          simp only [qc]
          refine tk 1 (v := (.agg LP.toArray)) rfl (yieldsIf_load_mid (by kernel_rfl) 39 (.tmp 128) rfl Bc 0 rfl LP _ (fun w' h => (Gc.o _ (Am.o _ h))) Tryz.underlying39 rfl Gh.o) hH0 ?_
          simp only [qc]
          refine tk 2 (v := (.agg LC.toArray)) rfl (yieldsIf_load_mid (by kernel_rfl) 32 (.tmp 12) rfl Ar 0 rfl LC _ (fun w' h => (Ac.o _ (Am.o _ h)).1.row0) Tryz.underlying32 rfl B9.o) hH0 ?_
          simp only [qc]
          refine tk 4 (v := (.agg LC.toArray)) rfl (yieldsIf_load_mid (by kernel_rfl) 32 (.tmp 12) rfl Ar 0 rfl LC _ (fun w' h => (Ac.o _ (Am.o _ h)).1.row0) Tryz.underlying32 rfl B9.o) hH0 ?_
          simp only [qc]
          refine rdy [3, 10] (AllReadyH.cons rfl (fun KK hKK => ?_) (ar1 rfl fun KK hKK => ?_))
          · go_simp
            refine (Bn.o.1 _ (Am.o _ hH0)).mono ?_
            rintro _ xk ⟨rfl, hbk⟩
            have hs3 := Below.trans hH0 (hbk.mono hH0.size)
            try replace hz9 := hz9.below hbk hz9.lt
            clear hbk
            refine hKK _ _ hs3 fun hH1 => ?_
            clear hKK KK
            try simp only [qc]
            refine rdy [5, 10] (AllReadyH.cons rfl (fun KK hKK => ?_) (ar1 rfl fun KK hKK => ?_))
            · go_simp
              refine (Bn.o.2.1 xk).mono ?_
              rintro _ xs ⟨sa, sc, rfl, hbw, hbs⟩
              have hs5 := Below.trans hH1 (hbs.mono hH1.size)
              try replace hz9 := hz9.below hbs hz9.lt
              clear hbs
              refine hKK _ _ hs5 fun hH2 => ?_
              clear hKK KK
              try simp only [qc]
              refine rdy [6, 10] (AllReadyH.cons rfl (fun KK hKK => ?_) (ar1 rfl fun KK hKK => ?_))
              · go_simp
                refine (Bn.o.2.2 _ sa sc (Am.o _ hH2) hbw).mono ?_
                rintro _ xr ⟨rfl, hbr⟩
                have hs6 := Below.trans hH2 (hbr.mono hH2.size)
                try replace hz9 := hz9.below hbr hz9.lt
                clear hbr hbw
                refine hKK _ _ hs6 fun hH3 => ?_
                clear hKK KK
                try simp only [qc]
                apply tl 7 rfl ?hv hH3 ?_
                case hv => intro w' hS; go_simp; try rfl
                simp only [qc]
                apply tl 8 rfl ?hv hH3 ?_
                case hv => intro w' hS; go_simp; try rfl
                simp only [qc]
                apply tl 9 rfl ?hv hH3 ?_
                case hv => intro w' hS; go_simp; try rfl
                simp only [qc]
                refine rdy [10] (ar1 rfl fun KK hKK => ?_)
                go_simp
                obtain ⟨xa, G9, hxa, hG9, Ad, hz9, hg9, Ae⟩ := al_step (W := Af) hH3 zn 30
                first | rw [← hxa] | (change KK _ (xr.alloc (.cells zn 30)); rw [← hxa])
                first | rw [← hG9] | (have hq : Af.heap.size = G9 := hG9.symm; rw [hq]; clear hq)
                clear hG9 hxa
                try replace hbw := bytes_up hbw Ae
                clear Ae
                refine hKK _ _ Ad fun hH4 => ?_
                clear hKK KK
                try simp only [qc]
                refine rdy [11] (ar1 rfl fun KK hKK => ?_)
                refine step_store_mid rfl 30 (.tmp 22) (.tmp 135) rfl G9 0 (ndV (pfN R1)).toArray rfl rfl (hz9.there 0 _ (by rw [List.size_toArray, (Ah.o _ A6.o.1).2]; exact Nat.le_of_eq (Nat.zero_add _))) (Ah.o _ A6.o.1).1 (ndV_one _) ?_
                have Aa := set_box hH4 hz9 hg9 (Below.size hH4) (Ah.o _ A6.o.1).2
                obtain ⟨xb, hxb⟩ : ∃ y, y = xa.setCells G9 0 (ndV (pfN R1)) := ⟨_, rfl⟩
                rw [← hxb] at Aa
                change KK _ (xa.setCells G9 0 (ndV (pfN R1)))
                rw [← hxb]
                have Ab := Aa.1
                clear hxb
                refine hKK _ _ Ab fun hH5 => ?_
                clear hKK KK
                try simp only [qc]
                apply tl 12 rfl ?hv hH5 ?_
                case hv => intro w' hS; go_simp; try rfl
                simp only [qc]
                refine wpAnyH_done (by kernel_rfl) ?_ _
                refine NoPanic.normal ?_
                have Av := Hh Aa.2.1
                have Ax := Hh Ab
                clear Aa Ab
                go_wp2_with fail
                go_meet
                case rel => exact ⟨G9, rfl, rfl, Av.o, Ax.o⟩
              · go_simp
                obtain ⟨xa, G9, hxa, hG9, Ad, hz9, hg9, Ae⟩ := al_step (W := Af) hH2 zn 30
                first | rw [← hxa] | (change KK _ (xs.alloc (.cells zn 30)); rw [← hxa])
                first | rw [← hG9] | (have hq : Af.heap.size = G9 := hG9.symm; rw [hq]; clear hq)
                clear hG9 hxa
                try replace hbw := bytes_up hbw Ae
                clear Ae
                refine hKK _ _ Ad fun hH3 => ?_
                clear hKK KK
                try simp only [qc]
                refine rdy [6] (ar1 rfl fun KK hKK => ?_)
                go_simp
                refine (Bn.o.2.2 _ sa sc (Am.o _ hH3) hbw).mono ?_
                rintro _ xr ⟨rfl, hbr⟩
                have hs6 := Below.trans hH3 (hbr.mono hH3.size)
                try replace hz9 := hz9.below hbr hz9.lt
                clear hbr hbw
                refine hKK _ _ hs6 fun hH4 => ?_
                clear hKK KK
                try simp only [qc]
                apply tl 7 rfl ?hv hH4 ?_
                case hv => intro w' hS; go_simp; try rfl
                simp only [qc]
                apply tl 8 rfl ?hv hH4 ?_
                case hv => intro w' hS; go_simp; try rfl
                simp only [qc]
                apply tl 9 rfl ?hv hH4 ?_
                case hv => intro w' hS; go_simp; try rfl
                simp only [qc]
                refine rdy [11] (ar1 rfl fun KK hKK => ?_)
                refine step_store_mid rfl 30 (.tmp 22) (.tmp 135) rfl G9 0 (ndV (pfN R1)).toArray rfl rfl (hz9.there 0 _ (by rw [List.size_toArray, (Ah.o _ A6.o.1).2]; exact Nat.le_of_eq (Nat.zero_add _))) (Ah.o _ A6.o.1).1 (ndV_one _) ?_
                have Aa := set_box hH4 hz9 hg9 (Below.size hH4) (Ah.o _ A6.o.1).2
                obtain ⟨xb, hxb⟩ : ∃ y, y = xr.setCells G9 0 (ndV (pfN R1)) := ⟨_, rfl⟩
                rw [← hxb] at Aa
                change KK _ (xr.setCells G9 0 (ndV (pfN R1)))
                rw [← hxb]
                have Ab := Aa.1
                clear hxb
                refine hKK _ _ Ab fun hH5 => ?_
                clear hKK KK
                try simp only [qc]
                apply tl 12 rfl ?hv hH5 ?_
                case hv => intro w' hS; go_simp; try rfl
                simp only [qc]
                refine wpAnyH_done (by kernel_rfl) ?_ _
                refine NoPanic.normal ?_
                have Av := Hh Aa.2.1
                have Ax := Hh Ab
                clear Aa Ab
                go_wp2_with fail
                go_meet
                case rel => exact ⟨G9, rfl, rfl, Av.o, Ax.o⟩
            · go_simp
              obtain ⟨xa, G9, hxa, hG9, Ad, hz9, hg9, Ae⟩ := al_step (W := Af) hH1 zn 30
              first | rw [← hxa] | (change KK _ (xk.alloc (.cells zn 30)); rw [← hxa])
              first | rw [← hG9] | (have hq : Af.heap.size = G9 := hG9.symm; rw [hq]; clear hq)
              clear hG9 hxa
              try replace hbw := bytes_up hbw Ae
              clear Ae
              refine hKK _ _ Ad fun hH2 => ?_
              clear hKK KK
              try simp only [qc]
              refine rdy [5] (ar1 rfl fun KK hKK => ?_)
              go_simp
              refine (Bn.o.2.1 xa).mono ?_
              rintro _ xs ⟨sa, sc, rfl, hbw, hbs⟩
              have hs5 := Below.trans hH2 (hbs.mono hH2.size)
              try replace hz9 := hz9.below hbs hz9.lt
              clear hbs
              refine hKK _ _ hs5 fun hH3 => ?_
              clear hKK KK
              try simp only [qc]
              refine rdy [6] (ar1 rfl fun KK hKK => ?_)
              go_simp
              refine (Bn.o.2.2 _ sa sc (Am.o _ hH3) hbw).mono ?_
              rintro _ xr ⟨rfl, hbr⟩
              have hs6 := Below.trans hH3 (hbr.mono hH3.size)
              try replace hz9 := hz9.below hbr hz9.lt
              clear hbr hbw
              refine hKK _ _ hs6 fun hH4 => ?_
              clear hKK KK
              try simp only [qc]
              apply tl 7 rfl ?hv hH4 ?_
              case hv => intro w' hS; go_simp; try rfl
              simp only [qc]
              apply tl 8 rfl ?hv hH4 ?_
              case hv => intro w' hS; go_simp; try rfl
              simp only [qc]
              apply tl 9 rfl ?hv hH4 ?_
              case hv => intro w' hS; go_simp; try rfl
              simp only [qc]
              refine rdy [11] (ar1 rfl fun KK hKK => ?_)
              refine step_store_mid rfl 30 (.tmp 22) (.tmp 135) rfl G9 0 (ndV (pfN R1)).toArray rfl rfl (hz9.there 0 _ (by rw [List.size_toArray, (Ah.o _ A6.o.1).2]; exact Nat.le_of_eq (Nat.zero_add _))) (Ah.o _ A6.o.1).1 (ndV_one _) ?_
              have Aa := set_box hH4 hz9 hg9 (Below.size hH4) (Ah.o _ A6.o.1).2
              obtain ⟨xb, hxb⟩ : ∃ y, y = xr.setCells G9 0 (ndV (pfN R1)) := ⟨_, rfl⟩
              rw [← hxb] at Aa
              change KK _ (xr.setCells G9 0 (ndV (pfN R1)))
              rw [← hxb]
              have Ab := Aa.1
              clear hxb
              refine hKK _ _ Ab fun hH5 => ?_
              clear hKK KK
              try simp only [qc]
              apply tl 12 rfl ?hv hH5 ?_
              case hv => intro w' hS; go_simp; try rfl
              simp only [qc]
              refine wpAnyH_done (by kernel_rfl) ?_ _
              refine NoPanic.normal ?_
              have Av := Hh Aa.2.1
              have Ax := Hh Ab
              clear Aa Ab
              go_wp2_with fail
              go_meet
              case rel => exact ⟨G9, rfl, rfl, Av.o, Ax.o⟩
          · go_simp
            obtain ⟨xa, G9, hxa, hG9, Ad, hz9, hg9, Ae⟩ := al_step (W := Af) hH0 zn 30
            first | rw [← hxa] | (change KK _ (Af.drew.alloc (.cells zn 30)); rw [← hxa])
            first | rw [← hG9] | (have hq : Af.heap.size = G9 := hG9.symm; rw [hq]; clear hq)
            clear hG9 hxa
            try replace hbw := bytes_up hbw Ae
            clear Ae
            refine hKK _ _ Ad fun hH1 => ?_
            clear hKK KK
            try simp only [qc]
            refine rdy [3] (ar1 rfl fun KK hKK => ?_)
            go_simp
            refine (Bn.o.1 _ (Am.o _ hH1)).mono ?_
            rintro _ xk ⟨rfl, hbk⟩
            have hs3 := Below.trans hH1 (hbk.mono hH1.size)
            try replace hz9 := hz9.below hbk hz9.lt
            clear hbk
            refine hKK _ _ hs3 fun hH2 => ?_
            clear hKK KK
            try simp only [qc]
            refine rdy [5] (ar1 rfl fun KK hKK => ?_)
            go_simp
            refine (Bn.o.2.1 xk).mono ?_
            rintro _ xs ⟨sa, sc, rfl, hbw, hbs⟩
            have hs5 := Below.trans hH2 (hbs.mono hH2.size)
            try replace hz9 := hz9.below hbs hz9.lt
            clear hbs
            refine hKK _ _ hs5 fun hH3 => ?_
            clear hKK KK
            try simp only [qc]
            refine rdy [6] (ar1 rfl fun KK hKK => ?_)
            go_simp
            refine (Bn.o.2.2 _ sa sc (Am.o _ hH3) hbw).mono ?_
            rintro _ xr ⟨rfl, hbr⟩
            have hs6 := Below.trans hH3 (hbr.mono hH3.size)
            try replace hz9 := hz9.below hbr hz9.lt
            clear hbr hbw
            refine hKK _ _ hs6 fun hH4 => ?_
            clear hKK KK
            try simp only [qc]
            apply tl 7 rfl ?hv hH4 ?_
            case hv => intro w' hS; go_simp; try rfl
            simp only [qc]
            apply tl 8 rfl ?hv hH4 ?_
            case hv => intro w' hS; go_simp; try rfl
            simp only [qc]
            apply tl 9 rfl ?hv hH4 ?_
            case hv => intro w' hS; go_simp; try rfl
            simp only [qc]
            refine rdy [11] (ar1 rfl fun KK hKK => ?_)
            refine step_store_mid rfl 30 (.tmp 22) (.tmp 135) rfl G9 0 (ndV (pfN R1)).toArray rfl rfl (hz9.there 0 _ (by rw [List.size_toArray, (Ah.o _ A6.o.1).2]; exact Nat.le_of_eq (Nat.zero_add _))) (Ah.o _ A6.o.1).1 (ndV_one _) ?_
            have Aa := set_box hH4 hz9 hg9 (Below.size hH4) (Ah.o _ A6.o.1).2
            obtain ⟨xb, hxb⟩ : ∃ y, y = xr.setCells G9 0 (ndV (pfN R1)) := ⟨_, rfl⟩
            rw [← hxb] at Aa
            change KK _ (xr.setCells G9 0 (ndV (pfN R1)))
            rw [← hxb]
            have Ab := Aa.1
            clear hxb
            refine hKK _ _ Ab fun hH5 => ?_
            clear hKK KK
            try simp only [qc]
            apply tl 12 rfl ?hv hH5 ?_
            case hv => intro w' hS; go_simp; try rfl
            simp only [qc]
            refine wpAnyH_done (by kernel_rfl) ?_ _
            refine NoPanic.normal ?_
            have Av := Hh Aa.2.1
            have Ax := Hh Ab
            clear Aa Ab
            go_wp2_with fail
            go_meet
            case rel => exact ⟨G9, rfl, rfl, Av.o, Ax.o⟩
        case rest =>
        obtain ⟨Ak, hV16⟩ : ∃ x, x = wc := ⟨_, rfl⟩
        subst hV16
        obtain ⟨Cr, rfl, rfl, Ds, Dm⟩ := hcut
        have B4 := Hh Ds
        have Dg := Hh (show ∀ v, Below Ak.heap.size Ak v → Kept S Af v from fun v hv => (Kept.of_below Dm).trans (Kept.of_below hv))
        clear Ds Dm
        go_upto_region 35 with (fail)
        go_cut [24, 25] from 26 (fun v24 v25 wx => ∃ G, v24 = .pointer (some ⟨G, 0, none⟩) ∧ v25 = .int .i64 (u2 : Int) ∧ Has wx G 30 (ndV (pfN R2)).toArray ∧ Below Ak.heap.size Ak wx)
        case first =>
          have hS0 : Below Ak.heap.size Ak Ak.drew := (Below.refl _ _).drew
          have Am := Hh (show ∀ v, Below Ak.heap.size Ak v → Kept S Af v from Dg.o)
          refine wp_region_noPanic ?_
          refine wp_region_held_drew (S := (fun v => Below Ak.heap.size Ak v)) (by kernel_rfl) hS0 (fun hH0 => ?_)
          apply tl 0 rfl ?hv hH0 ?_
          case hv => intro w' hS; go_simp; try rfl
          simp only [qc]
          refine tk 1 (v := (.agg LP.toArray)) rfl (yieldsIf_load_mid (by kernel_rfl) 39 (.tmp 138) rfl Bc 0 rfl LP _ (fun w' h => (Gc.o _ (Am.o _ h))) Tryz.underlying39 rfl Gh.o) hH0 ?_
          simp only [qc]
          refine tk 2 (v := (.agg LM.toArray)) rfl (yieldsIf_load_mid (by kernel_rfl) 32 (.tmp 19) rfl Ag 0 rfl LM _ (fun w' h => (Ac.o _ (Am.o _ h)).2.2.2.2.2.2.row0) Tryz.underlying32 rfl Ca.o) hH0 ?_
          simp only [qc]
          refine tk 4 (v := (.agg LM.toArray)) rfl (yieldsIf_load_mid (by kernel_rfl) 32 (.tmp 19) rfl Ag 0 rfl LM _ (fun w' h => (Ac.o _ (Am.o _ h)).2.2.2.2.2.2.row0) Tryz.underlying32 rfl Ca.o) hH0 ?_
          simp only [qc]
          refine rdy [3, 10] (AllReadyH.cons rfl (fun KK hKK => ?_) (ar1 rfl fun KK hKK => ?_))
          · go_simp
            refine (Bo.o.1 _ (Am.o _ hH0)).mono ?_
            rintro _ xk ⟨rfl, hbk⟩
            have hs3 := Below.trans hH0 (hbk.mono hH0.size)
            try replace hz9 := hz9.below hbk hz9.lt
            clear hbk
            refine hKK _ _ hs3 fun hH1 => ?_
            clear hKK KK
            try simp only [qc]
            refine rdy [5, 10] (AllReadyH.cons rfl (fun KK hKK => ?_) (ar1 rfl fun KK hKK => ?_))
            · go_simp
              refine (Bo.o.2.1 xk).mono ?_
              rintro _ xs ⟨sa, sc, rfl, hbw, hbs⟩
              have hs5 := Below.trans hH1 (hbs.mono hH1.size)
              try replace hz9 := hz9.below hbs hz9.lt
              clear hbs
              refine hKK _ _ hs5 fun hH2 => ?_
              clear hKK KK
              try simp only [qc]
              refine rdy [6, 10] (AllReadyH.cons rfl (fun KK hKK => ?_) (ar1 rfl fun KK hKK => ?_))
              · go_simp
                refine (Bo.o.2.2 _ sa sc (Am.o _ hH2) hbw).mono ?_
                rintro _ xr ⟨rfl, hbr⟩
                have hs6 := Below.trans hH2 (hbr.mono hH2.size)
                try replace hz9 := hz9.below hbr hz9.lt
                clear hbr hbw
                refine hKK _ _ hs6 fun hH3 => ?_
                clear hKK KK
                try simp only [qc]
                apply tl 7 rfl ?hv hH3 ?_
                case hv => intro w' hS; go_simp; try rfl
                simp only [qc]
                apply tl 8 rfl ?hv hH3 ?_
                case hv => intro w' hS; go_simp; try rfl
                simp only [qc]
                apply tl 9 rfl ?hv hH3 ?_
                case hv => intro w' hS; go_simp; try rfl
                simp only [qc]
                refine rdy [10] (ar1 rfl fun KK hKK => ?_)
                go_simp
                obtain ⟨xa, G9, hxa, hG9, Ad, hz9, hg9, Ae⟩ := al_step (W := Ak) hH3 zn 30
                first | rw [← hxa] | (change KK _ (xr.alloc (.cells zn 30)); rw [← hxa])
                first | rw [← hG9] | (have hq : Ak.heap.size = G9 := hG9.symm; rw [hq]; clear hq)
                clear hG9 hxa
                try replace hbw := bytes_up hbw Ae
                clear Ae
                refine hKK _ _ Ad fun hH4 => ?_
                clear hKK KK
                try simp only [qc]
                refine rdy [11] (ar1 rfl fun KK hKK => ?_)
                refine step_store_mid rfl 30 (.tmp 24) (.tmp 145) rfl G9 0 (ndV (pfN R2)).toArray rfl rfl (hz9.there 0 _ (by rw [List.size_toArray, (Ah.o _ A7.o.1).2]; exact Nat.le_of_eq (Nat.zero_add _))) (Ah.o _ A7.o.1).1 (ndV_one _) ?_
                have Aa := set_box hH4 hz9 hg9 (Below.size hH4) (Ah.o _ A7.o.1).2
                obtain ⟨xb, hxb⟩ : ∃ y, y = xa.setCells G9 0 (ndV (pfN R2)) := ⟨_, rfl⟩
                rw [← hxb] at Aa
                change KK _ (xa.setCells G9 0 (ndV (pfN R2)))
                rw [← hxb]
                have Ab := Aa.1
                clear hxb
                refine hKK _ _ Ab fun hH5 => ?_
                clear hKK KK
                try simp only [qc]
                apply tl 12 rfl ?hv hH5 ?_
                case hv => intro w' hS; go_simp; try rfl
                simp only [qc]
                refine wpAnyH_done (by kernel_rfl) ?_ _
                refine NoPanic.normal ?_
                have Av := Hh Aa.2.1
                have Ax := Hh Ab
                clear Aa Ab
                go_wp2_with fail
                go_meet
                case rel => exact ⟨G9, rfl, rfl, Av.o, Ax.o⟩
              · go_simp
                obtain ⟨xa, G9, hxa, hG9, Ad, hz9, hg9, Ae⟩ := al_step (W := Ak) hH2 zn 30
                first | rw [← hxa] | (change KK _ (xs.alloc (.cells zn 30)); rw [← hxa])
                first | rw [← hG9] | (have hq : Ak.heap.size = G9 := hG9.symm; rw [hq]; clear hq)
                clear hG9 hxa
                try replace hbw := bytes_up hbw Ae
                clear Ae
                refine hKK _ _ Ad fun hH3 => ?_
                clear hKK KK
                try simp only [qc]
                refine rdy [6] (ar1 rfl fun KK hKK => ?_)
                go_simp
                refine (Bo.o.2.2 _ sa sc (Am.o _ hH3) hbw).mono ?_
                rintro _ xr ⟨rfl, hbr⟩
                have hs6 := Below.trans hH3 (hbr.mono hH3.size)
                try replace hz9 := hz9.below hbr hz9.lt
                clear hbr hbw
                refine hKK _ _ hs6 fun hH4 => ?_
                clear hKK KK
                try simp only [qc]
                apply tl 7 rfl ?hv hH4 ?_
                case hv => intro w' hS; go_simp; try rfl
                simp only [qc]
                apply tl 8 rfl ?hv hH4 ?_
                case hv => intro w' hS; go_simp; try rfl
                simp only [qc]
                apply tl 9 rfl ?hv hH4 ?_
                case hv => intro w' hS; go_simp; try rfl
                simp only [qc]
                refine rdy [11] (ar1 rfl fun KK hKK => ?_)
                refine step_store_mid rfl 30 (.tmp 24) (.tmp 145) rfl G9 0 (ndV (pfN R2)).toArray rfl rfl (hz9.there 0 _ (by rw [List.size_toArray, (Ah.o _ A7.o.1).2]; exact Nat.le_of_eq (Nat.zero_add _))) (Ah.o _ A7.o.1).1 (ndV_one _) ?_
                have Aa := set_box hH4 hz9 hg9 (Below.size hH4) (Ah.o _ A7.o.1).2
                obtain ⟨xb, hxb⟩ : ∃ y, y = xr.setCells G9 0 (ndV (pfN R2)) := ⟨_, rfl⟩
                rw [← hxb] at Aa
                change KK _ (xr.setCells G9 0 (ndV (pfN R2)))
                rw [← hxb]
                have Ab := Aa.1
                clear hxb
                refine hKK _ _ Ab fun hH5 => ?_
                clear hKK KK
                try simp only [qc]
                apply tl 12 rfl ?hv hH5 ?_
                case hv => intro w' hS; go_simp; try rfl
                simp only [qc]
                refine wpAnyH_done (by kernel_rfl) ?_ _
                refine NoPanic.normal ?_
                have Av := Hh Aa.2.1
                have Ax := Hh Ab
                clear Aa Ab
                go_wp2_with fail
                go_meet
                case rel => exact ⟨G9, rfl, rfl, Av.o, Ax.o⟩
            · go_simp
              obtain ⟨xa, G9, hxa, hG9, Ad, hz9, hg9, Ae⟩ := al_step (W := Ak) hH1 zn 30
              first | rw [← hxa] | (change KK _ (xk.alloc (.cells zn 30)); rw [← hxa])
              first | rw [← hG9] | (have hq : Ak.heap.size = G9 := hG9.symm; rw [hq]; clear hq)
              clear hG9 hxa
              try replace hbw := bytes_up hbw Ae
              clear Ae
              refine hKK _ _ Ad fun hH2 => ?_
              clear hKK KK
              try simp only [qc]
              refine rdy [5] (ar1 rfl fun KK hKK => ?_)
              go_simp
              refine (Bo.o.2.1 xa).mono ?_
              rintro _ xs ⟨sa, sc, rfl, hbw, hbs⟩
              have hs5 := Below.trans hH2 (hbs.mono hH2.size)
              try replace hz9 := hz9.below hbs hz9.lt
              clear hbs
              refine hKK _ _ hs5 fun hH3 => ?_
              clear hKK KK
              try simp only [qc]
              refine rdy [6] (ar1 rfl fun KK hKK => ?_)
              go_simp
              refine (Bo.o.2.2 _ sa sc (Am.o _ hH3) hbw).mono ?_
              rintro _ xr ⟨rfl, hbr⟩
              have hs6 := Below.trans hH3 (hbr.mono hH3.size)
              try replace hz9 := hz9.below hbr hz9.lt
              clear hbr hbw
              refine hKK _ _ hs6 fun hH4 => ?_
              clear hKK KK
              try simp only [qc]
              apply tl 7 rfl ?hv hH4 ?_
              case hv => intro w' hS; go_simp; try rfl
              simp only [qc]
              apply tl 8 rfl ?hv hH4 ?_
              case hv => intro w' hS; go_simp; try rfl
              simp only [qc]
              apply tl 9 rfl ?hv hH4 ?_
              case hv => intro w' hS; go_simp; try rfl
              simp only [qc]
              refine rdy [11] (ar1 rfl fun KK hKK => ?_)
              refine step_store_mid rfl 30 (.tmp 24) (.tmp 145) rfl G9 0 (ndV (pfN R2)).toArray rfl rfl (hz9.there 0 _ (by rw [List.size_toArray, (Ah.o _ A7.o.1).2]; exact Nat.le_of_eq (Nat.zero_add _))) (Ah.o _ A7.o.1).1 (ndV_one _) ?_
              have Aa := set_box hH4 hz9 hg9 (Below.size hH4) (Ah.o _ A7.o.1).2
              obtain ⟨xb, hxb⟩ : ∃ y, y = xr.setCells G9 0 (ndV (pfN R2)) := ⟨_, rfl⟩
              rw [← hxb] at Aa
              change KK _ (xr.setCells G9 0 (ndV (pfN R2)))
              rw [← hxb]
              have Ab := Aa.1
              clear hxb
              refine hKK _ _ Ab fun hH5 => ?_
              clear hKK KK
              try simp only [qc]
              apply tl 12 rfl ?hv hH5 ?_
              case hv => intro w' hS; go_simp; try rfl
              simp only [qc]
              refine wpAnyH_done (by kernel_rfl) ?_ _
              refine NoPanic.normal ?_
              have Av := Hh Aa.2.1
              have Ax := Hh Ab
              clear Aa Ab
              go_wp2_with fail
              go_meet
              case rel => exact ⟨G9, rfl, rfl, Av.o, Ax.o⟩
          · go_simp
            obtain ⟨xa, G9, hxa, hG9, Ad, hz9, hg9, Ae⟩ := al_step (W := Ak) hH0 zn 30
            first | rw [← hxa] | (change KK _ (Ak.drew.alloc (.cells zn 30)); rw [← hxa])
            first | rw [← hG9] | (have hq : Ak.heap.size = G9 := hG9.symm; rw [hq]; clear hq)
            clear hG9 hxa
            try replace hbw := bytes_up hbw Ae
            clear Ae
            refine hKK _ _ Ad fun hH1 => ?_
            clear hKK KK
            try simp only [qc]
            refine rdy [3] (ar1 rfl fun KK hKK => ?_)
            go_simp
            refine (Bo.o.1 _ (Am.o _ hH1)).mono ?_
            rintro _ xk ⟨rfl, hbk⟩
            have hs3 := Below.trans hH1 (hbk.mono hH1.size)
            try replace hz9 := hz9.below hbk hz9.lt
            clear hbk
            refine hKK _ _ hs3 fun hH2 => ?_
            clear hKK KK
            try simp only [qc]
            refine rdy [5] (ar1 rfl fun KK hKK => ?_)
            go_simp
            refine (Bo.o.2.1 xk).mono ?_
            rintro _ xs ⟨sa, sc, rfl, hbw, hbs⟩
            have hs5 := Below.trans hH2 (hbs.mono hH2.size)
            try replace hz9 := hz9.below hbs hz9.lt
            clear hbs
            refine hKK _ _ hs5 fun hH3 => ?_
            clear hKK KK
            try simp only [qc]
            refine rdy [6] (ar1 rfl fun KK hKK => ?_)
            go_simp
            refine (Bo.o.2.2 _ sa sc (Am.o _ hH3) hbw).mono ?_
            rintro _ xr ⟨rfl, hbr⟩
            have hs6 := Below.trans hH3 (hbr.mono hH3.size)
            try replace hz9 := hz9.below hbr hz9.lt
            clear hbr hbw
            refine hKK _ _ hs6 fun hH4 => ?_
            clear hKK KK
            try simp only [qc]
            apply tl 7 rfl ?hv hH4 ?_
            case hv => intro w' hS; go_simp; try rfl
            simp only [qc]
            apply tl 8 rfl ?hv hH4 ?_
            case hv => intro w' hS; go_simp; try rfl
            simp only [qc]
            apply tl 9 rfl ?hv hH4 ?_
            case hv => intro w' hS; go_simp; try rfl
            simp only [qc]
            refine rdy [11] (ar1 rfl fun KK hKK => ?_)
            refine step_store_mid rfl 30 (.tmp 24) (.tmp 145) rfl G9 0 (ndV (pfN R2)).toArray rfl rfl (hz9.there 0 _ (by rw [List.size_toArray, (Ah.o _ A7.o.1).2]; exact Nat.le_of_eq (Nat.zero_add _))) (Ah.o _ A7.o.1).1 (ndV_one _) ?_
            have Aa := set_box hH4 hz9 hg9 (Below.size hH4) (Ah.o _ A7.o.1).2
            obtain ⟨xb, hxb⟩ : ∃ y, y = xr.setCells G9 0 (ndV (pfN R2)) := ⟨_, rfl⟩
            rw [← hxb] at Aa
            change KK _ (xr.setCells G9 0 (ndV (pfN R2)))
            rw [← hxb]
            have Ab := Aa.1
            clear hxb
            refine hKK _ _ Ab fun hH5 => ?_
            clear hKK KK
            try simp only [qc]
            apply tl 12 rfl ?hv hH5 ?_
            case hv => intro w' hS; go_simp; try rfl
            simp only [qc]
            refine wpAnyH_done (by kernel_rfl) ?_ _
            refine NoPanic.normal ?_
            have Av := Hh Aa.2.1
            have Ax := Hh Ab
            clear Aa Ab
            go_wp2_with fail
            go_meet
            case rel => exact ⟨G9, rfl, rfl, Av.o, Ax.o⟩
        case rest =>
        obtain ⟨Ba, hV17⟩ : ∃ x, x = wc := ⟨_, rfl⟩
        subst hV17
        obtain ⟨Cs, rfl, rfl, Dt, Cf⟩ := hcut
        have Dh := Hh (show Kept S Af Ba from Dg.o Ba Cf)
        have Au := Hh (C6.o Ba (B8.o.trans Dh.o))
        have B5 := Hh (B4.o.below Cf B4.o.lt)
        have Eh := Hh Dt
        have h1 : R1 = .ok (partNd KS SS 256 (lowT KS SS cs l.id)) := by rw [Gm.o]; exact C9.o
        have h0 : u1 = 0 := by rw [Go.o, h1]; rfl
        have Bv := low_more (x := mo) C9.o
        rw [← Cq.o, ← Gn.o] at Bv
        have Eo := Hh (show pfN R1 = partNd KS SS 256 (lowT KS SS cs l.id) by rw [h1]; rfl)
        subst h0
        clear Dt Cf h1 B4
        rcases Bv with h10 | ⟨m2, hm2, hms⟩
        · have h2 : u2 = 10 := by rw [Fc.o, h10]; rfl
          subst h2
          clear h10
          go_wp2_with fail
          go_ret
          exact ⟨rfl, Au.o⟩
        · have h2 : u2 = 0 := by rw [Fc.o, hm2]; rfl
          have Ep := Hh (show pfN R2 = m2 by rw [hm2]; rfl)
          subst h2
          obtain ⟨n1, hn1⟩ : ∃ n, n = pfN R1 := ⟨_, rfl⟩
          obtain ⟨n2, hn2⟩ : ∃ n, n = pfN R2 := ⟨_, rfl⟩
          have Fw := Hh (show n2.s = n1.s ↔ mo = l.am by rw [hn1, hn2, Eo.o, Ep.o]; exact hms)
          have ha := B5.o
          have hb := Eh.o
          have hc := A6.o
          have hd := A7.o
          rw [← hn1] at ha hc
          rw [← hn2] at hb hd
          obtain ⟨AL, hAL⟩ : ∃ a, a = l.am := ⟨_, rfl⟩
          obtain ⟨b12, Cc⟩ : ∃ b, b = ndSame n1 n2 := ⟨_, rfl⟩
          obtain ⟨bh, hbh⟩ : ∃ b, b = decide (n1.h = n2.h) := ⟨_, rfl⟩
          have Fx := Hh (show ∀ v, (Op.equalIn 10000 30 (.agg (ndV n1).toArray) (.agg (ndV n2).toArray)).run Tryz.prog v = .ok b12 v from fun v => by rw [Cc]; exact nd_any n1 n2 hc.1 hd.1 v)
          have Ft := Hh (show ∀ v, (Op.equalIn 10000 27 (.agg (bcells n1.h).toArray) (.agg (bcells n2.h).toArray)).run Tryz.prog v = .ok bh v from fun v => by rw [hbh]; exact hash_eqC n1.h n2.h hc.1 hd.1 v)
          have Bk := Hh (show ∀ v, Below Ba.heap.size Ba v → v.rangeAt Cr 0 (ndV n1) ∧ v.rangeAt Cs 0 (ndV n2) ∧ v.cell? ⟨Ag, 32, none⟩ = some (.int .u64 (mo : Int)) ∧ v.cell? ⟨Ar, 32, none⟩ = some (.int .u64 (AL : Int)) ∧ v.rangeAt Cr 0 (bcells n1.h) ∧ v.rangeAt Cs 0 (bcells n2.h) from fun v hv => by
            have hs := Ac.o v (Dh.o.trans (Kept.of_below hv))
            have r1 := (ha.below hv ha.lt).row0
            have r2 := (hb.below hv hb.lt).row0
            refine ⟨r1, r2, ?_, ?_, fun j u hu => r1 j u ?_, fun j u hu => r2 j u ?_⟩
            · refine hs.2.2.2.2.2.2.cell_is ?_
              rw [List.getElem?_toArray, Ci.o, LeafT.at_am Al.o, Cq.o]
              rfl
            · refine hs.1.cell_is ?_
              rw [List.getElem?_toArray, Bb.o, LeafT.at_am HL.o, hAL]
            · rw [ndV, ncells, List.getElem?_append_left (List.getElem?_eq_some_iff.1 hu).1]; exact hu
            · rw [ndV, ncells, List.getElem?_append_left (List.getElem?_eq_some_iff.1 hu).1]; exact hu)
          have Di := Hh (show (Tryz.prog.info? 30).map (·.size) = some (ndV n1).length by rw [ndV_len hc.1]; kernel_rfl)
          have Dj := Hh (show (Tryz.prog.info? 30).map (·.size) = some (ndV n2).length by rw [ndV_len hd.1]; kernel_rfl)
          have E4 := Hh (show (Tryz.prog.info? 27).map (·.size) = some (bcells n1.h).length by rw [bcells_length, hc.1.1]; kernel_rfl)
          have E5 := Hh (show (Tryz.prog.info? 27).map (·.size) = some (bcells n2.h).length by rw [bcells_length, hd.1.1]; kernel_rfl)
          have Br := Hh (show b12 = true ↔ n1 = n2 by rw [Cc]; exact ndSame_iff)
          have Gq := Hh hbh
          have Fa := Hh hAL
          have hS0 : Below Ba.heap.size Ba Ba.drew := (Below.refl _ _).drew
          have Gt := Hh (show mo = AL → b12 = bh from fun e => by
            rw [Bool.eq_iff_iff, Br.o, Gq.o, decide_eq_true_eq]
            refine ⟨fun h => by rw [h], fun h => ?_⟩
            have hs := Fw.o.2 (by rw [e, Fa.o])
            cases n1; cases n2; simp_all)
          have Gy := Hh (show mo ≠ AL → b12 = false from fun e => by
            cases hbb : b12
            · rfl
            · exfalso
              have := Br.o.1 hbb
              exact e (by rw [Fa.o]; exact Fw.o.1 (by rw [this])))
          clear hm2 hms hn1 hn2 ha hb hc hd hAL Cc hbh
          go_upto_region 38 with (fail)
          by_cases hma : mo = AL
          · have heb := Gt.o hma
            have hzz : ((mo : Int) == (AL : Int)) = true := by rw [beq_iff_eq, hma]
            subst heb
            have hnd := Fx.o
            have hhe := Ft.o
            clear hma
            refine wp_region_noPanic ?_
            refine wp_region_held_drew (S := (fun v => Below Ba.heap.size Ba v)) (by kernel_rfl) hS0 (fun hH0 => ?_)
            refine tk 0 (v := (.agg (ndV n1).toArray)) rfl (yieldsIf_load_mid (by kernel_rfl) 30 (.tmp 22) rfl Cr 0 rfl (ndV n1) _ (fun w' h => (Bk.o _ h).1) Tryz.underlying30 rfl Di.o) hH0 ?_
            simp only [qc]
            refine tk 1 (v := (.agg (ndV n2).toArray)) rfl (yieldsIf_load_mid (by kernel_rfl) 30 (.tmp 24) rfl Cs 0 rfl (ndV n2) _ (fun w' h => (Bk.o _ h).2.1) Tryz.underlying30 rfl Dj.o) hH0 ?_
            simp only [qc]
            apply tl 2 rfl ?hv hH0 ?_
            case hv => intro w' hS; go_simp; try rfl
            simp only [qc]
            apply tl 3 rfl ?hv hH0 ?_
            case hv => intro w' hS; go_simp; try rfl
            simp only [qc]
            refine tl 4 (v := (.int .u64 (mo : Int))) rfl (by intro w' hS; have z0 := (Bk.o w' hS).2.2.1; go_simp; try rfl) hH0 ?_
            simp only [qc]
            apply tl 5 rfl ?hv hH0 ?_
            case hv => intro w' hS; go_simp; try rfl
            simp only [qc]
            refine tl 6 (v := (.int .u64 (AL : Int))) rfl (by intro w' hS; have z0 := (Bk.o w' hS).2.2.2.1; go_simp; try rfl) hH0 ?_
            simp only [qc]
            refine tl 7 (v := (.bool true)) rfl (by intro w' hS; go_simp; try (rw [hzz]; rfl)) hH0 ?_
            simp only [qc]
            apply tl 8 rfl ?hv hH0 ?_
            case hv => intro w' hS; go_simp; try rfl
            simp only [qc]
            apply tl 9 rfl ?hv hH0 ?_
            case hv => intro w' hS; go_simp; try rfl
            simp only [qc]
            refine tk 10 (v := (.agg (bcells n1.h).toArray)) rfl (yieldsIf_load_mid (by kernel_rfl) 27 (.tmp 168) rfl Cr 0 rfl (bcells n1.h) _ (fun w' h => (Bk.o _ h).2.2.2.2.1) Tryz.underlying27 rfl E4.o) hH0 ?_
            simp only [qc]
            apply tl 11 rfl ?hv hH0 ?_
            case hv => intro w' hS; go_simp; try rfl
            simp only [qc]
            refine tk 12 (v := (.agg (bcells n2.h).toArray)) rfl (yieldsIf_load_mid (by kernel_rfl) 27 (.tmp 170) rfl Cs 0 rfl (bcells n2.h) _ (fun w' h => (Bk.o _ h).2.2.2.2.2) Tryz.underlying27 rfl E5.o) hH0 ?_
            simp only [qc]
            apply tl 13 rfl ?hv hH0 ?_
            case hv => intro w' hS; go_simp; try rfl
            simp only [qc]
            apply tl 14 rfl ?hv hH0 ?_
            case hv => intro w' hS; go_simp; try rfl
            simp only [qc]
            refine tl 15 (v := (.bool true)) rfl (by intro w' hS; go_simp; try (cases b12 <;> rfl)) hH0 ?_
            simp only [qc]
            apply tl 16 rfl ?hv hH0 ?_
            case hv => intro w' hS; go_simp; try rfl
            simp only [qc]
            refine wpAnyH_done (by kernel_rfl) ?_ _
            refine NoPanic.normal ?_
            clear hS0 hzz hnd hhe
            go_wp2_with fail
            go_ret
            first | exact ⟨rfl, Au.o⟩ | exact ⟨rfl, Au.o.drew⟩
          · have heb := Gy.o hma
            have hzz : ((mo : Int) == (AL : Int)) = false := by rw [beq_eq_false_iff_ne]; omega
            subst heb
            have hnd := Fx.o
            have hhe := Ft.o
            clear hma
            refine wp_region_noPanic ?_
            refine wp_region_held_drew (S := (fun v => Below Ba.heap.size Ba v)) (by kernel_rfl) hS0 (fun hH0 => ?_)
            refine tk 0 (v := (.agg (ndV n1).toArray)) rfl (yieldsIf_load_mid (by kernel_rfl) 30 (.tmp 22) rfl Cr 0 rfl (ndV n1) _ (fun w' h => (Bk.o _ h).1) Tryz.underlying30 rfl Di.o) hH0 ?_
            simp only [qc]
            refine tk 1 (v := (.agg (ndV n2).toArray)) rfl (yieldsIf_load_mid (by kernel_rfl) 30 (.tmp 24) rfl Cs 0 rfl (ndV n2) _ (fun w' h => (Bk.o _ h).2.1) Tryz.underlying30 rfl Dj.o) hH0 ?_
            simp only [qc]
            apply tl 2 rfl ?hv hH0 ?_
            case hv => intro w' hS; go_simp; try rfl
            simp only [qc]
            apply tl 3 rfl ?hv hH0 ?_
            case hv => intro w' hS; go_simp; try rfl
            simp only [qc]
            refine tl 4 (v := (.int .u64 (mo : Int))) rfl (by intro w' hS; have z0 := (Bk.o w' hS).2.2.1; go_simp; try rfl) hH0 ?_
            simp only [qc]
            apply tl 5 rfl ?hv hH0 ?_
            case hv => intro w' hS; go_simp; try rfl
            simp only [qc]
            refine tl 6 (v := (.int .u64 (AL : Int))) rfl (by intro w' hS; have z0 := (Bk.o w' hS).2.2.2.1; go_simp; try rfl) hH0 ?_
            simp only [qc]
            refine tl 7 (v := (.bool false)) rfl (by intro w' hS; go_simp; try (rw [hzz]; rfl)) hH0 ?_
            simp only [qc]
            apply tl 8 rfl ?hv hH0 ?_
            case hv => intro w' hS; go_simp; try rfl
            simp only [qc]
            refine tk 9 (v := undef) rfl (Or.inr ⟨by kernel_rfl, rfl⟩) hH0 ?_
            simp only [qc]
            refine tk 10 (v := undef) rfl (Or.inr ⟨by kernel_rfl, rfl⟩) hH0 ?_
            simp only [qc]
            refine tk 11 (v := undef) rfl (Or.inr ⟨by kernel_rfl, rfl⟩) hH0 ?_
            simp only [qc]
            refine tk 12 (v := undef) rfl (Or.inr ⟨by kernel_rfl, rfl⟩) hH0 ?_
            simp only [qc]
            refine tk 13 (v := undef) rfl (Or.inr ⟨by kernel_rfl, rfl⟩) hH0 ?_
            simp only [qc]
            apply tl 14 rfl ?hv hH0 ?_
            case hv => intro w' hS; go_simp; try rfl
            simp only [qc]
            apply tl 15 rfl ?hv hH0 ?_
            case hv => intro w' hS; go_simp; try rfl
            simp only [qc]
            apply tl 16 rfl ?hv hH0 ?_
            case hv => intro w' hS; go_simp; try rfl
            simp only [qc]
            refine wpAnyH_done (by kernel_rfl) ?_ _
            refine NoPanic.normal ?_
            clear hS0 hzz hnd hhe
            go_wp2_with fail
            go_ret
            first | exact ⟨rfl, Au.o⟩ | exact ⟨rfl, Au.o.drew⟩
 · have h8' : (8 : Int) < (n : Int) := by omega
   go_wp2
   go_ret
   exact ⟨rfl, As.o⟩
end Go.Proofs.YtknfbccbdiidjaaGreatDoor
