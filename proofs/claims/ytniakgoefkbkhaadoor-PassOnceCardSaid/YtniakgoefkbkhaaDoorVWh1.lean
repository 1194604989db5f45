/- The walks of pass.whole and Check. -/
import Derived.Test.YtniakgoefkbkhaaDoorWs
import Derived.Test.YtniakgoefkbkhaaDoorVCm1
namespace Go.Proofs.YtniakgoefkbkhaaDoor
set_option linter.unusedVariables false
set_option linter.unusedSimpArgs false
open Go.ChangeShapes Go.WideShapes Go.ChangeAt Go.RowKit Go.Maps

theorem wholeAt_succ {id : List Nat} {ls ws : List LeafT} {k : Nat} {l v : LeafT} (h : wholeAt id ls ws k = 0) (hl : ls[k]? = some l) (hv : ws[k]? = some v) : wholeAt id ls ws (k + 1) = if l.id ≠ id then 21 else if l ≠ v then 30 else 0 := by
 rw [wholeAt, if_neg (by rw [h]; decide)]
 simp only [hl, hv]
theorem wholeAt_err {id : List Nat} {ls ws : List LeafT} {k : Nat} {e : Int} (h : wholeAt id ls ws k = e) (he : e ≠ 0) : ∀ j, k ≤ j → wholeAt id ls ws j = e := by
 intro j hj
 induction hj with
 | refl => exact h
 | step _ ih => rw [wholeAt, if_pos (by rw [ih]; exact he), ih]
theorem tl_keyed {K s0 : List Wd} (h8 : s0.length = 8) {ls : List LeafT} : ∀ (k : Nat) (T : List Lf), tlAt K s0 ls k = .ok T → Keyed (T.map (·.k)) ∧ sumT T < 18446744073709551616
 | 0, T, h => by
  injection h with h
  subst h
  exact ⟨⟨fun k hk => absurd hk List.not_mem_nil, List.nodup_nil⟩, by decide⟩
 | k + 1, T, h => by
  cases e : tlAt K s0 ls k with
  | error x => rw [tlAt_up e] at h; cases h
  | ok T0 =>
   obtain ⟨ih1, ih2⟩ := tl_keyed h8 k T0 e
   cases hl : ls[k]? with
   | none =>
    rw [tlAt, e] at h
    simp only [hl] at h
    injection h with h
    rw [← h]; exact ⟨ih1, ih2⟩
   | some l =>
    rw [tlAt_succ e hl, tlStep] at h
    split at h
    · cases h
    · split at h
      · rename_i h2
        injection h with h
        rw [← h, putN, if_pos h2]
        refine ⟨ih1.put (tagD_hash K s0 h8 _ _), ?_⟩
        have h3 := sum_put T0 (partL K s0 k l)
        have h4 : sumT T0 - wasS T0 (partL K s0 k l).k + (partL K s0 k l).s < 18446744073709551616 := by
         unfold putE at h2
         repeat' split at h2
         all_goals first | assumption | exact absurd h2 (by decide)
        have h5 := was_le T0 (partL K s0 k l).k
        omega
      · cases h
theorem tl_part_fits {K s0 : List Wd} (h8 : s0.length = 8) {ls : List LeafT} {k : Nat} {T : List Lf} (h : tlAt K s0 ls k = .ok T) : (partNd K s0 256 T).s = sumT T ∧ sumT T < 18446744073709551616 := by
 obtain ⟨h1, h2⟩ := tl_keyed h8 k T h
 exact ⟨part_sum K s0 256 T h1 (coh_top _), h2⟩
set_option maxRecDepth 100000 in
set_option maxHeartbeats 4000000 in
theorem psWhole_is (K s0 : List Wd) (w : World) (hT : Tabs K s0 w) (id : List Nat) (hid : IsHash id) (A : Option Addr) (n c : Nat) (ls : List LeafT) (hls : RowsAt LeafT.cells 99 w A n ls) (hok : ∀ l ∈ ls, l.ok) (hn : n ≤ 9223372036854775807) :
   Calls Tryd.prog 62 #[arr id, .slice A n c] w fun e w' => e = .returned (.int .i64 (wholeE K s0 id ls)) ∧ Below w.heap.size w w' := by
 obtain ⟨Z, hz, -, hzs, hzn, -⟩ := zero_leafT
 obtain ⟨LI, hLI⟩ : ∃ L, L = bcells id := ⟨_, rfl⟩
 unfold arr
 rw [← hLI]
 have hlow := hT.low
 have HT := Lib.hid hT
 have HLS := Lib.hid hls
 have HOK := Lib.hid hok
 have HLEN := Lib.hid hls.len
 have HLI := Lib.hid hLI
 have HID := Lib.hid hid
 have HAT := Lib.hid at_leaf
 have HL8 := Lib.hid hT.len
 have HZS := Lib.hid hzs
 have SZI := Lib.hid (show (Tryd.prog.info? 39).map (·.size) = some LI.length by rw [hLI, bcells_length, hid.1]; kernel_rfl)
 have SZH := Lib.hid (show ∀ d : List Nat, IsHash d → (Tryd.prog.info? 39).map (·.size) = some (bcells d).length from fun d hd => by rw [bcells_length, hd.1]; kernel_rfl)
 have SZF := Lib.hid (show ∀ l : LeafT, l.ok → (Tryd.prog.info? 81).map (·.size) = some l.cells.length from fun l hl => by rw [LeafT.len hl]; kernel_rfl)
 clear hT hls hok hLI hid hzs
 go_enter Tryd.func62, Tryd.ntmps62
 go_upto_region 1 with (fail)
 obtain ⟨W1, hW1⟩ : ∃ y, y = w.alloc (.cells LI.toArray 39) := ⟨_, rfl⟩
 have h1 : Has W1 w.heap.size 39 LI.toArray := by rw [hW1]; exact Has.new _ _ _
 have hb1 : Below w.heap.size w W1 := by rw [hW1]; exact (Below.refl _ _).alloc (Nat.le_refl _) _
 rw [← hW1]
 clear hW1
 have HTB := Lib.hid (show ∀ v : World, Below W1.heap.size W1 v → Tabs K s0 v from fun v hv => HT.out.below (hb1.trans (hv.mono hb1.size)) hlow)
 have HL1 := Lib.hid (HLS.out.below hb1)
 have HFINB := Lib.hid (show ∀ v, Below W1.heap.size W1 v → Below w.heap.size w v from fun v hv => hb1.trans (hv.mono hb1.size))
 obtain ⟨B, hB⟩ : ∃ b, b = w.heap.size := ⟨_, rfl⟩
 rw [← hB] at h1 ⊢
 have H1 := Lib.hid h1
 clear h1 hb1 hB
 by_cases hn0 : n = 0
 · have hE : wholeE K s0 id ls = 1 := by unfold wholeE; rw [if_pos (by rw [HLEN.out]; exact hn0)]
   have hn0' : ((n : Int) == 0) = true := by rw [beq_iff_eq]; omega
   have HE1 := Lib.hid hE
   clear hn0 hE
   go_wp2_with fail
   go_ret
   exact ⟨by rw [HE1.out]; rfl, HFINB.out _ (Below.refl _ _)⟩
 have hn0' : ((n : Int) == 0) = false := by rw [beq_eq_false_iff_ne]; omega
 by_cases hn6 : 256 < n
 · have hE : wholeE K s0 id ls = 4 := by unfold wholeE; rw [if_neg (by rw [HLEN.out]; exact hn0), if_pos (by rw [HLEN.out]; exact hn6)]
   have hn6' : (n : Int) > 256 := by omega
   have HE4 := Lib.hid hE
   clear hn0 hn6 hE
   go_wp2_with fail
   go_ret
   exact ⟨by rw [HE4.out]; rfl, HFINB.out _ (Below.refl _ _)⟩
 have hn6' : ¬ (n : Int) > 256 := by omega
 have HE := Lib.hid (show wholeE K s0 id ls = wholeEnd K s0 id ls (tlAt K s0 (placed ls) n) by unfold wholeE; rw [if_neg (by rw [HLEN.out]; exact hn0), if_neg (by rw [HLEN.out]; exact hn6), HLEN.out])
 obtain ⟨sb, so, hA1, hA2, hrr⟩ := HL1.out.at_ (by omega)
 subst hA1
 have HRR := Lib.hid hrr
 have hcall := lfParts_is K s0 W1 (HTB.out W1 (Below.refl _ _)) (some ⟨sb, so, none⟩) n c ls HL1.out HOK.out (by omega)
 have HCALL := Lib.hid hcall
 have HPOK := Lib.hid (placed_ok HOK.out (by rw [HLEN.out]; omega))
 clear hcall hrr hA2 hn6
 go_wp2_with fail
 refine HCALL.out.mono ?_
 rintro _ w5 ⟨hb5, hm⟩
 have HB5 := Lib.hid hb5
 obtain ⟨R, hR⟩ : ∃ R, R = tlAt K s0 (placed ls) n := ⟨_, rfl⟩
 rw [← hR] at hm HE
 clear hb5 HCALL
 cases R with
 | error x =>
   dsimp only at hm
   subst hm
   have hx2 : (x != 0) = true := by rw [bne_iff_ne]; exact fun e => by subst e; exact tlAt_nz hR.symm
   have HEX := Lib.hid (show wholeE K s0 id ls = x from HE.out)
   clear hR
   go_wp2_with fail
   go_ret
   exact ⟨by rw [HEX.out]; rfl, HFINB.out _ HB5.out⟩
 | ok T =>
 dsimp only at hm
 obtain ⟨a1, cp, rfl, hown⟩ := hm
 obtain ⟨ws, hws⟩ : ∃ L, L = splitL (partNd K s0 256 T) (placed ls) := ⟨_, rfl⟩
 have hpart : (partNd K s0 256 T).s < 18446744073709551616 := by rw [(tl_part_fits HL8.out hR.symm).1]; exact (tl_part_fits HL8.out hR.symm).2
 have hwok : ∀ l ∈ ws, l.ok := by rw [hws]; exact split_ok (part_hash K s0 HL8.out 256 T) hpart HPOK.out
 rw [← hws] at hown
 have hwl : ws.length = n := by rw [hws, split_len, placed_len, HLEN.out]
 obtain ⟨hrow, hfar⟩ := own_rows hown hwl (fun l hl => LeafT.len (hwok l hl))
 obtain ⟨wb, wo, rfl, hwb, hwr⟩ := hrow.at_ (by omega)
 have HWR := Lib.hid hwr
 have HWOK := Lib.hid hwok
 have HWL := Lib.hid hwl
 have HEW := Lib.hid (show wholeE K s0 id ls = wholeAt id ls ws n by rw [HE.out, hws]; unfold wholeEnd; rw [HLEN.out])
 have H15 := Lib.hid (H1.out.below HB5.out H1.out.lt)
 have HRR5 := Lib.hid (show ∀ v, Below w5.heap.size w5 v → ∀ (i : Nat) (x : LeafT), ls[i]? = some x → v.rangeAt sb (so + i * 99) x.cells from fun v hv i x hx => rangeAt_kept (HRR.out i x hx) (Kept.of_below (S := fun _ => False) (HB5.out.trans (hv.mono HB5.out.size))) (fun h => h))
 have hx0 : ((0 : Int) != 0) = false := by decide
 clear hR hws hpart hwok hown hwl hrow hfar hwb hwr HRR
 go_wp2_with fail
 go_loopw [27] (fun iv wr => ∃ k : Nat, iv = .int .i64 (k : Int) ∧ k ≤ n ∧ wholeAt id ls ws k = 0 ∧ Below w5.heap.size w5 wr) (fun iv _ => n - (intOf iv).toNat)
 case atStart => exact ⟨0, rfl, Nat.zero_le _, rfl, Below.refl _ _⟩
 case round =>
   obtain ⟨k, rfl, hk, hwa, hbel⟩ := hrel
   have HBE := Lib.hid hbel
   have HWA := Lib.hid hwa
   clear hbel hwa
   by_cases hlt : k < n
   · have hlt' : (k : Int) < (n : Int) := by omega
     obtain ⟨x, hx⟩ : ∃ x, ls[k]? = some x := ⟨_, List.getElem?_eq_getElem (by rw [HLEN.out]; exact hlt)⟩
     obtain ⟨y, hy⟩ : ∃ y, ws[k]? = some y := ⟨_, List.getElem?_eq_getElem (by rw [HWL.out]; exact hlt)⟩
     have hxok := HOK.out x (List.mem_of_getElem? hx)
     have hyok := HWOK.out y (List.mem_of_getElem? hy)
     have hrw := HRR5.out wr HBE.out k x hx
     have HNX := Lib.hid (wholeAt_succ HWA.out hx hy)
     obtain ⟨XC, hXC⟩ : ∃ L, L = x.cells := ⟨_, rfl⟩
     obtain ⟨YC, hYC⟩ : ∃ L, L = y.cells := ⟨_, rfl⟩
     rw [← hXC] at hrw
     have hl99 : XC.length = 99 := by rw [hXC]; exact LeafT.len hxok
     have HRW := Lib.hid hrw
     have SZ := Lib.hid (show (Tryd.prog.info? 81).map (·.size) = some XC.length by rw [hXC]; exact SZF.out x hxok)
     have SZY := Lib.hid (show (Tryd.prog.info? 81).map (·.size) = some YC.length by rw [hYC]; exact SZF.out y hyok)
     have SZA := Lib.hid (show (Tryd.prog.info? 81).map (·.size) = some XC.toArray.size by rw [List.size_toArray]; exact SZ.out)
     have HZZ := Lib.hid (show Z.size = XC.toArray.size by rw [HZS.out, List.size_toArray, hl99])
     have HONE := Lib.hid (show XC.toArray.all (·.oneCell') = true by rw [hXC]; exact LeafT.one x)
     have HNW := Lib.hid (show ∀ C, Has ((wr.alloc (.cells Z 81)).setRow wr.heap.size C) wr.heap.size 81 C ∧ Below wr.heap.size wr ((wr.alloc (.cells Z 81)).setRow wr.heap.size C) from fun C => by
      rw [World.setRow_alloc_new]
      exact ⟨Has.new wr _ _, (Below.refl _ _).alloc (Nat.le_refl _) _⟩)
     have HXOK := Lib.hid hxok
     have HX := Lib.hid hx
     have EXC := Lib.hid hXC
     have hat := HAT.out sb so n c k hlt
     have heql : ∀ v, (Op.equalIn 10000 81 (.agg XC.toArray) (.agg YC.toArray)).run Tryd.prog v = .ok (decide (x = y)) v := fun v => by rw [hXC, hYC]; exact le_eq x y hxok hyok v
     have HYR := Lib.hid (show ∀ v, Below w5.heap.size w5 v → v.rangeAt wb (wo + k * 99) YC from fun v hv => by rw [hYC]; exact rangeAt_kept (HWR.out k y hy) (Kept.of_below (S := fun _ => False) hv) (fun h => h))
     obtain ⟨qe, hqe⟩ : ∃ q, q = decide (x = y) := ⟨_, rfl⟩
     rw [← hqe] at heql
     have HQE := Lib.hid hqe
     have HEQL := Lib.hid heql
     have HLTK := Lib.hid hlt
     clear hrw hl99 hxok hyok hx hy hXC hYC hqe heql
     go_upto_region 11 with (first
      | (refine wpList_load_mid rfl 81 (.tmp 30) rfl sb (so + k * 99) rfl XC _ HRW.out Tryd.underlying81 rfl SZ.out ?_)
      | (refine wpList_store_row rfl 81 (.tmp 8) (.tmp 31) rfl wr.heap.size XC.toArray rfl rfl 81 Z (heap_alloc_new wr _) SZA.out HZZ.out HONE.out ?_))
     obtain ⟨h3, hk3⟩ := HNW.out XC.toArray
     have hb3 := HBE.out.trans (hk3.mono HBE.out.size)
     clear HNW hk3 hat
     generalize (wr.alloc (.cells Z 81)).setRow wr.heap.size XC.toArray = W9 at h3 hb3 ⊢
     generalize wr.heap.size = G at h3 ⊢
     have HB3 := Lib.hid hb3
     have H3 := Lib.hid h3
     have HFE := Lib.hid (show ∀ e v, e ≠ 0 → wholeAt id ls ws (k + 1) = e → Below w5.heap.size w5 v → Below w.heap.size w v ∧ wholeE K s0 id ls = e from fun e v he hw hv => ⟨HFINB.out v (HB5.out.trans (hv.mono HB5.out.size)), by rw [HEW.out]; exact wholeAt_err hw he n HLTK.out⟩)
     have HRI := Lib.hid (show W9.rangeAt G 0 (bcells x.id) from fun j u hu => by
      have hj : j < 32 := by have := (List.getElem?_eq_some_iff.1 hu).1; rw [bcells_length, HXOK.out.id.1] at this; exact this
      rw [Nat.zero_add]
      exact h3.cell_is (by rw [List.getElem?_toArray, EXC.out, LeafT.at_id HXOK.out j hj, ← hu, bcells_get _ j (by rw [HXOK.out.id.1]; exact hj)]))
     have HI9 := Lib.hid (H15.out.below hb3 H15.out.lt).row0
     obtain ⟨qi, hqi⟩ : ∃ q, q = decide (x.id = id) := ⟨_, rfl⟩
     have heqi : ∀ v, (Op.equalIn 10000 39 (.agg (bcells x.id).toArray) (.agg LI.toArray)).run Tryd.prog v = .ok qi v := fun v => by rw [HLI.out, hqi]; exact hash_eqW _ _ HXOK.out.id HID.out v
     have HQI := Lib.hid hqi
     clear h3 hb3 hqi hlt
     cases qi with
     | false =>
      have HQ := Lib.hid (HFE.out 21 W9 (by decide) (by rw [HNX.out, if_pos (of_decide_eq_false HQI.out.symm)]) HB3.out)
      go_wp2_with (first
       | (refine wpList_load_mid rfl 39 (.tmp 32) rfl G 0 rfl (bcells x.id) _ HRI.out Tryd.underlying39 rfl (SZH.out _ HXOK.out.id) ?_)
       | (refine wpList_load_mid rfl 39 (.tmp 2) rfl B 0 rfl LI _ HI9.out Tryd.underlying39 rfl SZI.out ?_))
      go_ret
      exact ⟨by rw [HQ.out.2]; rfl, HQ.out.1⟩
     | true =>
      have HST := Lib.hid (show wholeAt id ls ws (k + 1) = if x ≠ y then 30 else 0 by rw [HNX.out, if_neg (by simpa using of_decide_eq_true HQI.out.symm)])
      go_upto_region 13 with (first
       | (refine wpList_load_mid rfl 39 (.tmp 32) rfl G 0 rfl (bcells x.id) _ HRI.out Tryd.underlying39 rfl (SZH.out _ HXOK.out.id) ?_)
       | (refine wpList_load_mid rfl 39 (.tmp 2) rfl B 0 rfl LI _ HI9.out Tryd.underlying39 rfl SZI.out ?_))
      have hS0 : Below W9.heap.size W9 W9.drew := (Below.refl _ _).drew
      have HX13 := Lib.hid (show ∀ v, Below W9.heap.size W9 v → v.rangeAt G 0 XC ∧ v.rangeAt wb (wo + k * 99) YC from fun v hv => ⟨(H3.out.below hv H3.out.lt).row0, HYR.out v (HB3.out.trans (hv.mono HB3.out.size))⟩)
      have hatw := HAT.out wb wo n cp k HLTK.out
      have heql := HEQL.out
      clear heqi
      refine wp_region_noPanic ?_
      refine wp_region_held_drew (S := (fun v => Below W9.heap.size W9 v)) (by kernel_rfl) hS0 (fun hH0 => ?_)
      refine tk 0 (v := (.agg XC.toArray)) rfl (yieldsIf_load_mid (by kernel_rfl) 81 (.tmp 8) rfl G 0 rfl XC _ (fun w' h => (HX13.out _ h).1) Tryd.underlying81 rfl SZ.out) hH0 ?_
      simp only [Act.put, qa]
      apply tk 1 (v := _) rfl (Or.inl ⟨by kernel_rfl, ?hv⟩) hH0 ?_
      case hv => intro w' hS; have z0 := HAT.out wb wo n cp k HLTK.out w'; go_simp; try exact rfl
      simp only [Act.put, qa]
      apply tk 2 (v := _) rfl (Or.inl ⟨by kernel_rfl, ?hv⟩) hH0 ?_
      case hv => intro w' hS; have z0 := HAT.out wb wo n cp k HLTK.out w'; go_simp; try exact rfl
      simp only [Act.put, qa]
      apply tk 3 (v := _) rfl (Or.inl ⟨by kernel_rfl, ?hv⟩) hH0 ?_
      case hv => intro w' hS; have z0 := HAT.out wb wo n cp k HLTK.out w'; go_simp; try exact rfl
      simp only [Act.put, qa]
      refine tk 4 (v := (.agg YC.toArray)) rfl (yieldsIf_load_mid (by kernel_rfl) 81 (.tmp 39) rfl wb (wo + k * 99) rfl YC _ (fun w' h => (HX13.out _ h).2) Tryd.underlying81 rfl SZY.out) hH0 ?_
      simp only [Act.put, qa]
      apply tk 5 (v := _) rfl (Or.inl ⟨by kernel_rfl, ?hv⟩) hH0 ?_
      case hv => intro w' hS; have z0 := HAT.out wb wo n cp k HLTK.out w'; go_simp; try exact rfl
      simp only [Act.put, qa]
      refine wpAnyH_done (by kernel_rfl) ?_ _
      refine NoPanic.normal ?_
      have HBN := Lib.hid (show Below w5.heap.size w5 W9.drew from below_drew HB3.out)
      clear heql hatw hS0
      cases qe with
      | false =>
       have HQ := Lib.hid (HFE.out 30 W9.drew (by decide) (by rw [HST.out, if_pos (of_decide_eq_false HQE.out.symm)]) HBN.out)
       go_wp2_with fail
       go_ret
       exact ⟨by rw [HQ.out.2]; rfl, HQ.out.1⟩
      | true =>
       have HS0 := Lib.hid (show wholeAt id ls ws (k + 1) = 0 by rw [HST.out, if_neg (by simpa using of_decide_eq_true HQE.out.symm)])
       go_wp2_with fail
       go_roundw
       case rel => exact ⟨k + 1, by go_num, HLTK.out, HS0.out, HBN.out⟩
       case measure => have := HLTK.out; simp [intOf]; omega
   · obtain rfl : k = n := by omega
     have hno : ¬ (k : Int) < (k : Int) := by omega
     have HQ := Lib.hid (show wholeE K s0 id ls = 0 by rw [HEW.out, HWA.out])
     have HBF := Lib.hid (HFINB.out _ (HB5.out.trans (HBE.out.mono HB5.out.size)))
     go_wp2_with fail
     go_ret
     exact ⟨by rw [HQ.out]; rfl, HBF.out⟩
def passC (A : Option Addr) (n c : Nat) (B : Option Addr) (m d : Nat) : List Value := [.slice A n c, .slice B m d]
theorem leaf_id {w : World} {b o : Nat} {l : LeafT} (hl : l.ok) (h : w.rangeAt b o l.cells) : w.rangeAt b o (bcells l.id) := fun j u hu => by
 have hj : j < 32 := by have := (List.getElem?_eq_some_iff.1 hu).1; rw [bcells_length, hl.id.1] at this; exact this
 rw [h j _ (LeafT.at_id hl j hj), ← hu, bcells_get _ j (by rw [hl.id.1]; exact hj)]
theorem leaf_sp {w : World} {b o : Nat} {l : LeafT} (hl : l.ok) (h : w.rangeAt b o l.cells) : w.rangeAt b (o + 66) (ndV l.sp) := fun j u hu => by
 rw [Nat.add_assoc]
 exact h (66 + j) u (by rw [LeafT.at_sp hl j]; exact hu)
theorem leaf_at_zero (b o n c : Nat) (hn : 0 < n) (w : World) : (Instr.indexAt 69 (.slice (some ⟨b, o, none⟩) n c) (.int .i64 0)).run Tryd.prog w = .ok (.pointer (some ⟨b, o, none⟩)) w := by simpa using at_leaf b o n c 0 hn w
set_option maxRecDepth 100000 in
set_option maxHeartbeats 4000000 in
theorem psCheck_is (K s0 : List Wd) (w : World) (hT : Tabs K s0 w) (ov : Value) (al : List Nat → List Nat → List Nat → Bool) (hO : OffV w ov al) (A : Option Addr) (n c : Nat) (fs : List FromT) (hfs : RowsAt FromT.cells 164 w A n fs) (hok : ∀ f ∈ fs, f.ok) (hnc : n ≤ c) (hn : n ≤ 9223372036854775807)
   (B : Option Addr) (m d : Nat) (ls : List LeafT) (hls : RowsAt LeafT.cells 99 w B m ls) (hlk : ∀ l ∈ ls, l.ok) (hm : m ≤ 9223372036854775807) :
   Calls Tryd.prog 30 #[.agg (passC A n c B m d).toArray, ov] w fun e w' => e = .returned (.int .i64 (passE K s0 (fun f => al f.l.ow (whatK K s0 fs (ls.headD ⟨[], 0, [], 0, zNd⟩).sp) f.tok) fs ls)) ∧ Below w.heap.size w w' := by
 obtain ⟨zk, hzk, hzs, hzn⟩ := zero_hashT
 have hlow := hT.low
 have HT := Lib.hid hT
 have HO := Lib.hid hO
 have HFS := Lib.hid hfs
 have HOK := Lib.hid hok
 have HLS := Lib.hid hls
 have HLK := Lib.hid hlk
 have HZK := Lib.hid hzs
 have HLEN := Lib.hid hls.len
 obtain ⟨PC, hPC⟩ : ∃ L, L = (passC A n c B m d).toArray := ⟨_, rfl⟩
 have SZP := Lib.hid (show (Tryd.prog.info? 88).map (·.size) = some PC.size by rw [hPC]; kernel_rfl)
 rw [← hPC]
 obtain ⟨W1, hW1⟩ : ∃ y, y = w.alloc (.cells PC 88) := ⟨_, rfl⟩
 have h1 : Has W1 w.heap.size 88 PC := by rw [hW1]; exact Has.new _ _ _
 have hb1 : Below w.heap.size w W1 := by rw [hW1]; exact (Below.refl _ _).alloc (Nat.le_refl _) _
 have EPC := Lib.hid hPC
 have EW1 := Lib.hid hW1
 clear hT hO hfs hok hls hlk hzs hPC hW1
 go_enter Tryd.func30, Tryd.ntmps30
 go_upto_region 1 with (fail)
 rw [← EW1.out]
 have HTB := Lib.hid (show ∀ v : World, Below W1.heap.size W1 v → Tabs K s0 v from fun v hv => HT.out.below (hb1.trans (hv.mono hb1.size)) hlow)
 have HL1 := Lib.hid (HLS.out.below hb1)
 have HF1 := Lib.hid (HFS.out.below hb1)
 have HO1 := Lib.hid (HO.out.below hb1)
 have HFINB := Lib.hid (show ∀ v, Below W1.heap.size W1 v → Below w.heap.size w v from fun v hv => hb1.trans (hv.mono hb1.size))
 obtain ⟨P, hP⟩ : ∃ b, b = w.heap.size := ⟨_, rfl⟩
 rw [← hP] at h1 ⊢
 have HCELL := Lib.hid (show ∀ v, Below W1.heap.size W1 v → v.cell? ⟨P, 0, none⟩ = some (.slice A n c) ∧ v.cell? ⟨P, 1, none⟩ = some (.slice B m d) from fun v hv => ⟨(h1.below hv h1.lt).cell_is (by rw [EPC.out]; rfl), (h1.below hv h1.lt).cell_is (by rw [EPC.out]; rfl)⟩)
 obtain ⟨hc0, hc1⟩ := HCELL.out W1 (Below.refl _ _)
 clear h1 hb1 hP EW1
 by_cases hm0 : m = 0
 · have hls0 : ls = [] := List.eq_nil_of_length_eq_zero (by rw [HLEN.out]; exact hm0)
   have hm0' : ((m : Int) == 0) = true := by rw [beq_iff_eq]; omega
   have HE0 := Lib.hid (show ∀ al', passE K s0 al' fs ls = 1 from fun al' => by rw [hls0]; rfl)
   clear hm0 hls0
   go_wp2_with fail
   go_ret
   exact ⟨by rw [HE0.out]; rfl, HFINB.out _ (Below.refl _ _)⟩
 have hm0' : ((m : Int) == 0) = false := by rw [beq_eq_false_iff_ne]; omega
 have hm1 : 0 < m := by omega
 obtain ⟨sb, so, hA1, hA2, hrr⟩ := HL1.out.at_ hm1
 subst hA1
 obtain ⟨l0, ls', hlc⟩ : ∃ l ls', ls = l :: ls' := by
   cases hq : ls with
   | nil => have := HLEN.out; rw [hq] at this; simp at this; omega
   | cons l ls' => exact ⟨l, ls', rfl⟩
 have hl0 : l0.ok := HLK.out l0 (by rw [hlc]; exact List.mem_cons_self)
 have hr0 := hrr 0 l0 (by rw [hlc]; rfl)
 rw [Nat.zero_mul, Nat.add_zero] at hr0
 obtain ⟨al1, hal1⟩ : ∃ g : FromT → Bool, g = fun f => al f.l.ow (whatK K s0 fs l0.sp) f.tok := ⟨_, rfl⟩
 have HES := Lib.hid (show passE K s0 (fun f => al f.l.ow (whatK K s0 fs (ls.headD ⟨[], 0, [], 0, zNd⟩).sp) f.tok) fs ls = if wholeE K s0 l0.id ls ≠ 0 then wholeE K s0 l0.id ls else cameE K s0 al1 l0.id fs l0.sp by rw [hal1, hlc]; rfl)
 have HR0 := Lib.hid hr0
 have HL0 := Lib.hid hl0
 obtain ⟨LI, hLI⟩ : ∃ L, L = bcells l0.id := ⟨_, rfl⟩
 have hid := leaf_id hl0 hr0
 rw [← hLI] at hid
 have HID := Lib.hid hid
 have SZI := Lib.hid (show (Tryd.prog.info? 39).map (·.size) = some LI.length by rw [hLI, bcells_length, hl0.id.1]; kernel_rfl)
 have SZIA := Lib.hid (show (Tryd.prog.info? 39).map (·.size) = some LI.toArray.size by rw [List.size_toArray]; exact SZI.out)
 have SZN := Lib.hid (show (Tryd.prog.info? 79).map (·.size) = some (ndV l0.sp).length by rw [ndV_len hl0.sp]; kernel_rfl)
 have HZI := Lib.hid (show zk.size = LI.toArray.size by rw [HZK.out, List.size_toArray, hLI, bcells_length, hl0.id.1])
 have ONE := Lib.hid (show LI.toArray.all (·.oneCell') = true by rw [hLI]; exact all_oneCell_toArray (bcells_one _))
 have hat := leaf_at_zero sb so m d hm1
 have HAT := Lib.hid hat
 have HNW := Lib.hid (show ∀ C, Has ((W1.alloc (.cells zk 39)).setRow W1.heap.size C) W1.heap.size 39 C ∧ Below W1.heap.size W1 ((W1.alloc (.cells zk 39)).setRow W1.heap.size C) from fun C => by
   rw [World.setRow_alloc_new]
   exact ⟨Has.new W1 _ _, (Below.refl _ _).alloc (Nat.le_refl _) _⟩)
 have ELI := Lib.hid hLI
 have HWH := Lib.hid (show ∀ v, Below W1.heap.size W1 v → Calls Tryd.prog 62 #[.agg LI.toArray, .slice (some ⟨sb, so, none⟩) m d] v fun e w' => e = .returned (.int .i64 (wholeE K s0 l0.id ls)) ∧ Below v.heap.size v w' from fun v hv => by
   have := psWhole_is K s0 v (HTB.out v hv) l0.id HL0.out.id (some ⟨sb, so, none⟩) m d ls (HL1.out.below hv) HLK.out hm
   unfold arr at this
   rw [← ELI.out] at this
   exact this)
 have HCM := Lib.hid (show ∀ v, Below W1.heap.size W1 v → Calls Tryd.prog 31 #[ov, .agg LI.toArray, .slice A n c, .agg (ndV l0.sp).toArray] v fun e w' => e = .returned (.int .i64 (cameE K s0 al1 l0.id fs l0.sp)) ∧ Below v.heap.size v w' from fun v hv => by
   have := psCame_is K s0 v (HTB.out v hv) ov al (HO1.out.below hv) l0.id HL0.out.id A n c fs (HF1.out.below hv) HOK.out hnc hn l0.sp HL0.out.sp HL0.out.ss
   unfold arr at this
   rw [← ELI.out, ← hal1] at this
   exact this)
 clear hid hl0 hr0 hrr hA2 hLI hlc hal1 hm0
 go_upto_region 4 with (first
   | (refine wpList_load_mid rfl 39 (.tmp 14) rfl sb so rfl LI _ HID.out Tryd.underlying39 rfl SZI.out ?_)
   | (refine wpList_store_row rfl 39 (.tmp 5) (.tmp 15) rfl W1.heap.size LI.toArray rfl rfl 39 zk (heap_alloc_new W1 _) SZIA.out HZI.out ONE.out ?_))
 obtain ⟨h3, hb3⟩ := HNW.out LI.toArray
 clear HNW hc0 hc1 hat
 generalize (W1.alloc (.cells zk 39)).setRow W1.heap.size LI.toArray = W3 at h3 hb3 ⊢
 generalize W1.heap.size = G5 at h3 ⊢
 obtain ⟨hc0, hc1⟩ := HCELL.out W3 hb3
 have HB3 := Lib.hid hb3
 have H3 := Lib.hid h3
 have HRN := Lib.hid (show ∀ v, Below W1.heap.size W1 v → v.rangeAt sb (so + 66) (ndV l0.sp) from fun v hv => leaf_sp HL0.out (rangeAt_kept HR0.out (Kept.of_below (S := fun _ => False) hv) (fun h => h)))
 clear h3 hb3
 go_wp2_with (refine wpList_load_row rfl 39 (.tmp 5) rfl G5 rfl 39 LI.toArray (0, 0) _ H3.out Tryd.underlying39 rfl SZIA.out ?_)
 refine (HWH.out _ HB3.out).mono ?_
 rintro _ w4 ⟨rfl, hb4⟩
 obtain ⟨we, hwe⟩ : ∃ e, e = wholeE K s0 l0.id ls := ⟨_, rfl⟩
 rw [← hwe] at HES ⊢
 have HB4 := Lib.hid (HB3.out.trans (hb4.mono HB3.out.size))
 have H4 := Lib.hid (H3.out.below hb4 H3.out.lt)
 clear hb4 hwe hc0 hc1
 by_cases he : we = 0
 · have he2 : (we != 0) = false := by rw [bne_eq_false_iff_eq]; exact he
   have HQ := Lib.hid (show passE K s0 (fun f => al f.l.ow (whatK K s0 fs (ls.headD ⟨[], 0, [], 0, zNd⟩).sp) f.tok) fs ls = cameE K s0 al1 l0.id fs l0.sp by rw [HES.out, if_neg (by rw [he]; decide)])
   clear he
   go_upto_region 7 with (fail)
   have hS0 : Below w4.heap.size w4 w4.drew := (Below.refl _ _).drew
   have HX := Lib.hid (show ∀ v, Below w4.heap.size w4 v → (v.rangeAt G5 0 LI ∧ v.rangeAt sb (so + 66) (ndV l0.sp)) ∧ (v.cell? ⟨P, 0, none⟩ = some (.slice A n c) ∧ v.cell? ⟨P, 1, none⟩ = some (.slice (some ⟨sb, so, none⟩) m d)) from fun v hv => ⟨⟨(H4.out.below hv H4.out.lt).row0, HRN.out v (HB4.out.trans (hv.mono HB4.out.size))⟩, HCELL.out v (HB4.out.trans (hv.mono HB4.out.size))⟩)
   refine wp_region_noPanic ?_
   refine wp_region_held_drew (S := (fun v => Below w4.heap.size w4 v)) (by kernel_rfl) hS0 (fun hH0 => ?_)
   apply tk 0 (v := _) rfl (Or.inl ⟨by kernel_rfl, ?hv⟩) hH0 ?_
   case hv => intro w' hS; obtain ⟨-, z0, z1⟩ := HX.out w' hS; have z2 := HAT.out w'; go_simp; try exact rfl
   simp only [Act.put, qa]
   refine tk 1 (v := (.agg LI.toArray)) rfl (yieldsIf_load_mid (by kernel_rfl) 39 (.tmp 5) rfl G5 0 rfl LI _ (fun w' h => (HX.out _ h).1.1) Tryd.underlying39 rfl SZI.out) hH0 ?_
   simp only [Act.put, qa]
   apply tk 2 (v := _) rfl (Or.inl ⟨by kernel_rfl, ?hv⟩) hH0 ?_
   case hv => intro w' hS; obtain ⟨-, z0, z1⟩ := HX.out w' hS; have z2 := HAT.out w'; go_simp; try exact rfl
   simp only [Act.put, qa]
   apply tk 3 (v := _) rfl (Or.inl ⟨by kernel_rfl, ?hv⟩) hH0 ?_
   case hv => intro w' hS; obtain ⟨-, z0, z1⟩ := HX.out w' hS; have z2 := HAT.out w'; go_simp; try exact rfl
   simp only [Act.put, qa]
   apply tk 4 (v := _) rfl (Or.inl ⟨by kernel_rfl, ?hv⟩) hH0 ?_
   case hv => intro w' hS; obtain ⟨-, z0, z1⟩ := HX.out w' hS; have z2 := HAT.out w'; go_simp; try exact rfl
   simp only [Act.put, qa]
   apply tk 5 (v := _) rfl (Or.inl ⟨by kernel_rfl, ?hv⟩) hH0 ?_
   case hv => intro w' hS; obtain ⟨-, z0, z1⟩ := HX.out w' hS; have z2 := HAT.out w'; go_simp; try exact rfl
   simp only [Act.put, qa]
   apply tk 6 (v := _) rfl (Or.inl ⟨by kernel_rfl, ?hv⟩) hH0 ?_
   case hv => intro w' hS; obtain ⟨-, z0, z1⟩ := HX.out w' hS; have z2 := HAT.out w'; go_simp; try exact rfl
   simp only [Act.put, qa]
   apply tk 7 (v := _) rfl (Or.inl ⟨by kernel_rfl, ?hv⟩) hH0 ?_
   case hv => intro w' hS; obtain ⟨-, z0, z1⟩ := HX.out w' hS; have z2 := HAT.out w'; go_simp; try exact rfl
   simp only [Act.put, qa]
   refine tk 8 (v := (.agg (ndV l0.sp).toArray)) rfl (yieldsIf_load_mid (by kernel_rfl) 79 (.tmp 30) rfl sb (so + 66) rfl (ndV l0.sp) _ (fun w' h => (HX.out _ h).1.2) Tryd.underlying79 rfl SZN.out) hH0 ?_
   simp only [Act.put, qa]
   refine wpAnyH_ready (rs := [9]) (by kernel_rfl) (by simp) ?_
   refine AllReadyH.cons rfl (fun KK hKK => ?_) AllReadyH.nil
   go_simp
   refine (HCM.out _ (HB4.out.trans (hH0.mono HB4.out.size))).mono ?_
   rintro _ x9 ⟨rfl, hx9⟩
   have hs9 := hH0.trans (hx9.mono hH0.size)
   clear hx9
   refine Shut.out hKK _ _ hs9 (fun hH1 => ?_)
   clear hKK KK
   try simp only [Act.put, qa]
   apply tk 10 (v := _) rfl (Or.inl ⟨by kernel_rfl, ?hv⟩) hH1 ?_
   case hv => intro w' hS; obtain ⟨-, z0, z1⟩ := HX.out w' hS; have z2 := HAT.out w'; go_simp; try exact rfl
   simp only [Act.put, qa]
   refine wpAnyH_done (by kernel_rfl) ?_ _
   refine NoPanic.normal ?_
   have HF := Lib.hid (HFINB.out _ (HB4.out.trans (hs9.mono HB4.out.size)))
   clear hs9 hS0
   go_wp2_with fail
   go_ret
   exact ⟨by rw [HQ.out]; rfl, HF.out⟩
 · have he2 : (we != 0) = true := by rw [bne_iff_ne]; exact he
   have HQ := Lib.hid (show passE K s0 (fun f => al f.l.ow (whatK K s0 fs (ls.headD ⟨[], 0, [], 0, zNd⟩).sp) f.tok) fs ls = we by rw [HES.out, if_pos he])
   have HF := Lib.hid (HFINB.out _ HB4.out)
   clear he
   go_wp2_with fail
   go_ret
   exact ⟨by rw [HQ.out]; rfl, HF.out⟩
end Go.Proofs.YtniakgoefkbkhaaDoor

