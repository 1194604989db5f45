/- The walk of PassOnce. -/
import Derived.Test.YtniakgoefkbkhaaDoorWs
import Derived.Test.YtniakgoefkbkhaaDoorVPh1
namespace Go.Proofs.YtniakgoefkbkhaaDoor
set_option linter.unusedVariables false
set_option linter.unusedSimpArgs false
open Go.ChangeShapes Go.WideShapes Go.ChangeAt Go.RowKit Go.Maps

theorem rows_keptB {α : Type} {cl : α → List Value} {k : Nat} {S : Nat → Prop} {w w' : World} {A : Option Addr} {n : Nat} {xs : List α} (h : RowsAt cl k w A n xs) (hk : Kept S w w') (hs : ∀ j, S j → w.heap.size ≤ j) : RowsAt cl k w' A n xs :=
 ⟨h.len, h.sz, fun hn => by
  obtain ⟨b, o, e, hb, hr⟩ := h.at_ hn
  exact ⟨b, o, e, Nat.lt_of_lt_of_le hb hk.size, fun i x hx => rangeAt_kept (hr i x hx) hk (fun hS => by have := hs b hS; omega)⟩⟩
theorem made_who {w : World} {B : Nat} {A : Option Addr} {n c : Nat} {A2 : Option Addr} {m d : Nat} {who : List Nat} (hw : IsHash who) {p q : Bool} (h : Has w B 71 (madeCC A n c A2 m d who p q).toArray) :
  (w.cell? ⟨B, 0, none⟩ = some (.slice A n c) ∧ w.cell? ⟨B, 1, none⟩ = some (.slice A2 m d)) ∧ w.rangeAt B 2 (bcells who) := by
 refine ⟨⟨h.cell_is rfl, h.cell_is rfl⟩, fun j u hu => h.cell_is ?_⟩
 have hj : j < 32 := by have := (List.getElem?_eq_some_iff.1 hu).1; rw [bcells_length, hw.1] at this; exact this
 rw [List.getElem?_toArray, madeCC, show 2 + j = j + 1 + 1 by omega, List.getElem?_cons_succ, List.getElem?_cons_succ, List.getElem?_append_left (by rw [bcells_length, hw.1]; exact hj)]
 exact hu
theorem allowed_other (t ow wh : List Nat) {wh' : List Nat} (h : wh ≠ wh') (ow' t' : List Nat) : allowedG [(t, ow, wh)] ow' wh' t' = false := by
 unfold allowedG findG
 rw [decide_eq_false_iff_not]
 intro e
 split at e
 · injection e with e
   injection e with e1 e2
   exact h e2
 · cases e
theorem nd_set (r : Nd) (h : IsHash r.h) (n : Nat) : (ndV r).toArray.setIfInBounds 32 (.int .u64 (n : Int)) = (ndV ⟨r.h, n⟩).toArray := by
 rw [List.setIfInBounds_toArray]
 refine congrArg List.toArray ?_
 unfold ndV ncells
 rw [List.set_append_right _ _ (by rw [bcells_length, h.1]; exact Nat.le_refl _), bcells_length, h.1, Nat.sub_self]
 rfl
set_option maxRecDepth 100000 in
set_option maxHeartbeats 4000000 in
theorem passOnce_walk (w : World) (hT : Tabs KS SS w) (A : Option Addr) (n c : Nat) (A2 : Option Addr) (m d : Nat) (who : List Nat) (hw : IsHash who) (p q : Bool) (fs : List FromT) (ls : List LeafT) (hfs : RowsAt FromT.cells 164 w A n fs) (hok : ∀ f ∈ fs, f.ok) (hn : n ≤ 9223372036854775807) (hls : RowsAt LeafT.cells 99 w A2 m ls) (hlk : ∀ l ∈ ls, l.ok) (hm : m ≤ 9223372036854775807) (ot : Nat) (hot : ot < 18446744073709551616) :
   Calls Tryd.prog 4 #[.agg (madeCC A n c A2 m d who p q).toArray, .int .u64 (ot : Int)] w fun e w' => e = .returned (.bool true) ∧ Below w.heap.size w w' := by
 obtain ⟨zk, hzk, hzs, hzn⟩ := zero_hashT
 obtain ⟨zf, hzf, hzfs0, hzfn⟩ := zero_from
 obtain ⟨zn, hzn0, hzns, hznn, -⟩ := zero_node
 obtain ⟨ZF, hinff, hzfs⟩ := info_from
 obtain ⟨LS, hLS⟩ : ∃ L, L = bcells who := ⟨_, rfl⟩
 obtain ⟨MC, hMC⟩ : ∃ L, L = (madeCC A n c A2 m d who p q).toArray := ⟨_, rfl⟩
 rw [← hMC]
 have SZM := Lib.hid (show (Tryd.prog.info? 71).map (·.size) = some MC.size by rw [hMC, List.size_toArray, madeCC_len A n c A2 m d hw p q]; kernel_rfl)
 have SZSL := Lib.hid (show (Tryd.prog.info? 39).map (·.size) = some LS.length by rw [hLS, bcells_length, hw.1]; kernel_rfl)
 have hlow := hT.low
 have HT := Lib.hid hT
 have HFS := Lib.hid hfs
 have HOK := Lib.hid hok
 have HLS := Lib.hid hls
 have HLK := Lib.hid hlk
 have HWHO := Lib.hid hw
 have ELS := Lib.hid hLS
 have EMC := Lib.hid hMC
 have HINFF := Lib.hid hinff
 have HZF := Lib.hid hzfs
 have HZF0 := Lib.hid hzfs0
 have HZNS := Lib.hid hzns
 have HZS := Lib.hid hzs
 have HLEN := Lib.hid hfs.len
 have HLLEN := Lib.hid hls.len
 have H1 := Lib.hid (Has.new w 71 MC)
 have HB1 := Lib.hid (show Below w.heap.size w (w.alloc (.cells MC 71)) from (Below.refl _ _).alloc (Nat.le_refl _) _)
 clear hT hfs hok hls hlk hw hLS hMC hinff hzfs hzs hzfs0 hzns
 go_enter Tryd.func4, Tryd.ntmps4
 go_upto_region 1 with (fail)
 obtain ⟨W1, hW1⟩ : ∃ W, W = w.alloc (.cells MC 71) := ⟨_, rfl⟩
 rw [← hW1] at H1 HB1 ⊢
 clear hW1
 obtain ⟨B1, hB1⟩ : ∃ y, y = w.heap.size := ⟨_, rfl⟩
 rw [← hB1] at H1 ⊢
 have HBQ := Lib.hid hB1
 clear hB1
 go_wp2_with fail
 refine (headA_is _ (HT.out.below HB1.out hlow)).mono ?_
 rintro _ w2 ⟨rfl, hb2⟩
 have H2 := Lib.hid (H1.out.below hb2 H1.out.lt)
 have HB2 := Lib.hid (HB1.out.trans (hb2.mono HB1.out.size))
 have HBIG := Lib.hid (pbig_is w2 A n c A2 m d who HWHO.out p q fs (HFS.out.below HB2.out) HOK.out hn hm)
 rw [← EMC.out] at HBIG
 clear hb2 H1 HB1
 go_wp2_with (refine wpList_load_row rfl 71 (.tmp 2) rfl B1 rfl 71 MC (0, 0) _ H2.out Tryd.underlying71 rfl SZM.out ?_)
 refine HBIG.out.mono ?_
 rintro _ w3 ⟨⟨bb, rfl, hbig⟩, hb3⟩
 have HB3 := Lib.hid (HB2.out.trans (hb3.mono HB2.out.size))
 have H3 := Lib.hid (H2.out.below hb3 H2.out.lt)
 clear hb3 HBIG H2 HB2
 cases bb with
 | true =>
   go_wp2_with fail
   go_ret
   exact ⟨rfl, HB3.out⟩
 | false =>
 obtain ⟨hn6, hm5⟩ := hbig rfl
 clear hbig
 go_wp2_with fail
 refine (tkNew_is _).mono ?_
 rintro _ w4 ⟨g, mb, rfl, hoff, hg, hmb, hb4⟩
 have HO4 := Lib.hid (show OfficeAt w4 g mb [] 0 from ⟨hoff, fun x hx => absurd hx List.not_mem_nil, Nat.le_trans hlow (Nat.le_trans HB3.out.size hmb)⟩)
 have HG := Lib.hid (show w3.heap.size ≤ g ∧ w3.heap.size ≤ mb from ⟨hg, hmb⟩)
 have HB34 := Lib.hid hb4
 have HB4 := Lib.hid (HB3.out.trans (hb4.mono HB3.out.size))
 have h4 := H3.out.below hb4 H3.out.lt
 rw [EMC.out] at h4
 obtain ⟨⟨hc40, hc41⟩, hr4⟩ := made_who HWHO.out h4
 have HPC := Lib.hid (lfParts_is KS SS w4 (HT.out.below HB4.out hlow) A2 m d ls (HLS.out.below HB4.out) HLK.out (by omega))
 clear hoff hg hmb hb4 h4 hr4
 go_wp2_with fail
 refine HPC.out.mono ?_
 rintro _ w6 ⟨hb6, hm6⟩
 have HB46 := Lib.hid hb6
 have HB6 := Lib.hid (HB4.out.trans (hb6.mono HB4.out.size))
 have HO6 := Lib.hid (HO4.out.below hb6)
 obtain ⟨R, hR⟩ : ∃ R, R = tlAt KS SS (placed ls) m := ⟨_, rfl⟩
 rw [← hR] at hm6
 clear hc40 hc41 HPC
 cases R with
 | error x =>
   dsimp only at hm6
   subst hm6
   have hx2 : (x != 0) = true := by rw [bne_iff_ne]; exact fun e => by subst e; exact tlAt_nz hR.symm
   clear hR
   go_wp2_with fail
   go_ret
   exact ⟨rfl, HB6.out⟩
 | ok T =>
 dsimp only at hm6
 obtain ⟨a1, cp, rfl, hown⟩ := hm6
 have hx0 : ((0 : Int) != 0) = false := by decide
 by_cases hm0 : m = 0
 · have hm0' : ((m : Int) == 0) = true := by rw [beq_iff_eq]; omega
   clear hm0 hR hown
   go_wp2_with fail
   go_ret
   exact ⟨rfl, HB6.out⟩
 have hm0' : ((m : Int) == 0) = false := by rw [beq_eq_false_iff_ne]; omega
 have hmp : 0 < m := by omega
 have h6c := (H3.out.below HB34.out H3.out.lt).below hb6 (Nat.lt_of_lt_of_le H3.out.lt HB34.out.size)
 rw [EMC.out] at h6c
 obtain ⟨⟨hc60, hc61⟩, -⟩ := made_who HWHO.out h6c
 clear h6c
 by_cases hn0 : n = 0
 · have hn0' : ((n : Int) == 0) = true := by rw [beq_iff_eq]; omega
   clear hm0 hR hown hn0
   go_wp2_with fail
   go_ret
   exact ⟨rfl, HB6.out⟩
 have hn0' : ((n : Int) == 0) = false := by rw [beq_eq_false_iff_ne]; omega
 have hlen0 : 0 < ls.length := by rw [HLLEN.out]; exact hmp
 obtain ⟨b, rfl, hgb, hl, hrh, hrs, hr64, hso, hrow⟩ := ps_out HLK.out HLLEN.out hmp (by omega) hR.symm hown
 obtain ⟨sl, sls, hslq, hslp, -⟩ := split_head (r := partNd KS SS 256 T) (ls := ls) hlen0
 have hamS := ps_amS (r := partNd KS SS 256 T) ls
 obtain ⟨r, hr⟩ : ∃ r, r = partNd KS SS 256 T := ⟨_, rfl⟩
 rw [← hr] at hrs hrow hso hrh hr64 hslq hslp hamS
 have HPSUM := Lib.hid (show ∀ al fs', passE KS SS al fs' (splitL r (placed ls)) = 0 → amF' fs' = r.s from fun al fs' h => pass_sums hlen0 h)
 obtain ⟨outs, houts⟩ : ∃ L, L = splitL r (placed ls) := ⟨_, rfl⟩
 rw [← houts] at hso hrow hslq hamS HPSUM
 have HSO := Lib.hid hso
 have HROW := Lib.hid hrow
 have HSL := Lib.hid (And.intro hslq hslp)
 have HRS := Lib.hid (show amS outs = r.s by rw [hamS, hrs])
 have HRH := Lib.hid (And.intro hrh hr64)
 have HGB := Lib.hid (show g < b ∧ mb < b from by
   have q1 := HO4.out.at_.row.lt
   have q2 := HO4.out.at_.map.lt
   omega)
 have HOL := Lib.hid (show outs.length = m by rw [houts, split_len, placed_len]; exact HLLEN.out)
 have HM := Lib.hid (And.intro hn6 hm5)
 clear hown hgb hl hrh hrs hr64 hso hrow hslq hslp hr houts hR hamS hm0 hb6
 go_upto_region 9 with (fail)
 clear hx0 hm0' hn0' hc60 hc61
 obtain ⟨WH, hWH⟩ : ∃ D, D = whatK KS SS fs r := ⟨_, rfl⟩
 have hwh : IsHash WH := by rw [hWH]; exact tagD_hash KS SS (by decide) _ _
 obtain ⟨TK, hTK⟩ : ∃ D, D = tokenK KS SS who WH := ⟨_, rfl⟩
 have htk : IsHash TK := by rw [hTK]; exact tagD_hash KS SS (by decide) _ _
 obtain ⟨LK, hLK⟩ : ∃ L, L = bcells TK := ⟨_, rfl⟩
 obtain ⟨OW, hOW⟩ : ∃ D, D = ownerK KS SS who := ⟨_, rfl⟩
 have hl32 : LK.length = 32 := by rw [hLK, bcells_length, htk.1]
 have SZK := Lib.hid (show (Tryd.prog.info? 39).map (·.size) = some LK.toArray.size by rw [List.size_toArray, hl32]; kernel_rfl)
 have SZ2 := Lib.hid (show zk.size = LK.length by rw [HZS.out, hl32])
 have HONEK := Lib.hid (show LK.toArray.all (·.oneCell') = true by rw [hLK]; exact all_oneCell_toArray (bcells_one _))
 obtain ⟨LWH, hLWH⟩ : ∃ L, L = bcells WH := ⟨_, rfl⟩
 have hw32 : LWH.length = 32 := by rw [hLWH, bcells_length, hwh.1]
 have SZWH := Lib.hid (show (Tryd.prog.info? 39).map (·.size) = some LWH.toArray.size by rw [List.size_toArray, hw32]; kernel_rfl)
 have SZWL := Lib.hid (show (Tryd.prog.info? 39).map (·.size) = some LWH.length by rw [hw32]; kernel_rfl)
 have SZW2 := Lib.hid (show zk.size = LWH.length by rw [HZS.out, hw32])
 have HONEW := Lib.hid (show LWH.toArray.all (·.oneCell') = true by rw [hLWH]; exact all_oneCell_toArray (bcells_one _))
 have SZN := Lib.hid (show (Tryd.prog.info? 79).map (·.size) = some (ndV r).length by rw [ndV_len HRH.out.1]; kernel_rfl)
 have hk3 : ∀ v, Kept (fun j => j = g ∨ j = mb) w6 v → Kept (fun j => w3.heap.size ≤ j) w3 v := fun v hv => by
   have h1 : Kept (fun j => w3.heap.size ≤ j) w3 w6 := (Kept.of_below HB34.out).trans (Kept.of_below HB46.out)
   exact h1.trans (hv.mono (fun k _ e => by have := HG.out; rcases e with e | e <;> omega))
 have HK3 := Lib.hid hk3
 have HX9 := Lib.hid (show ∀ v, Kept (fun j => j = g ∨ j = mb) w6 v → ((v.cell? ⟨B1, 0, none⟩ = some (.slice A n c) ∧ v.cell? ⟨B1, 1, none⟩ = some (.slice A2 m d)) ∧ v.rangeAt B1 2 LS) ∧ v.rangeAt b 66 (ndV r) from fun v hv => by
   have hgb := HGB.out
   have hh := H3.out.kept (hk3 v hv) (by show ¬ w3.heap.size ≤ B1; have := H3.out.lt; omega)
   rw [EMC.out] at hh
   refine ⟨by rw [ELS.out]; exact made_who HWHO.out hh, ?_⟩
   obtain ⟨bb, bo', he, hbl, hrr⟩ := HROW.out.at_ hmp
   injection he with he
   injection he with he1 he2
   subst he1 he2
   have h0 := hrr 0 sl (by rw [HSL.out.1]; rfl)
   rw [Nat.zero_mul, Nat.add_zero] at h0
   have h1 := leaf_sp (HSO.out sl (by rw [HSL.out.1]; exact List.mem_cons_self)) h0
   rw [HSL.out.2, Nat.zero_add] at h1
   exact rangeAt_kept h1 hv (fun e => by rcases e with e | e <;> omega))
 have HTK := Lib.hid (show ∀ v, Kept (fun j => j = g ∨ j = mb) w6 v → Tabs KS SS v from fun v hv => (HT.out.below HB6.out hlow).kept hv (fun k e => by have := HG.out; have h2 := HB3.out.size; rcases e with e | e <;> omega))
 have HFR := Lib.hid (show ∀ v, Kept (fun j => j = g ∨ j = mb) w6 v → RowsAt FromT.cells 164 v A n fs from fun v hv => rows_keptB (HFS.out.below HB3.out) (hk3 v hv) (fun j h => h))
 have HWHAT := Lib.hid (show ∀ v, Kept (fun j => j = g ∨ j = mb) w6 v → Calls Tryd.prog 28 #[.slice A n c, .agg (ndV r).toArray] v fun e w' => e = .returned (.agg LWH.toArray) ∧ Below v.heap.size v w' from fun v hv => by
   have := psWhat_is KS SS v (HTK.out v hv) A n c fs (HFR.out v hv) HOK.out (by omega) r HRH.out.1 HRH.out.2
   unfold arr at this
   rw [← hWH, ← hLWH] at this
   exact this)
 have ELW := Lib.hid hLWH
 have EWH := Lib.hid hWH
 have HWHH := Lib.hid hwh
 have ETK := Lib.hid hTK
 have HTKH := Lib.hid htk
 have ELK := Lib.hid hLK
 have EOW := Lib.hid hOW
 have HAT0 := Lib.hid (leaf_at0 b m cp hmp)
 have HGL := Lib.hid (show g < w6.heap.size ∧ mb < w6.heap.size from ⟨HO6.out.at_.row.lt, HO6.out.at_.map.lt⟩)
 clear hWH hwh hTK htk hLK hl32 hOW hk3 hLWH hw32
 go_cut [8] from 38 (fun tv wx => ∃ G8, tv = .pointer (some ⟨G8, 0, none⟩) ∧ Has wx G8 39 LWH.toArray ∧ w6.heap.size ≤ G8 ∧ Below w6.heap.size w6 wx)
 case first =>
   have hS0 : Below w6.heap.size w6 w6.drew := (Below.refl _ _).drew
   refine wp_region_noPanic ?_
   refine wp_region_held_drew (S := (fun v => Below w6.heap.size w6 v)) (by kernel_rfl) hS0 (fun hH0 => ?_)
   apply tk 0 (v := _) rfl (Or.inl ⟨by kernel_rfl, ?hv⟩) hH0 ?_
   case hv => intro w' hS; have z0 := HAT0.out w'; obtain ⟨⟨⟨z1, z2⟩, -⟩, -⟩ := HX9.out w' (Kept.of_below hS); go_simp; try exact rfl
   simp only [Act.put, qa]
   apply tk 1 (v := _) rfl (Or.inl ⟨by kernel_rfl, ?hv⟩) hH0 ?_
   case hv => intro w' hS; have z0 := HAT0.out w'; obtain ⟨⟨⟨z1, z2⟩, -⟩, -⟩ := HX9.out w' (Kept.of_below hS); go_simp; try exact rfl
   simp only [Act.put, qa]
   apply tk 2 (v := _) rfl (Or.inl ⟨by kernel_rfl, ?hv⟩) hH0 ?_
   case hv => intro w' hS; have z0 := HAT0.out w'; obtain ⟨⟨⟨z1, z2⟩, -⟩, -⟩ := HX9.out w' (Kept.of_below hS); go_simp; try exact rfl
   simp only [Act.put, qa]
   apply tk 3 (v := _) rfl (Or.inl ⟨by kernel_rfl, ?hv⟩) hH0 ?_
   case hv => intro w' hS; have z0 := HAT0.out w'; obtain ⟨⟨⟨z1, z2⟩, -⟩, -⟩ := HX9.out w' (Kept.of_below hS); go_simp; try exact rfl
   simp only [Act.put, qa]
   apply tk 4 (v := _) rfl (Or.inl ⟨by kernel_rfl, ?hv⟩) hH0 ?_
   case hv => intro w' hS; have z0 := HAT0.out w'; obtain ⟨⟨⟨z1, z2⟩, -⟩, -⟩ := HX9.out w' (Kept.of_below hS); go_simp; try exact rfl
   simp only [Act.put, qa]
   refine tk 5 (v := (.agg (ndV r).toArray)) rfl (yieldsIf_load_mid (by kernel_rfl) 79 (.tmp 42) rfl b 66 rfl (ndV r) _ (fun w' h => (HX9.out _ (Kept.of_below h)).2) Tryd.underlying79 rfl SZN.out) hH0 ?_
   simp only [Act.put, qa]
   refine wpAnyH_ready (rs := [6, 7]) (by kernel_rfl) (by simp) ?_
   refine AllReadyH.cons rfl (fun KK hKK => ?_) (AllReadyH.cons rfl (fun KK hKK => ?_) AllReadyH.nil)
   · go_simp
     refine (HWHAT.out _ (Kept.of_below hH0)).mono ?_
     rintro _ x7 ⟨rfl, hx7⟩
     have hs7 : Below w6.heap.size w6 x7 := hH0.trans (hx7.mono hH0.size)
     try replace hz := hz.below hx7 hz.lt
     clear hx7
     refine Shut.out hKK _ _ hs7 (fun hH1 => ?_)
     clear hKK KK
     try simp only [Act.put, qa]
     refine wpAnyH_ready (rs := [7]) (by kernel_rfl) (by simp) ?_
     refine AllReadyH.cons rfl (fun KK hKK => ?_) AllReadyH.nil
     go_simp
     obtain ⟨xz, hxz⟩ : ∃ y, y = x7.alloc (.cells zk 39) := ⟨_, rfl⟩
     first | rw [← hxz] | (change KK _ (x7.alloc (.cells zk 39)); rw [← hxz])
     have hnxz : Below x7.heap.size x7 xz := by rw [hxz]; exact (Below.refl _ _).alloc (Nat.le_refl _) _
     have hz : Has xz x7.heap.size 39 zk := by rw [hxz]; exact Has.new _ _ _
     have hzb : w6.heap.size ≤ x7.heap.size := hH1.size
     obtain ⟨G8, hG8⟩ : ∃ y, y = x7.heap.size := ⟨_, rfl⟩
     first | rw [← hG8] | (have hq : w6.heap.size = G8 := hG8.symm; rw [hq]; clear hq)
     rw [← hG8] at hz hzb
     clear hG8
     have hsxz : Below w6.heap.size w6 xz := hH1.trans (hnxz.mono hH1.size)
     clear hxz hnxz
     refine Shut.out hKK _ _ hsxz (fun hH2 => ?_)
     clear hKK KK
     try simp only [Act.put, qa]
     refine wpAnyH_ready (rs := [8]) (by kernel_rfl) (by simp) ?_
     refine AllReadyH.cons rfl (fun KK hKK => ?_) AllReadyH.nil
     refine step_store_mid rfl 39 (.tmp 8) (.tmp 44) rfl G8 0 LWH.toArray rfl rfl (hz.there 0 _ (by rw [List.size_toArray, SZW2.out]; exact Nat.le_of_eq (Nat.zero_add _))) SZWH.out HONEW.out ?_
     have hset := set_box hH2 hz hzb hH2.size SZW2.out
     obtain ⟨xb, hxb⟩ : ∃ y, y = xz.setCells G8 0 LWH := ⟨_, rfl⟩
     rw [← hxb] at hset
     change KK _ (xz.setCells G8 0 LWH)
     rw [← hxb]
     have hsxb := hset.1
     clear hxb
     refine Shut.out hKK _ _ hsxb (fun hH3 => ?_)
     clear hKK KK
     try simp only [Act.put, qa]
     refine wpAnyH_done (by kernel_rfl) ?_ _
     refine NoPanic.normal ?_
     have HF := Lib.hid hset.2.1
     have HS := Lib.hid hsxb
     have HZ9 := Lib.hid hzb
     clear hset hsxb hz hzb
     go_wp2_with fail
     go_meet
     case rel => exact ⟨_, rfl, HF.out, HZ9.out, HS.out⟩
   · go_simp
     obtain ⟨xz, hxz⟩ : ∃ y, y = w6.drew.alloc (.cells zk 39) := ⟨_, rfl⟩
     first | rw [← hxz] | (change KK _ (w6.drew.alloc (.cells zk 39)); rw [← hxz])
     have hnxz : Below w6.drew.heap.size w6.drew xz := by rw [hxz]; exact (Below.refl _ _).alloc (Nat.le_refl _) _
     have hz : Has xz w6.drew.heap.size 39 zk := by rw [hxz]; exact Has.new _ _ _
     have hzb : w6.heap.size ≤ w6.drew.heap.size := hH0.size
     obtain ⟨G8, hG8⟩ : ∃ y, y = w6.drew.heap.size := ⟨_, rfl⟩
     first | rw [← hG8] | (have hq : w6.heap.size = G8 := hG8.symm; rw [hq]; clear hq)
     rw [← hG8] at hz hzb
     clear hG8
     have hsxz : Below w6.heap.size w6 xz := hH0.trans (hnxz.mono hH0.size)
     clear hxz hnxz
     refine Shut.out hKK _ _ hsxz (fun hH1 => ?_)
     clear hKK KK
     try simp only [Act.put, qa]
     refine wpAnyH_ready (rs := [6]) (by kernel_rfl) (by simp) ?_
     refine AllReadyH.cons rfl (fun KK hKK => ?_) AllReadyH.nil
     go_simp
     refine (HWHAT.out _ (Kept.of_below hH1)).mono ?_
     rintro _ x7 ⟨rfl, hx7⟩
     have hs7 : Below w6.heap.size w6 x7 := hH1.trans (hx7.mono hH1.size)
     try replace hz := hz.below hx7 hz.lt
     clear hx7
     refine Shut.out hKK _ _ hs7 (fun hH2 => ?_)
     clear hKK KK
     try simp only [Act.put, qa]
     refine wpAnyH_ready (rs := [8]) (by kernel_rfl) (by simp) ?_
     refine AllReadyH.cons rfl (fun KK hKK => ?_) AllReadyH.nil
     refine step_store_mid rfl 39 (.tmp 8) (.tmp 44) rfl G8 0 LWH.toArray rfl rfl (hz.there 0 _ (by rw [List.size_toArray, SZW2.out]; exact Nat.le_of_eq (Nat.zero_add _))) SZWH.out HONEW.out ?_
     have hset := set_box hH2 hz hzb hH2.size SZW2.out
     obtain ⟨xb, hxb⟩ : ∃ y, y = x7.setCells G8 0 LWH := ⟨_, rfl⟩
     rw [← hxb] at hset
     change KK _ (x7.setCells G8 0 LWH)
     rw [← hxb]
     have hsxb := hset.1
     clear hxb
     refine Shut.out hKK _ _ hsxb (fun hH3 => ?_)
     clear hKK KK
     try simp only [Act.put, qa]
     refine wpAnyH_done (by kernel_rfl) ?_ _
     refine NoPanic.normal ?_
     have HF := Lib.hid hset.2.1
     have HS := Lib.hid hsxb
     have HZ9 := Lib.hid hzb
     clear hset hsxb hz hzb
     go_wp2_with fail
     go_meet
     case rel => exact ⟨_, rfl, HF.out, HZ9.out, HS.out⟩
 case rest =>
 obtain ⟨W8, hW8⟩ : ∃ y, y = wc := ⟨_, rfl⟩
 subst hW8
 obtain ⟨G8, rfl, h8, hg8, hb8⟩ := hcut
 have HG8 := Lib.hid hg8
 have HK8 := Lib.hid (show Kept (fun j => j = g ∨ j = mb) w6 W8 from Kept.of_below hb8)
 have H8 := Lib.hid h8
 have HO8 := Lib.hid (HO6.out.below hb8)
 have hlw := (HX9.out W8 HK8.out).1.2
 have HLW := Lib.hid hlw
 have hcl := tkAllow_is KS SS W8 (HTK.out W8 HK8.out) g mb [] 0 HO8.out (by decide) (by decide) who WH HWHO.out HWHH.out
 unfold arr at hcl
 rw [← ELS.out, ← ETK.out, ← ELK.out, ← ELW.out] at hcl
 have HCL := Lib.hid hcl
 clear h8 hg8 hb8 hlw hcl
 go_wp2_with (first
   | (refine wpList_load_mid rfl 39 (.tmp 46) rfl B1 2 rfl LS _ HLW.out Tryd.underlying39 rfl SZSL.out ?_)
   | (refine wpList_load_row rfl 39 (.tmp 8) rfl G8 rfl 39 LWH.toArray (0, 0) _ H8.out Tryd.underlying39 rfl SZWH.out ?_))
 refine HCL.out.mono ?_
 rintro _ w10 ⟨rfl, ⟨m9, ho10, -, -⟩, hk10⟩
 rw [allow_one, ← ETK.out, ← EOW.out] at ho10
 have HNW := Lib.hid (show ∀ C, Has ((w10.alloc (.cells zk 39)).setRow w10.heap.size C) w10.heap.size 39 C ∧ Below w10.heap.size w10 ((w10.alloc (.cells zk 39)).setRow w10.heap.size C) from fun C => by
   rw [World.setRow_alloc_new]
   exact ⟨Has.new w10 _ _, (Below.refl _ _).alloc (Nat.le_refl _) _⟩)
 have HZK2 := Lib.hid (show zk.size = LK.toArray.size by rw [List.size_toArray]; exact SZ2.out)
 have hh810 := H8.out.kept hk10 (fun e => by have := HGL.out; have h2 := HG8.out; rcases e with e | e <;> omega)
 have HH810 := Lib.hid hh810
 have HK10 := Lib.hid (HK8.out.trans hk10)
 have HO10 := Lib.hid ho10
 clear ho10 hk10 hh810 HCL
 go_upto_region 11 with (refine wpList_store_row rfl 39 (.tmp 9) (.tmp 49) rfl w10.heap.size LK.toArray rfl rfl 39 zk (heap_alloc_new w10 _) SZK.out HZK2.out HONEK.out ?_)
 obtain ⟨h9, hb9⟩ := HNW.out LK.toArray
 clear HNW
 generalize (w10.alloc (.cells zk 39)).setRow w10.heap.size LK.toArray = W9 at h9 hb9 ⊢
 have hk9 : Kept (fun j => j = g ∨ j = mb) w6 W9 := HK10.out.trans (Kept.of_below hb9)
 have ho9 := HO10.out.below hb9
 have HH89 := Lib.hid (HH810.out.below hb9 HH810.out.lt)
 have hg9 : w6.heap.size ≤ w10.heap.size := HK10.out.size
 generalize w10.heap.size = G6 at h9 hg9 ⊢
 clear hb9
 have hgl := HGL.out
 have HO9 := Lib.hid ho9
 have H9 := Lib.hid h9
 have HK9 := Lib.hid hk9
 have HFR9 := Lib.hid (HFR.out W9 hk9)
 have HT9 := Lib.hid (HTK.out W9 hk9)
 have HB9 := Lib.hid (show Below w.heap.size w W9 from HB6.out.trans (hk9.below HB6.out.size (fun k e => by have := HG.out; have h2 := HB3.out.size; rcases e with e | e <;> omega)))
 have HOUT9 := Lib.hid (HROW.out.kept hk9 (fun a ha ee => by injection ha with ha; subst ha; have := HGB.out; rcases ee with ee | ee <;> (dsimp only at ee; omega)))
 obtain ⟨⟨⟨hc90, hc91⟩, -⟩, -⟩ := HX9.out W9 hk9
 have HS9 := Lib.hid hk9.size
 clear h9 hg9 ho9 hk9
 have hal : Below W9.heap.size W9 (W9.alloc (.cells #[] 86)) := (Below.refl _ _).alloc (Nat.le_refl _) _
 have HAL := Lib.hid hal
 have HOE := Lib.hid (own_empty (w := W9) (Nat.le_refl W9.heap.size) 86 164)
 have HFR10 := Lib.hid (HFR9.out.below hal)
 have HO1X := Lib.hid (show ∀ x ∈ fs, ∀ u ∈ x.cells, u.oneCell' = true from fun x _ u hu => by
   have := FromT.one x
   rw [Array.all_eq_true'] at this
   exact this u (by simpa using hu))
 have hc90b := cell_held (Kept.of_below (S := fun _ => False) hal) hc90 (fun h => h)
 clear hal hc90 hc91
 go_upto_region 12 with (at_builtin; refine wpList_append_rows rfl (.tmp 50) (.tmp 52) 68 rfl W9.heap.size 86 (.agg ZF) 192 Tryd.underlying68 HINFF.out HZF.out (by decide) _ 0 [] rfl HOE.out A n c fs rfl HFR10.out HO1X.out (by have := HM.out; unfold maxLen; omega) (by have := HM.out; omega) HAL.out.size ?_; intro oa oc w10 hown10 hgr10)
 have HB10 := Lib.hid (HAL.out.grown hgr10 HAL.out.size (own_blk HOE.out))
 rw [List.nil_append, Nat.zero_add] at hown10
 try rw [Nat.zero_add]
 have HOWN10 := Lib.hid hown10
 clear hown10 hgr10 hc90b HAL HOE HFR10
 go_wp2_with fail
 go_loopw [56] (fun iv wr => ∃ k : Nat, iv = .int .i64 (k : Int) ∧ k ≤ n ∧ wr.ownsRow W9.heap.size 86 164 (.slice oa n oc) n ((turnTo (tkF TK) k fs).flatMap FromT.cells) ∧ Below W9.heap.size W9 wr) (fun iv _ => n - (intOf iv).toNat)
 case atStart => exact ⟨0, rfl, Nat.zero_le _, by rw [turnTo_zero]; exact HOWN10.out, HB10.out⟩
 case round =>
   clear HOWN10 HB10
   obtain ⟨k, rfl, hk, hown, hbel⟩ := hrel
   have HOK2 := Lib.hid (show ∀ x ∈ turnTo (tkF TK) k fs, x.ok from turnTo_ok (tkF TK) k fs FromT.ok HOK.out (fun i x hi hx => tkF_ok hx HTKH.out i))
   by_cases hlt : k < n
   · have hlt' : (k : Int) < (n : Int) := by omega
     obtain ⟨x, hx⟩ : ∃ x, fs[k]? = some x := ⟨_, List.getElem?_eq_getElem (by rw [HLEN.out]; exact hlt)⟩
     have hx2 := turnTo_get (tkF TK) k fs k x hx
     rw [if_neg (Nat.lt_irrefl k)] at hx2
     have hxok := HOK.out x (List.mem_of_getElem? hx)
     obtain ⟨b', hA, hbb, hth, hown2, hk2⟩ := own_set hown (by rw [turnTo_len]; exact HLEN.out) (tkFlen HOK2.out) hlt x (tkF TK k x) hx2 (FromT.len (tkF_ok hxok HTKH.out k)) 132 LK (by have := SZ2.out; rw [HZS.out] at this; omega) (by rw [ELK.out]; exact tkF_cells hxok HTKH.out k)
     subst hA
     rw [turnTo_succ (tkF TK) k fs x hx] at hown2
     have hat := at_from0 b' n oc k hlt
     have HTH := Lib.hid hth
     have HOW2 := Lib.hid hown2
     have HX9R := Lib.hid (H9.out.below hbel H9.out.lt)
     have HBE2 := Lib.hid (hbel.trans (hk2.below hbel.size (fun j e => by rw [show j = b' from e]; exact hbb)))
     have HLTK := Lib.hid hlt
     clear hown2 hk2 hown hx hx2 hxok hth hbel hlt hk
     go_wp2_with (first
       | (refine wpList_load_row rfl 39 (.tmp 9) rfl G6 rfl 39 LK.toArray (0, 0) _ HX9R.out Tryd.underlying39 rfl SZK.out ?_)
       | (refine wpList_store_mid rfl 39 (.tmp 63) (.tmp 61) rfl b' (k * 164 + 132) LK.toArray rfl rfl (by rw [List.size_toArray]; exact HTH.out) SZK.out HONEK.out ?_))
     go_roundw
     case rel => exact ⟨k + 1, by go_num, HLTK.out, HOW2.out, HBE2.out⟩
     case measure => have := HLTK.out; simp [intOf]; omega
   · obtain rfl : k = n := by omega
     have hno : ¬ (k : Int) < (k : Int) := by omega
     obtain ⟨fs', hfs'⟩ : ∃ F, F = tokd TK fs := ⟨_, rfl⟩
     have hown3 : wr.ownsRow W9.heap.size 86 164 (.slice oa k oc) k (fs'.flatMap FromT.cells) := by
       rw [hfs', tokd, HLEN.out]; exact hown
     have hok' : ∀ f ∈ fs', f.ok := by rw [hfs']; exact tokd_ok HTKH.out HOK.out
     have hlen' : fs'.length = k := by rw [hfs', tokd_len]; exact HLEN.out
     obtain ⟨hrow3, -⟩ := own_rows hown3 hlen' (tkFlen hok')
     have hcap : k ≤ oc := by
       rcases Nat.eq_zero_or_pos k with h0 | h0
       · omega
       · obtain ⟨_, cap, _, e0, -, -, hc, -⟩ := own_open hown3 h0
         injection e0 with _ _ e3
         omega
     obtain ⟨PC, hPC⟩ : ∃ L, L = (passC oa k oc (some ⟨b, 0, none⟩) m cp).toArray := ⟨_, rfl⟩
     have HBP := Lib.hid (show ∀ v, (Instr.build 88 #[(0, .slice oa k oc), (1, .slice (some ⟨b, 0, none⟩) m cp)]).run Tryd.prog v = .ok (.agg PC) v by rw [hPC]; exact build_pass _ _ _ _ _ _)
     have SZP := Lib.hid (show (Tryd.prog.info? 88).map (·.size) = some PC.size by rw [hPC]; kernel_rfl)
     have HZP := Lib.hid (show (#[Value.slice none 0 0, .slice none 0 0] : Array Value).size = PC.size by rw [hPC]; rfl)
     have HOP := Lib.hid (show PC.all (·.oneCell') = true by rw [hPC]; simp [passC, Value.oneCell'])
     have hzp := zero_pass
     have HNP := Lib.hid (show ∀ C, Has ((wr.alloc (.cells #[.slice none 0 0, .slice none 0 0] 88)).setRow wr.heap.size C) wr.heap.size 88 C ∧ Below wr.heap.size wr ((wr.alloc (.cells #[.slice none 0 0, .slice none 0 0] 88)).setRow wr.heap.size C) from fun C => by
       rw [World.setRow_alloc_new]
       exact ⟨Has.new wr _ _, (Below.refl _ _).alloc (Nat.le_refl _) _⟩)
     have EPC := Lib.hid hPC
     have HR3 := Lib.hid hrow3
     have HCAP := Lib.hid hcap
     have HOK' := Lib.hid hok'
     have HLEN' := Lib.hid hlen'
     have HBEL := Lib.hid hbel
     have EFS := Lib.hid hfs'
     clear hPC hrow3 hcap hok' hlen' hown3 hbel hown hfs' hlt hk
     go_upto_region 18 with (first
       | (refine wpList_build_run rfl 88 #[(0, .tmp 65), (1, .tmp 66)] rfl #[(0, .slice oa k oc), (1, .slice (some ⟨b, 0, none⟩) m cp)] (by kernel_rfl) (.agg PC) (HBP.out _) ?_)
       | (refine wpList_store_row rfl 88 (.tmp 12) (.tmp 67) rfl wr.heap.size PC rfl rfl 88 #[.slice none 0 0, .slice none 0 0] (heap_alloc_new wr _) SZP.out HZP.out HOP.out ?_))
     obtain ⟨h8, hb8⟩ := HNP.out PC
     clear HNP
     generalize (wr.alloc (.cells #[.slice none 0 0, .slice none 0 0] 88)).setRow wr.heap.size PC = W16 at h8 hb8 ⊢
     have hb916 := HBEL.out.trans (hb8.mono HBEL.out.size)
     have hr16 := HR3.out.below hb8
     generalize wr.heap.size = B9 at h8 ⊢
     have HB16 := Lib.hid (HB9.out.trans (hb916.mono HB9.out.size))
     have HO16 := Lib.hid (HO9.out.below hb916)
     have HOUT16 := Lib.hid (HOUT9.out.below hb916)
     have HH816 := Lib.hid (HH89.out.below hb916 HH89.out.lt)
     have HR16 := Lib.hid hr16
     have H16 := Lib.hid h8
     clear h8 hb8 hr16 hb916 HR3
     have hch := psCheck_is KS SS W16 (HT.out.below HB16.out hlow) (.pointer (some ⟨g, 0, none⟩)) _ (offV_some HO16.out) oa k oc fs' HR16.out HOK'.out HCAP.out hn (some ⟨b, 0, none⟩) m cp outs HOUT16.out HSO.out hm
     rw [← EPC.out] at hch
     obtain ⟨E, hE⟩ : ∃ E, E = passE KS SS (fun f => allowedG [(TK, OW, WH)] f.l.ow (whatK KS SS fs' (outs.headD ⟨[], 0, [], 0, zNd⟩).sp) f.tok) fs' outs := ⟨_, rfl⟩
     rw [← hE] at hch
     have HCH := Lib.hid hch
     have EE := Lib.hid hE
     clear hch hE
     go_wp2_with (refine wpList_load_row rfl 88 (.tmp 12) rfl B9 rfl 88 PC (0, 0) _ H16.out Tryd.underlying88 rfl SZP.out ?_)
     refine HCH.out.mono ?_
     rintro _ w18 ⟨rfl, hb18⟩
     have HB18 := Lib.hid (HB16.out.trans (hb18.mono HB16.out.size))
     by_cases hE0 : ¬ E = 0
     · have hE2 : (E != 0) = true := by rw [bne_iff_ne]; exact hE0
       clear hE0 hb18
       go_wp2_with fail
       go_ret
       exact ⟨rfl, HB18.out⟩
     have hE1 : E = 0 := Decidable.not_not.1 hE0
     have hE2 : (E != 0) = false := by rw [bne_eq_false_iff_eq]; exact hE1
     have hP0 := EE.out
     rw [hE1] at hP0
     have HCAME := Lib.hid (show ∀ al' sp', (∀ f ∈ fs', al' f = false) → cameE KS SS al' sl.id fs' sp' = 31 from fun al' sp' h => by
       have h2 := hP0.symm
       rw [HSL.out.1] at h2
       exact came_none h (pass_right h2).2)
     have HCAM0 := Lib.hid (show cameE KS SS (fun f => allowedG [(TK, OW, WH)] f.l.ow (whatK KS SS fs' r) f.tok) sl.id fs' r = 0 from by
       have h2 := hP0.symm
       rw [HSL.out.1] at h2
       have h3 := (pass_right h2).2
       rw [HSL.out.2] at h3
       have h4 : ((sl :: sls).headD ⟨[], 0, [], 0, zNd⟩).sp = r := HSL.out.2
       rw [h4] at h3
       exact h3)
     have HO18 := Lib.hid (HO16.out.below hb18)
     have HOUT18 := Lib.hid (HOUT16.out.below hb18)
     have HH818 := Lib.hid (HH816.out.below hb18 HH816.out.lt)
     have HR18 := Lib.hid (HR16.out.below hb18)
     clear hE0 hE1 hP0 hb18 HCH HO16 HOUT16 HH816 HR16 H16
     obtain ⟨bb, bo', he, hbl, hrr⟩ := HOUT18.out.at_ hmp
     injection he with he
     injection he with he1 he2
     subst he1 he2
     have h0 := hrr 0 sl (by rw [HSL.out.1]; rfl)
     rw [Nat.zero_mul, Nat.add_zero] at h0
     have hslok := HSO.out sl (by rw [HSL.out.1]; exact List.mem_cons_self)
     have h1 := leaf_sp hslok h0
     rw [HSL.out.2, Nat.zero_add] at h1
     have hid := leaf_id hslok h0
     have HSPR := Lib.hid h1
     have HIDR := Lib.hid hid
     have HSLOK := Lib.hid hslok
     have SZNA := Lib.hid (show (Tryd.prog.info? 79).map (·.size) = some (ndV r).toArray.size by rw [List.size_toArray]; exact SZN.out)
     have HZN := Lib.hid (show zn.size = (ndV r).toArray.size by rw [HZNS.out, List.size_toArray, ndV_len HRH.out.1])
     have HON := Lib.hid (show (ndV r).toArray.all (·.oneCell') = true from ndV_one r)
     have HNN := Lib.hid (show ∀ C, Has ((w18.alloc (.cells zn 79)).setRow w18.heap.size C) w18.heap.size 79 C ∧ Below w18.heap.size w18 ((w18.alloc (.cells zn 79)).setRow w18.heap.size C) from fun C => by
       rw [World.setRow_alloc_new]
       exact ⟨Has.new w18 _ _, (Below.refl _ _).alloc (Nat.le_refl _) _⟩)
     have hat0 := HAT0.out
     clear h0 h1 hid hslok hrr hbl
     go_upto_region 21 with (first
       | (refine wpList_load_mid rfl 79 (.tmp 74) rfl b 66 rfl (ndV r) _ HSPR.out Tryd.underlying79 rfl SZN.out ?_)
       | (refine wpList_store_row rfl 79 (.tmp 13) (.tmp 75) rfl w18.heap.size (ndV r).toArray rfl rfl 79 zn (heap_alloc_new w18 _) SZNA.out HZN.out HON.out ?_))
     obtain ⟨h13, hb13⟩ := HNN.out (ndV r).toArray
     clear HNN hE2
     generalize (w18.alloc (.cells zn 79)).setRow w18.heap.size (ndV r).toArray = W20 at h13 hb13 ⊢
     have hg13 : w18.heap.size ≤ w18.heap.size := Nat.le_refl _
     obtain ⟨G13, hG13⟩ : ∃ y, y = w18.heap.size := ⟨_, rfl⟩
     rw [← hG13] at h13 ⊢
     have hc32 : W20.cell? ⟨G13, 32, none⟩ = some (.int .u64 (r.s : Int)) := h13.cell_is (by rw [List.getElem?_toArray]; exact nd_s HRH.out.1)
     have hz32 : W20.frozen? ⟨G13, 32, none⟩ = false := h13.free 32
     obtain ⟨sp', hsp'⟩ : ∃ x : Nd, x = ⟨r.h, ot⟩ := ⟨_, rfl⟩
     obtain ⟨W21, hW21⟩ : ∃ y, y = W20.setCell ⟨G13, 32, none⟩ (.int .u64 (ot : Int)) := ⟨_, rfl⟩
     have h21 : Has W21 G13 79 (ndV sp').toArray := by rw [hW21, hsp', ← nd_set r HRH.out.1 ot]; exact h13.set 32 _
     have hb21 : Below w18.heap.size w18 W21 := by
       have hk : Kept (fun j => j = G13) W20 W21 := by rw [hW21]; exact (Kept.refl (fun j => j = G13) W20).set (p := ⟨G13, 32, none⟩) (.inl rfl) _
       exact hb13.trans (hk.below hb13.size (fun j e => by have e' : j = G13 := e; omega))
     have H21 := Lib.hid h21
     have HB21 := Lib.hid hb21
     have EW21 := Lib.hid hW21
     have ESP := Lib.hid hsp'
     have HSPH := Lib.hid (show IsHash sp'.h ∧ sp'.s < 18446744073709551616 by rw [hsp']; exact ⟨HRH.out.1, hot⟩)
     clear h13 hb13 hg13 hG13 hsp' hW21 h21 hb21
     go_upto_region 22 with (fail)
     rw [← EW21.out]
     clear hc32 hz32 EW21
     have HB21F := Lib.hid (HB18.out.trans (HB21.out.mono HB18.out.size))
     obtain ⟨WH2, hWH2⟩ : ∃ D, D = whatK KS SS fs' sp' := ⟨_, rfl⟩
     have hwh2 : IsHash WH2 := by rw [hWH2]; exact tagD_hash KS SS (by decide) _ _
     have HWT2 := Lib.hid (show ∀ v, Below W21.heap.size W21 v → Calls Tryd.prog 28 #[.slice oa k oc, .agg (ndV sp').toArray] v fun e w' => e = .returned (.agg (bcells WH2).toArray) ∧ Below v.heap.size v w' from fun v hv => by
       have := psWhat_is KS SS v (HT.out.below (HB21F.out.trans (hv.mono HB21F.out.size)) hlow) oa k oc fs' (HR18.out.below (HB21.out.trans (hv.mono HB21.out.size))) HOK'.out (by omega) sp' HSPH.out.1 HSPH.out.2
       unfold arr at this
       rw [← hWH2] at this
       exact this)
     have HH821 := Lib.hid (HH818.out.below HB21.out HH818.out.lt)
     have HX22 := Lib.hid (show ∀ v, Below W21.heap.size W21 v → v.rangeAt G13 0 (ndV sp') ∧ v.rangeAt G8 0 LWH from fun v hv => ⟨(H21.out.below hv H21.out.lt).row0, (HH821.out.below hv HH821.out.lt).row0⟩)
     have SZSP := Lib.hid (show (Tryd.prog.info? 79).map (·.size) = some (ndV sp').length by rw [ndV_len HSPH.out.1]; kernel_rfl)
     obtain ⟨qw, hqw⟩ : ∃ q, q = decide (WH2 = WH) := ⟨_, rfl⟩
     have heqw : ∀ v, (Op.equalIn 10000 39 (.agg (bcells WH2).toArray) (.agg LWH.toArray)).run Tryd.prog v = .ok qw v := fun v => by rw [ELW.out, hqw]; exact hash_eqW _ _ hwh2 HWHH.out v
     have EWH2 := Lib.hid hWH2
     have HQW := Lib.hid hqw
     have hS0 : Below W21.heap.size W21 W21.drew := (Below.refl _ _).drew
     clear hWH2 hwh2 hqw
     refine wp_region_noPanic ?_
     refine wp_region_held_drew (S := (fun v => Below W21.heap.size W21 v)) (by kernel_rfl) hS0 (fun hH0 => ?_)
     apply tk 0 (v := _) rfl (Or.inl ⟨by kernel_rfl, ?hv⟩) hH0 ?_
     case hv => intro w' hS; go_simp; try exact rfl
     simp only [Act.put, qa]
     refine tk 1 (v := (.agg (ndV sp').toArray)) rfl (yieldsIf_load_mid (by kernel_rfl) 79 (.tmp 13) rfl G13 0 rfl (ndV sp') _ (fun w' h => (HX22.out _ h).1) Tryd.underlying79 rfl SZSP.out) hH0 ?_
     simp only [Act.put, qa]
     refine tk 3 (v := (.agg LWH.toArray)) rfl (yieldsIf_load_mid (by kernel_rfl) 39 (.tmp 8) rfl G8 0 rfl LWH _ (fun w' h => (HX22.out _ h).2) Tryd.underlying39 rfl SZWL.out) hH0 ?_
     simp only [Act.put, qa]
     refine wpAnyH_ready (rs := [2]) (by kernel_rfl) (by simp) ?_
     refine AllReadyH.cons rfl (fun KK hKK => ?_) AllReadyH.nil
     go_simp
     refine (HWT2.out _ hH0).mono ?_
     rintro _ x2 ⟨rfl, hx2⟩
     have hs2 := hH0.trans (hx2.mono hH0.size)
     clear hx2
     refine Shut.out hKK _ _ hs2 (fun hH1 => ?_)
     clear hKK KK
     try simp only [Act.put, qa]
     apply tk 4 (v := _) rfl (Or.inl ⟨by kernel_rfl, ?hv⟩) hH1 ?_
     case hv => intro w' hS; go_simp; try exact rfl
     simp only [Act.put, qa]
     refine wpAnyH_done (by kernel_rfl) ?_ _
     refine NoPanic.normal ?_
     have HB22 := Lib.hid (HB21.out.trans (hs2.mono HB21.out.size))
     have HB22F := Lib.hid (HB21F.out.trans (hs2.mono HB21F.out.size))
     have HSP22 := Lib.hid (show ∀ v, Below x2.heap.size x2 v → (v.rangeAt G13 0 (ndV sp') ∧ v.rangeAt b 0 (bcells sl.id)) ∧ v.cell? ⟨b, 98, none⟩ = some (.int .u64 (r.s : Int)) from fun v hv => by
       have hb2 := HB22.out.trans (hv.mono HB22.out.size)
       refine ⟨⟨(HX22.out v (hs2.trans (hv.mono hs2.size))).1, rangeAt_kept HIDR.out (Kept.of_below (S := fun _ => False) hb2) (fun h => h)⟩, ?_⟩
       have := rangeAt_kept HSPR.out (Kept.of_below (S := fun _ => False) hb2) (fun h => h)
       exact this 32 _ (nd_s HRH.out.1))
     have SZID := Lib.hid (show (Tryd.prog.info? 39).map (·.size) = some (bcells sl.id).length by rw [bcells_length, HSLOK.out.id.1]; kernel_rfl)
     obtain ⟨C, hC⟩ : ∃ C, C = cameE KS SS (fun f => allowedG [(TK, OW, WH)] f.l.ow WH2 f.tok) sl.id fs' sp' := ⟨_, rfl⟩
     have HCM := Lib.hid (show ∀ v, Below x2.heap.size x2 v → Calls Tryd.prog 31 #[.pointer (some ⟨g, 0, none⟩), .agg (bcells sl.id).toArray, .slice oa k oc, .agg (ndV sp').toArray] v fun e w' => e = .returned (.int .i64 C) ∧ Below v.heap.size v w' from fun v hv => by
       have hb2 := HB22.out.trans (hv.mono HB22.out.size)
       have := psCame_is KS SS v (HT.out.below (HB22F.out.trans (hv.mono HB22F.out.size)) hlow) (.pointer (some ⟨g, 0, none⟩)) _ (offV_some (HO18.out.below hb2)) sl.id HSLOK.out.id oa k oc fs' (HR18.out.below hb2) HOK'.out HCAP.out hn sp' HSPH.out.1 HSPH.out.2
       unfold arr at this
       rw [← EWH2.out, ← hC] at this
       exact this)
     have EC := Lib.hid hC
     have hS1 : Below x2.heap.size x2 x2.drew := (Below.refl _ _).drew
     clear heqw hs2 hS0 hC
     cases qw with
     | false =>
       have hne : WH ≠ WH2 := fun e => of_decide_eq_false HQW.out.symm e.symm
       have hc31 : C = 31 := by rw [EC.out]; exact HCAME.out _ sp' (fun f _ => allowed_other TK OW WH hne f.l.ow f.tok)
       subst hc31
       clear hne
       go_upto_region 24 with (fail)
       refine wp_region_noPanic ?_
       refine wp_region_held_drew (S := (fun v => Below x2.heap.size x2 v)) (by kernel_rfl) hS1 (fun hH0 => ?_)
       apply tk 0 (v := _) rfl (Or.inl ⟨by kernel_rfl, ?hv⟩) hH0 ?_
       case hv => intro w' hS; have z0 := HAT0.out w'; go_simp; try exact rfl
       simp only [Act.put, qa]
       apply tk 1 (v := _) rfl (Or.inl ⟨by kernel_rfl, ?hv⟩) hH0 ?_
       case hv => intro w' hS; have z0 := HAT0.out w'; go_simp; try exact rfl
       simp only [Act.put, qa]
       apply tk 2 (v := _) rfl (Or.inl ⟨by kernel_rfl, ?hv⟩) hH0 ?_
       case hv => intro w' hS; have z0 := HAT0.out w'; go_simp; try exact rfl
       simp only [Act.put, qa]
       apply tk 3 (v := _) rfl (Or.inl ⟨by kernel_rfl, ?hv⟩) hH0 ?_
       case hv => intro w' hS; have z0 := HAT0.out w'; go_simp; try exact rfl
       simp only [Act.put, qa]
       refine tk 4 (v := (.agg (bcells sl.id).toArray)) rfl (yieldsIf_load_mid (by kernel_rfl) 39 (.tmp 104) rfl b 0 rfl (bcells sl.id) _ (fun w' h => (HSP22.out _ h).1.2) Tryd.underlying39 rfl SZID.out) hH0 ?_
       simp only [Act.put, qa]
       apply tk 5 (v := _) rfl (Or.inl ⟨by kernel_rfl, ?hv⟩) hH0 ?_
       case hv => intro w' hS; have z0 := HAT0.out w'; go_simp; try exact rfl
       simp only [Act.put, qa]
       refine tk 6 (v := (.agg (ndV sp').toArray)) rfl (yieldsIf_load_mid (by kernel_rfl) 79 (.tmp 13) rfl G13 0 rfl (ndV sp') _ (fun w' h => (HSP22.out _ h).1.1) Tryd.underlying79 rfl SZSP.out) hH0 ?_
       simp only [Act.put, qa]
       refine wpAnyH_ready (rs := [7]) (by kernel_rfl) (by simp) ?_
       refine AllReadyH.cons rfl (fun KK hKK => ?_) AllReadyH.nil
       go_simp
       refine (HCM.out _ hH0).mono ?_
       rintro _ x7 ⟨rfl, hx7⟩
       have hs7 := hH0.trans (hx7.mono hH0.size)
       clear hx7
       refine Shut.out hKK _ _ hs7 (fun hH1 => ?_)
       clear hKK KK
       try simp only [Act.put, qa]
       apply tk 8 (v := _) rfl (Or.inl ⟨by kernel_rfl, ?hv⟩) hH1 ?_
       case hv => intro w' hS; have z0 := HAT0.out w'; go_simp; try exact rfl
       simp only [Act.put, qa]
       apply tk 9 (v := _) rfl (Or.inl ⟨by kernel_rfl, ?hv⟩) hH1 ?_
       case hv => intro w' hS; have z0 := HAT0.out w'; go_simp; try exact rfl
       simp only [Act.put, qa]
       refine wpAnyH_done (by kernel_rfl) ?_ _
       refine NoPanic.normal ?_
       have HFN := Lib.hid (HB22F.out.trans (hs7.mono HB22F.out.size))
       clear hs7 hS1
       go_wp2_with fail
       go_ret
       exact ⟨rfl, HFN.out⟩
     | true =>
       by_cases hc0 : C = 0
       · subst hc0
         go_upto_region 23 with (fail)
         refine wp_region_noPanic ?_
         refine wp_region_held_drew (S := (fun v => Below x2.heap.size x2 v)) (by kernel_rfl) hS1 (fun hH0 => ?_)
         apply tk 0 (v := _) rfl (Or.inl ⟨by kernel_rfl, ?hv⟩) hH0 ?_
         case hv => intro w' hS; have z0 := HAT0.out w'; go_simp; try exact rfl
         simp only [Act.put, qa]
         apply tk 1 (v := _) rfl (Or.inl ⟨by kernel_rfl, ?hv⟩) hH0 ?_
         case hv => intro w' hS; have z0 := HAT0.out w'; go_simp; try exact rfl
         simp only [Act.put, qa]
         apply tk 2 (v := _) rfl (Or.inl ⟨by kernel_rfl, ?hv⟩) hH0 ?_
         case hv => intro w' hS; have z0 := HAT0.out w'; go_simp; try exact rfl
         simp only [Act.put, qa]
         apply tk 3 (v := _) rfl (Or.inl ⟨by kernel_rfl, ?hv⟩) hH0 ?_
         case hv => intro w' hS; have z0 := HAT0.out w'; go_simp; try exact rfl
         simp only [Act.put, qa]
         refine tk 4 (v := (.agg (bcells sl.id).toArray)) rfl (yieldsIf_load_mid (by kernel_rfl) 39 (.tmp 86) rfl b 0 rfl (bcells sl.id) _ (fun w' h => (HSP22.out _ h).1.2) Tryd.underlying39 rfl SZID.out) hH0 ?_
         simp only [Act.put, qa]
         apply tk 5 (v := _) rfl (Or.inl ⟨by kernel_rfl, ?hv⟩) hH0 ?_
         case hv => intro w' hS; have z0 := HAT0.out w'; go_simp; try exact rfl
         simp only [Act.put, qa]
         refine tk 6 (v := (.agg (ndV sp').toArray)) rfl (yieldsIf_load_mid (by kernel_rfl) 79 (.tmp 13) rfl G13 0 rfl (ndV sp') _ (fun w' h => (HSP22.out _ h).1.1) Tryd.underlying79 rfl SZSP.out) hH0 ?_
         simp only [Act.put, qa]
         refine wpAnyH_ready (rs := [7]) (by kernel_rfl) (by simp) ?_
         refine AllReadyH.cons rfl (fun KK hKK => ?_) AllReadyH.nil
         go_simp
         refine (HCM.out _ hH0).mono ?_
         rintro _ x7 ⟨rfl, hx7⟩
         have hs7 := hH0.trans (hx7.mono hH0.size)
         clear hx7
         refine Shut.out hKK _ _ hs7 (fun hH1 => ?_)
         clear hKK KK
         try simp only [Act.put, qa]
         apply tk 8 (v := _) rfl (Or.inl ⟨by kernel_rfl, ?hv⟩) hH1 ?_
         case hv => intro w' hS; have z0 := HAT0.out w'; go_simp; try exact rfl
         simp only [Act.put, qa]
         apply tk 9 (v := _) rfl (Or.inl ⟨by kernel_rfl, ?hv⟩) hH1 ?_
         case hv => intro w' hS; have z0 := HAT0.out w'; go_simp; try exact rfl
         simp only [Act.put, qa]
         refine tk 10 (v := undef) rfl (Or.inr ⟨by kernel_rfl, rfl⟩) hH1 ?_
         simp only [Act.put, qa]
         refine tk 11 (v := undef) rfl (Or.inr ⟨by kernel_rfl, rfl⟩) hH1 ?_
         simp only [Act.put, qa]
         refine tk 12 (v := undef) rfl (Or.inr ⟨by kernel_rfl, rfl⟩) hH1 ?_
         simp only [Act.put, qa]
         refine tk 13 (v := undef) rfl (Or.inr ⟨by kernel_rfl, rfl⟩) hH1 ?_
         simp only [Act.put, qa]
         refine tk 14 (v := undef) rfl (Or.inr ⟨by kernel_rfl, rfl⟩) hH1 ?_
         simp only [Act.put, qa]
         refine tk 15 (v := undef) rfl (Or.inr ⟨by kernel_rfl, rfl⟩) hH1 ?_
         simp only [Act.put, qa]
         refine tk 16 (v := undef) rfl (Or.inr ⟨by kernel_rfl, rfl⟩) hH1 ?_
         simp only [Act.put, qa]
         apply tk 17 (v := _) rfl (Or.inl ⟨by kernel_rfl, ?hv⟩) hH1 ?_
         case hv => intro w' hS; have z0 := HAT0.out w'; go_simp; try exact rfl
         simp only [Act.put, qa]
         apply tk 18 (v := _) rfl (Or.inl ⟨by kernel_rfl, ?hv⟩) hH1 ?_
         case hv => intro w' hS; have z0 := HAT0.out w'; go_simp; try exact rfl
         simp only [Act.put, qa]
         refine wpAnyH_done (by kernel_rfl) ?_ _
         refine NoPanic.normal ?_
         have HFN := Lib.hid (HB22F.out.trans (hs7.mono HB22F.out.size))
         clear hs7 hS1
         go_wp2_with fail
         go_ret
         exact ⟨rfl, HFN.out⟩
       · have hnot : ¬ ot = r.s := fun e => by
          apply hc0
          have hspr : sp' = r := by rw [ESP.out, e]
          rw [EC.out, EWH2.out, hspr]
          exact HCAM0.out
         have hc0' : (C == 0) = false := by rw [beq_eq_false_iff_ne]; exact hc0
         have hne2 : ((ot : Int) != (r.s : Int)) = true := by rw [bne_iff_ne]; omega
         clear hc0 hnot
         go_upto_region 23 with (fail)
         refine wp_region_noPanic ?_
         refine wp_region_held_drew (S := (fun v => Below x2.heap.size x2 v)) (by kernel_rfl) hS1 (fun hH0 => ?_)
         apply tk 0 (v := _) rfl (Or.inl ⟨by kernel_rfl, ?hv⟩) hH0 ?_
         case hv => intro w' hS; have z0 := HAT0.out w'; obtain ⟨-, z1⟩ := HSP22.out w' hS; go_simp; try exact rfl
         simp only [Act.put, qa]
         apply tk 1 (v := _) rfl (Or.inl ⟨by kernel_rfl, ?hv⟩) hH0 ?_
         case hv => intro w' hS; have z0 := HAT0.out w'; obtain ⟨-, z1⟩ := HSP22.out w' hS; go_simp; try exact rfl
         simp only [Act.put, qa]
         apply tk 2 (v := _) rfl (Or.inl ⟨by kernel_rfl, ?hv⟩) hH0 ?_
         case hv => intro w' hS; have z0 := HAT0.out w'; obtain ⟨-, z1⟩ := HSP22.out w' hS; go_simp; try exact rfl
         simp only [Act.put, qa]
         apply tk 3 (v := _) rfl (Or.inl ⟨by kernel_rfl, ?hv⟩) hH0 ?_
         case hv => intro w' hS; have z0 := HAT0.out w'; obtain ⟨-, z1⟩ := HSP22.out w' hS; go_simp; try exact rfl
         simp only [Act.put, qa]
         refine tk 4 (v := (.agg (bcells sl.id).toArray)) rfl (yieldsIf_load_mid (by kernel_rfl) 39 (.tmp 86) rfl b 0 rfl (bcells sl.id) _ (fun w' h => (HSP22.out _ h).1.2) Tryd.underlying39 rfl SZID.out) hH0 ?_
         simp only [Act.put, qa]
         apply tk 5 (v := _) rfl (Or.inl ⟨by kernel_rfl, ?hv⟩) hH0 ?_
         case hv => intro w' hS; have z0 := HAT0.out w'; obtain ⟨-, z1⟩ := HSP22.out w' hS; go_simp; try exact rfl
         simp only [Act.put, qa]
         refine tk 6 (v := (.agg (ndV sp').toArray)) rfl (yieldsIf_load_mid (by kernel_rfl) 79 (.tmp 13) rfl G13 0 rfl (ndV sp') _ (fun w' h => (HSP22.out _ h).1.1) Tryd.underlying79 rfl SZSP.out) hH0 ?_
         simp only [Act.put, qa]
         refine wpAnyH_ready (rs := [7]) (by kernel_rfl) (by simp) ?_
         refine AllReadyH.cons rfl (fun KK hKK => ?_) AllReadyH.nil
         go_simp
         refine (HCM.out _ hH0).mono ?_
         rintro _ x7 ⟨rfl, hx7⟩
         have hs7 := hH0.trans (hx7.mono hH0.size)
         clear hx7
         refine Shut.out hKK _ _ hs7 (fun hH1 => ?_)
         clear hKK KK
         try simp only [Act.put, qa]
         apply tk 8 (v := _) rfl (Or.inl ⟨by kernel_rfl, ?hv⟩) hH1 ?_
         case hv => intro w' hS; have z0 := HAT0.out w'; obtain ⟨-, z1⟩ := HSP22.out w' hS; go_simp; try exact rfl
         simp only [Act.put, qa]
         apply tk 9 (v := _) rfl (Or.inl ⟨by kernel_rfl, ?hv⟩) hH1 ?_
         case hv => intro w' hS; have z0 := HAT0.out w'; obtain ⟨-, z1⟩ := HSP22.out w' hS; go_simp; try exact rfl
         simp only [Act.put, qa]
         apply tk 10 (v := _) rfl (Or.inl ⟨by kernel_rfl, ?hv⟩) hH1 ?_
         case hv => intro w' hS; have z0 := HAT0.out w'; obtain ⟨-, z1⟩ := HSP22.out w' hS; go_simp; try exact rfl
         simp only [Act.put, qa]
         apply tk 11 (v := _) rfl (Or.inl ⟨by kernel_rfl, ?hv⟩) hH1 ?_
         case hv => intro w' hS; have z0 := HAT0.out w'; obtain ⟨-, z1⟩ := HSP22.out w' hS; go_simp; try exact rfl
         simp only [Act.put, qa]
         apply tk 12 (v := _) rfl (Or.inl ⟨by kernel_rfl, ?hv⟩) hH1 ?_
         case hv => intro w' hS; have z0 := HAT0.out w'; obtain ⟨-, z1⟩ := HSP22.out w' hS; go_simp; try exact rfl
         simp only [Act.put, qa]
         apply tk 13 (v := _) rfl (Or.inl ⟨by kernel_rfl, ?hv⟩) hH1 ?_
         case hv => intro w' hS; have z0 := HAT0.out w'; obtain ⟨-, z1⟩ := HSP22.out w' hS; go_simp; try exact rfl
         simp only [Act.put, qa]
         apply tk 14 (v := _) rfl (Or.inl ⟨by kernel_rfl, ?hv⟩) hH1 ?_
         case hv => intro w' hS; have z0 := HAT0.out w'; obtain ⟨-, z1⟩ := HSP22.out w' hS; go_simp; try exact rfl
         simp only [Act.put, qa]
         apply tk 15 (v := _) rfl (Or.inl ⟨by kernel_rfl, ?hv⟩) hH1 ?_
         case hv => intro w' hS; have z0 := HAT0.out w'; obtain ⟨-, z1⟩ := HSP22.out w' hS; go_simp; try exact rfl
         simp only [Act.put, qa]
         apply tk 16 (v := _) rfl (Or.inl ⟨by kernel_rfl, ?hv⟩) hH1 ?_
         case hv => intro w' hS; have z0 := HAT0.out w'; obtain ⟨-, z1⟩ := HSP22.out w' hS; go_simp; try exact rfl
         simp only [Act.put, qa]
         apply tk 17 (v := _) rfl (Or.inl ⟨by kernel_rfl, ?hv⟩) hH1 ?_
         case hv => intro w' hS; have z0 := HAT0.out w'; obtain ⟨-, z1⟩ := HSP22.out w' hS; go_simp; try exact rfl
         simp only [Act.put, qa]
         apply tk 18 (v := _) rfl (Or.inl ⟨by kernel_rfl, ?hv⟩) hH1 ?_
         case hv => intro w' hS; have z0 := HAT0.out w'; obtain ⟨-, z1⟩ := HSP22.out w' hS; go_simp; try exact rfl
         simp only [Act.put, qa]
         refine wpAnyH_done (by kernel_rfl) ?_ _
         refine NoPanic.normal ?_
         have HFN := Lib.hid (HB22F.out.trans (hs7.mono HB22F.out.size))
         clear hs7 hS1
         go_wp2_with fail
         go_ret
         exact ⟨rfl, HFN.out⟩
end Go.Proofs.YtniakgoefkbkhaaDoor

