/- The walk of PassSums. -/
import Derived.Test.YtniakgoefkbkhaaGreatDoorWs
import Derived.Test.YtniakgoefkbkhaaGreatDoorVPh1
import Derived.Test.YtniakgoefkbkhaaGreatDoorVNum4
namespace Go.Proofs.YtniakgoefkbkhaaGreatDoor
set_option linter.unusedVariables false
set_option linter.unusedSimpArgs false
open Go.ChangeShapes Go.WideShapes Go.ChangeAt Go.RowKit Go.Maps

theorem rows_keptB {α : Type} {cl : α → List Value} {k : Nat} {S : Nat → Prop} {w w' : World} {A : Option Addr} {n : Nat} {xs : List α} (h : RowsAt cl k w A n xs) (hk : Kept S w w') (hs : ∀ j, S j → w.heap.size ≤ j) : RowsAt cl k w' A n xs :=
 ⟨h.len, h.sz, fun hn => by
  obtain ⟨b, o, e, hb, hr⟩ := h.at_ hn
  exact ⟨b, o, e, Nat.lt_of_lt_of_le hb hk.size, fun i x hx => rangeAt_kept (hr i x hx) hk (fun hS => by have := hs b hS; omega)⟩⟩
theorem amF_take {fs : List FromT} {k : Nat} {f : FromT} (h : fs[k]? = some f) : amF' (fs.take (k + 1)) = amF' (fs.take k) + f.l.am := by
 unfold amF'
 rw [List.take_add_one, h, List.map_append, List.sum_append]
 simp
theorem amF_le {fs : List FromT} {M : Nat} (h : ∀ f ∈ fs, f.l.am ≤ M) : ∀ k, amF' (fs.take k) ≤ k * M
 | 0 => by simp [amF']
 | k + 1 => by
  have ih := amF_le h k
  rw [Nat.succ_mul]
  cases hf : fs[k]? with
  | none =>
   rw [List.take_add_one, hf]
   simp only [Option.toList_none, List.append_nil]
   omega
  | some f =>
   rw [amF_take hf]
   have := h f (List.mem_of_getElem? hf)
   omega
theorem amL_take {ls : List LeafT} {k : Nat} {l : LeafT} (h : ls[k]? = some l) : amS (ls.take (k + 1)) = amS (ls.take k) + l.am := by
 unfold amS
 rw [List.take_add_one, h, List.map_append, List.sum_append]
 simp
theorem amL_le {ls : List LeafT} {M : Nat} (h : ∀ l ∈ ls, l.am ≤ M) : ∀ k, amS (ls.take k) ≤ k * M
 | 0 => by simp [amS]
 | k + 1 => by
  have ih := amL_le h k
  rw [Nat.succ_mul]
  cases hf : ls[k]? with
  | none =>
   rw [List.take_add_one, hf]
   simp only [Option.toList_none, List.append_nil]
   omega
  | some f =>
   rw [amL_take hf]
   have := h f (List.mem_of_getElem? hf)
   omega
theorem amF_short {fs : List FromT} (h : ∀ f ∈ fs, f.ok) {k : Nat} (hk : k ≤ 6) : (digs (amF' (fs.take k))).length ≤ 1000 := by
 have h1 := amF_le (M := 18446744073709551616) (fun f hf => Nat.le_of_lt (h f hf).l.am) k
 have h2 : amF' (fs.take k) ≤ 6 * 18446744073709551616 := Nat.le_trans h1 (Nat.mul_le_mul_right _ hk)
 have : (digs (amF' (fs.take k))).length ≤ 9 := (digs_len _ 9).2 (Nat.lt_of_le_of_lt h2 (by decide))
 omega
theorem amL_short {ls : List LeafT} (h : ∀ l ∈ ls, l.ok) {k : Nat} (hk : k ≤ 6) : (digs (amS (ls.take k))).length ≤ 1000 := by
 have h1 := amL_le (M := 18446744073709551616) (fun f hf => Nat.le_of_lt (h f hf).am) k
 have h2 : amS (ls.take k) ≤ 6 * 18446744073709551616 := Nat.le_trans h1 (Nat.mul_le_mul_right _ hk)
 have : (digs (amS (ls.take k))).length ≤ 9 := (digs_len _ 9).2 (Nat.lt_of_le_of_lt h2 (by decide))
 omega
theorem am_short {x : Nat} (h : x < 18446744073709551616) : (digs x).length ≤ 1000 := by
 have : (digs x).length ≤ 8 := (digs_len _ 8).2 (Nat.lt_of_lt_of_le h (by decide))
 omega
theorem dig_empty {w : World} {g : Nat} {t : TypeId} (h : Has w g t #[]) : IsD w (.slice (some ⟨g, 0, none⟩) 0 0) (digs 0) := by
 rw [digs_zero]
 exact ⟨_, _, rfl, ⟨rfl, Nat.le_refl _, fun hn => absurd hn (Nat.lt_irrefl 0)⟩⟩
theorem IsD.form {w : World} {v : Value} {ds : List Nat} (h : IsD w v ds) : ∃ a c, v = .slice a ds.length c ∧ DigAt w a ds.length c ds := h
theorem cmp_self (x : Nat) : cmpN x x = 0 := by unfold cmpN; rw [if_neg (Nat.lt_irrefl x), if_pos rfl]
theorem made_who {w : World} {B : Nat} {A : Option Addr} {n c : Nat} {A2 : Option Addr} {m d : Nat} {who : List Nat} (hw : IsHash who) {p q : Bool} (h : Has w B 27 (madeCC A n c A2 m d who p q).toArray) :
  (w.cell? ⟨B, 0, none⟩ = some (.slice A n c) ∧ w.cell? ⟨B, 1, none⟩ = some (.slice A2 m d)) ∧ w.rangeAt B 2 (bcells who) := by
 refine ⟨⟨h.cell_is rfl, h.cell_is rfl⟩, fun j u hu => h.cell_is ?_⟩
 have hj : j < 32 := by have := (List.getElem?_eq_some_iff.1 hu).1; rw [bcells_length, hw.1] at this; exact this
 rw [List.getElem?_toArray, madeCC, show 2 + j = j + 1 + 1 by omega, List.getElem?_cons_succ, List.getElem?_cons_succ, List.getElem?_append_left (by rw [bcells_length, hw.1]; exact hj)]
 exact hu
set_option maxRecDepth 100000 in
set_option maxHeartbeats 4000000 in
theorem passSums_walk (w : World) (hT : Tabs KS SS w) (A : Option Addr) (n c : Nat) (A2 : Option Addr) (m d : Nat) (who : List Nat) (hw : IsHash who) (p q : Bool) (fs : List FromT) (ls : List LeafT) (hfs : RowsAt FromT.cells 164 w A n fs) (hok : ∀ f ∈ fs, f.ok) (hn : n ≤ 9223372036854775807) (hls : RowsAt LeafT.cells 99 w A2 m ls) (hlk : ∀ l ∈ ls, l.ok) (hm : m ≤ 9223372036854775807) :
   Calls Tryz.prog 3 #[.agg (madeCC A n c A2 m d who p q).toArray] w fun e w' => e = .returned (.bool true) ∧ Below w.heap.size w w' := by
 obtain ⟨zk, hzk, hzs, hzn⟩ := zero_hashT
 obtain ⟨zf, hzf, hzfs0, hzfn⟩ := zero_from
 obtain ⟨zl, hzl, -, hzls, hzln, -⟩ := zero_leafT
 obtain ⟨ZF, hinff, hzfs⟩ := info_from
 obtain ⟨LS, hLS⟩ : ∃ L, L = bcells who := ⟨_, rfl⟩
 obtain ⟨MC, hMC⟩ : ∃ L, L = (madeCC A n c A2 m d who p q).toArray := ⟨_, rfl⟩
 rw [← hMC]
 have SZM := Lib.hid (show (Tryz.prog.info? 27).map (·.size) = some MC.size by rw [hMC, List.size_toArray, madeCC_len A n c A2 m d hw p q]; kernel_rfl)
 have SZSL := Lib.hid (show (Tryz.prog.info? 25).map (·.size) = some LS.length by rw [hLS, bcells_length, hw.1]; kernel_rfl)
 have hlow := hT.low
 have HT := Lib.hid hT
 have HFS := Lib.hid hfs
 have HOK := Lib.hid hok
 have HLS := Lib.hid hls
 have HLK := Lib.hid hlk
 have HWHO := Lib.hid hw
 have ELS := Lib.hid hLS
 have EMC := Lib.hid hMC
 have HINFF := Lib.hid hinff
 have HZF := Lib.hid hzfs
 have HZF0 := Lib.hid hzfs0
 have HZLS := Lib.hid hzls
 have HZS := Lib.hid hzs
 have HLEN := Lib.hid hfs.len
 have HLLEN := Lib.hid hls.len
 have H1 := Lib.hid (Has.new w 27 MC)
 have HB1 := Lib.hid (show Below w.heap.size w (w.alloc (.cells MC 27)) from (Below.refl _ _).alloc (Nat.le_refl _) _)
 clear hT hfs hok hls hlk hw hLS hMC hinff hzfs hzs hzfs0 hzls
 go_enter Tryz.func3, Tryz.ntmps3
 go_upto_region 1 with (fail)
 obtain ⟨W1, hW1⟩ : ∃ W, W = w.alloc (.cells MC 27) := ⟨_, rfl⟩
 rw [← hW1] at H1 HB1 ⊢
 clear hW1
 obtain ⟨B1, hB1⟩ : ∃ y, y = w.heap.size := ⟨_, rfl⟩
 rw [← hB1] at H1 ⊢
 have HBQ := Lib.hid hB1
 clear hB1
 go_wp2_with fail
 refine (headA_is _ (HT.out.below HB1.out hlow)).mono ?_
 rintro _ w2 ⟨rfl, hb2⟩
 have H2 := Lib.hid (H1.out.below hb2 H1.out.lt)
 have HB2 := Lib.hid (HB1.out.trans (hb2.mono HB1.out.size))
 have HBIG := Lib.hid (pbig_is w2 A n c A2 m d who HWHO.out p q fs (HFS.out.below HB2.out) HOK.out hn hm)
 rw [← EMC.out] at HBIG
 clear hb2 H1 HB1
 go_wp2_with (refine wpList_load_row rfl 27 (.tmp 1) rfl B1 rfl 27 MC (0, 0) _ H2.out Tryz.underlying27 rfl SZM.out ?_)
 refine HBIG.out.mono ?_
 rintro _ w3 ⟨⟨bb, rfl, hbig⟩, hb3⟩
 have HB3 := Lib.hid (HB2.out.trans (hb3.mono HB2.out.size))
 have H3 := Lib.hid (H2.out.below hb3 H2.out.lt)
 clear hb3 HBIG H2 HB2
 cases bb with
 | true =>
   go_wp2_with fail
   go_ret
   exact ⟨rfl, HB3.out⟩
 | false =>
 obtain ⟨hn6, hm5⟩ := hbig rfl
 clear hbig
 go_wp2_with fail
 refine (tkNew_is _).mono ?_
 rintro _ w4 ⟨g, mb, rfl, hoff, hg, hmb, hb4⟩
 have HO4 := Lib.hid (show OfficeAt w4 g mb [] 0 from ⟨hoff, fun x hx => absurd hx List.not_mem_nil, Nat.le_trans hlow (Nat.le_trans HB3.out.size hmb)⟩)
 have HG := Lib.hid (show w3.heap.size ≤ g ∧ w3.heap.size ≤ mb from ⟨hg, hmb⟩)
 have HB34 := Lib.hid hb4
 have HB4 := Lib.hid (HB3.out.trans (hb4.mono HB3.out.size))
 have h4 := H3.out.below hb4 H3.out.lt
 rw [EMC.out] at h4
 obtain ⟨⟨hc40, hc41⟩, hr4⟩ := made_who HWHO.out h4
 have HPC := Lib.hid (lfParts_is KS SS w4 (HT.out.below HB4.out hlow) A2 m d ls (HLS.out.below HB4.out) HLK.out (by omega))
 clear hoff hg hmb hb4 h4 hr4
 go_wp2_with fail
 refine HPC.out.mono ?_
 rintro _ w6 ⟨hb6, hm6⟩
 have HB46 := Lib.hid hb6
 have HB6 := Lib.hid (HB4.out.trans (hb6.mono HB4.out.size))
 have HO6 := Lib.hid (HO4.out.below hb6)
 obtain ⟨R, hR⟩ : ∃ R, R = tlAt KS SS (placed ls) m := ⟨_, rfl⟩
 rw [← hR] at hm6
 clear hc40 hc41 HPC
 cases R with
 | error x =>
   dsimp only at hm6
   subst hm6
   have hx2 : (x != 0) = true := by rw [bne_iff_ne]; exact fun e => by subst e; exact tlAt_nz hR.symm
   clear hR
   go_wp2_with fail
   go_ret
   exact ⟨rfl, HB6.out⟩
 | ok T =>
 dsimp only at hm6
 obtain ⟨a1, cp, rfl, hown⟩ := hm6
 have hx0 : ((0 : Int) != 0) = false := by decide
 by_cases hm0 : m = 0
 · have hm0' : ((m : Int) == 0) = true := by rw [beq_iff_eq]; omega
   clear hm0 hR hown
   go_wp2_with fail
   go_ret
   exact ⟨rfl, HB6.out⟩
 have hm0' : ((m : Int) == 0) = false := by rw [beq_eq_false_iff_ne]; omega
 have hmp : 0 < m := by omega
 have hlen0 : 0 < ls.length := by rw [HLLEN.out]; exact hmp
 obtain ⟨b, rfl, hgb, hl, hrh, hrs, hr64, hso, hrow⟩ := ps_out HLK.out HLLEN.out hmp (by omega) hR.symm hown
 obtain ⟨sl, sls, hslq, hslp, -⟩ := split_head (r := partNd KS SS 256 T) (ls := ls) hlen0
 have hamS := ps_amS (r := partNd KS SS 256 T) ls
 obtain ⟨r, hr⟩ : ∃ r, r = partNd KS SS 256 T := ⟨_, rfl⟩
 rw [← hr] at hrs hrow hso hrh hr64 hslq hslp hamS
 have HPSUM := Lib.hid (show ∀ al fs', passE KS SS al fs' (splitL r (placed ls)) = 0 → amF' fs' = r.s from fun al fs' h => pass_sums hlen0 h)
 obtain ⟨outs, houts⟩ : ∃ L, L = splitL r (placed ls) := ⟨_, rfl⟩
 rw [← houts] at hso hrow hslq hamS HPSUM
 have HSO := Lib.hid hso
 have HROW := Lib.hid hrow
 have HSL := Lib.hid (And.intro hslq hslp)
 have HRS := Lib.hid (show amS outs = r.s by rw [hamS, hrs])
 have HRH := Lib.hid (And.intro hrh hr64)
 have HGB := Lib.hid (show g < b ∧ mb < b from by
   have q1 := HO4.out.at_.row.lt
   have q2 := HO4.out.at_.map.lt
   omega)
 have HOL := Lib.hid (show outs.length = m by rw [houts, split_len, placed_len]; exact HLLEN.out)
 have HM := Lib.hid (And.intro hn6 hm5)
 clear hown hgb hl hrh hrs hr64 hso hrow hslq hslp hr houts hR hamS hm0 hb6
 go_upto_region 9 with (fail)
 clear hx0 hm0'
 obtain ⟨WH, hWH⟩ : ∃ D, D = whatK KS SS fs r := ⟨_, rfl⟩
 have hwh : IsHash WH := by rw [hWH]; exact tagD_hash KS SS (by decide) _ _
 obtain ⟨TK, hTK⟩ : ∃ D, D = tokenK KS SS who WH := ⟨_, rfl⟩
 have htk : IsHash TK := by rw [hTK]; exact tagD_hash KS SS (by decide) _ _
 obtain ⟨LK, hLK⟩ : ∃ L, L = bcells TK := ⟨_, rfl⟩
 obtain ⟨OW, hOW⟩ : ∃ D, D = ownerK KS SS who := ⟨_, rfl⟩
 have hl32 : LK.length = 32 := by rw [hLK, bcells_length, htk.1]
 have SZK := Lib.hid (show (Tryz.prog.info? 25).map (·.size) = some LK.toArray.size by rw [List.size_toArray, hl32]; kernel_rfl)
 have SZ2 := Lib.hid (show zk.size = LK.length by rw [HZS.out, hl32])
 have HONEK := Lib.hid (show LK.toArray.all (·.oneCell') = true by rw [hLK]; exact all_oneCell_toArray (bcells_one _))
 have SZN := Lib.hid (show (Tryz.prog.info? 39).map (·.size) = some (ndV r).length by rw [ndV_len HRH.out.1]; kernel_rfl)
 have hk3 : ∀ v, Kept (fun j => j = g ∨ j = mb) w6 v → Kept (fun j => w3.heap.size ≤ j) w3 v := fun v hv => by
   have h1 : Kept (fun j => w3.heap.size ≤ j) w3 w6 := (Kept.of_below HB34.out).trans (Kept.of_below HB46.out)
   exact h1.trans (hv.mono (fun k _ e => by have := HG.out; rcases e with e | e <;> omega))
 have HK3 := Lib.hid hk3
 have HX9 := Lib.hid (show ∀ v, Kept (fun j => j = g ∨ j = mb) w6 v → ((v.cell? ⟨B1, 0, none⟩ = some (.slice A n c) ∧ v.cell? ⟨B1, 1, none⟩ = some (.slice A2 m d)) ∧ v.rangeAt B1 2 LS) ∧ v.rangeAt b 66 (ndV r) from fun v hv => by
   have hgb := HGB.out
   have hh := H3.out.kept (hk3 v hv) (by show ¬ w3.heap.size ≤ B1; have := H3.out.lt; omega)
   rw [EMC.out] at hh
   refine ⟨by rw [ELS.out]; exact made_who HWHO.out hh, ?_⟩
   obtain ⟨bb, bo', he, hbl, hrr⟩ := HROW.out.at_ hmp
   injection he with he
   injection he with he1 he2
   subst he1 he2
   have h0 := hrr 0 sl (by rw [HSL.out.1]; rfl)
   rw [Nat.zero_mul, Nat.add_zero] at h0
   have h1 := leaf_sp (HSO.out sl (by rw [HSL.out.1]; exact List.mem_cons_self)) h0
   rw [HSL.out.2, Nat.zero_add] at h1
   exact rangeAt_kept h1 hv (fun e => by rcases e with e | e <;> omega))
 have HTK := Lib.hid (show ∀ v, Kept (fun j => j = g ∨ j = mb) w6 v → Tabs KS SS v from fun v hv => (HT.out.below HB6.out hlow).kept hv (fun k e => by have := HG.out; have h2 := HB3.out.size; rcases e with e | e <;> omega))
 have HFR := Lib.hid (show ∀ v, Kept (fun j => j = g ∨ j = mb) w6 v → RowsAt FromT.cells 164 v A n fs from fun v hv => rows_keptB (HFS.out.below HB3.out) (hk3 v hv) (fun j h => h))
 have HWHAT := Lib.hid (show ∀ v, Kept (fun j => j = g ∨ j = mb) w6 v → Calls Tryz.prog 10 #[.slice A n c, .agg (ndV r).toArray] v fun e w' => e = .returned (.agg (bcells WH).toArray) ∧ Below v.heap.size v w' from fun v hv => by
   have := psWhat_is KS SS v (HTK.out v hv) A n c fs (HFR.out v hv) HOK.out (by omega) r HRH.out.1 HRH.out.2
   unfold arr at this
   rw [← hWH] at this
   exact this)
 have hof : OfficeAt w6.drew g mb [] 0 := HO6.out.below (below_drew (Below.refl _ _))
 have EWH := Lib.hid hWH
 have HWHH := Lib.hid hwh
 have ETK := Lib.hid hTK
 have HTKH := Lib.hid htk
 have ELK := Lib.hid hLK
 have EOW := Lib.hid hOW
 have HAT0 := Lib.hid (leaf_at0 b m cp hmp)
 have HGL := Lib.hid (show g < w6.heap.size ∧ mb < w6.heap.size from ⟨HO6.out.at_.row.lt, HO6.out.at_.map.lt⟩)
 clear hWH hwh hTK htk hLK hl32 hOW hk3
 go_cut [6] from 34 (fun tv wx => ∃ G6, tv = .pointer (some ⟨G6, 0, none⟩) ∧ Has wx G6 25 LK.toArray ∧ w6.heap.size ≤ G6 ∧ (∃ z, OfficeAt wx g mb [(TK, OW, WH)] z) ∧ Kept (fun j => j = g ∨ j = mb) w6 wx)
 case first =>
   have hS0 : Kept (fun j => j = g ∨ j = mb) w6 w6.drew := (Kept.refl _ _).drew
   refine wp_region_noPanic ?_
   refine wp_region_held_drew (S := (fun v => Kept (fun j => j = g ∨ j = mb) w6 v)) (by kernel_rfl) hS0 (fun hH0 => ?_)
   apply tk 0 (v := _) rfl (Or.inl ⟨by kernel_rfl, ?hv⟩) hH0 ?_
   case hv => intro w' hS; have z0 := HAT0.out w'; obtain ⟨⟨⟨z1, z2⟩, -⟩, -⟩ := HX9.out w' hS; go_simp; try exact rfl
   simp only [Act.put, qa]
   apply tk 1 (v := _) rfl (Or.inl ⟨by kernel_rfl, ?hv⟩) hH0 ?_
   case hv => intro w' hS; have z0 := HAT0.out w'; obtain ⟨⟨⟨z1, z2⟩, -⟩, -⟩ := HX9.out w' hS; go_simp; try exact rfl
   simp only [Act.put, qa]
   refine tk 2 (v := (.agg LS.toArray)) rfl (yieldsIf_load_mid (by kernel_rfl) 25 (.tmp 35) rfl B1 2 rfl LS _ (fun w' h => (HX9.out _ h).1.2) Tryz.underlying25 rfl SZSL.out) hH0 ?_
   simp only [Act.put, qa]
   apply tk 3 (v := _) rfl (Or.inl ⟨by kernel_rfl, ?hv⟩) hH0 ?_
   case hv => intro w' hS; have z0 := HAT0.out w'; obtain ⟨⟨⟨z1, z2⟩, -⟩, -⟩ := HX9.out w' hS; go_simp; try exact rfl
   simp only [Act.put, qa]
   apply tk 4 (v := _) rfl (Or.inl ⟨by kernel_rfl, ?hv⟩) hH0 ?_
   case hv => intro w' hS; have z0 := HAT0.out w'; obtain ⟨⟨⟨z1, z2⟩, -⟩, -⟩ := HX9.out w' hS; go_simp; try exact rfl
   simp only [Act.put, qa]
   apply tk 5 (v := _) rfl (Or.inl ⟨by kernel_rfl, ?hv⟩) hH0 ?_
   case hv => intro w' hS; have z0 := HAT0.out w'; obtain ⟨⟨⟨z1, z2⟩, -⟩, -⟩ := HX9.out w' hS; go_simp; try exact rfl
   simp only [Act.put, qa]
   apply tk 6 (v := _) rfl (Or.inl ⟨by kernel_rfl, ?hv⟩) hH0 ?_
   case hv => intro w' hS; have z0 := HAT0.out w'; obtain ⟨⟨⟨z1, z2⟩, -⟩, -⟩ := HX9.out w' hS; go_simp; try exact rfl
   simp only [Act.put, qa]
   apply tk 7 (v := _) rfl (Or.inl ⟨by kernel_rfl, ?hv⟩) hH0 ?_
   case hv => intro w' hS; have z0 := HAT0.out w'; obtain ⟨⟨⟨z1, z2⟩, -⟩, -⟩ := HX9.out w' hS; go_simp; try exact rfl
   simp only [Act.put, qa]
   refine tk 8 (v := (.agg (ndV r).toArray)) rfl (yieldsIf_load_mid (by kernel_rfl) 39 (.tmp 41) rfl b 66 rfl (ndV r) _ (fun w' h => (HX9.out _ h).2) Tryz.underlying39 rfl SZN.out) hH0 ?_
   simp only [Act.put, qa]
   refine wpAnyH_ready (rs := [9, 11]) (by kernel_rfl) (by simp) ?_
   refine AllReadyH.cons rfl (fun KK hKK => ?_) (AllReadyH.cons rfl (fun KK hKK => ?_) AllReadyH.nil)
   · go_simp
     refine (HWHAT.out _ hH0).mono ?_
     rintro _ x7 ⟨rfl, hx7⟩
     have hs7 : Kept (fun j => j = g ∨ j = mb) w6 x7 := hH0.trans (Kept.of_below hx7)
     have hof7 := hof.below hx7
     try replace hz := hz.below hx7 hz.lt
     clear hx7 hof
     refine Shut.out hKK _ _ hs7 (fun hH1 => ?_)
     clear hKK KK
     try simp only [Act.put, qa]
     refine wpAnyH_ready (rs := [10, 11]) (by kernel_rfl) (by simp) ?_
     refine AllReadyH.cons rfl (fun KK hKK => ?_) (AllReadyH.cons rfl (fun KK hKK => ?_) AllReadyH.nil)
     · go_simp
       have hcl := tkAllow_is KS SS _ (HTK.out _ hH1) g mb [] 0 hof7 (by decide) (by decide) who WH HWHO.out HWHH.out
       unfold arr at hcl
       rw [← ELS.out, ← ETK.out, ← ELK.out] at hcl
       refine hcl.mono ?_
       rintro _ x8 ⟨rfl, ⟨m8, ho8, hm8a, hm8b⟩, hk8⟩
       rw [allow_one, ← ETK.out, ← EOW.out] at ho8
       have hs8 : Kept (fun j => j = g ∨ j = mb) w6 x8 := hH1.trans hk8
       try replace hz := hz.kept hk8 (fun e => by have := HGL.out; rcases e with e | e <;> omega)
       clear hcl hof7 hk8
       refine Shut.out hKK _ _ hs8 (fun hH2 => ?_)
       clear hKK KK
       try simp only [Act.put, qa]
       refine wpAnyH_ready (rs := [11]) (by kernel_rfl) (by simp) ?_
       refine AllReadyH.cons rfl (fun KK hKK => ?_) AllReadyH.nil
       go_simp
       obtain ⟨xz, hxz⟩ : ∃ y, y = x8.alloc (.cells zk 25) := ⟨_, rfl⟩
       first | rw [← hxz] | (change KK _ (x8.alloc (.cells zk 25)); rw [← hxz])
       have hnxz : Below x8.heap.size x8 xz := by rw [hxz]; exact (Below.refl _ _).alloc (Nat.le_refl _) _
       have hz : Has xz x8.heap.size 25 zk := by rw [hxz]; exact Has.new _ _ _
       have hzb : w6.heap.size ≤ x8.heap.size := hH2.size
       obtain ⟨G6, hG6⟩ : ∃ y, y = x8.heap.size := ⟨_, rfl⟩
       first | rw [← hG6] | (have hq : w6.heap.size = G6 := hG6.symm; rw [hq]; clear hq)
       rw [← hG6] at hz hzb
       clear hG6
       try replace hof := hof.below hnxz
       try replace hof7 := hof7.below hnxz
       try replace ho8 := ho8.below hnxz
       have hsxz : Kept (fun j => j = g ∨ j = mb) w6 xz := hH2.trans (Kept.of_below hnxz)
       clear hxz hnxz
       refine Shut.out hKK _ _ hsxz (fun hH3 => ?_)
       clear hKK KK
       try simp only [Act.put, qa]
       refine wpAnyH_ready (rs := [12]) (by kernel_rfl) (by simp) ?_
       refine AllReadyH.cons rfl (fun KK hKK => ?_) AllReadyH.nil
       refine step_store_mid rfl 25 (.tmp 6) (.tmp 44) rfl G6 0 LK.toArray rfl rfl (hz.there 0 _ (by rw [List.size_toArray, SZ2.out]; exact Nat.le_of_eq (Nat.zero_add _))) SZK.out HONEK.out ?_
       have hset := set_box (Below.refl 0 xz) hz (Nat.zero_le _) (Nat.zero_le _) SZ2.out
       obtain ⟨xb, hxb⟩ : ∃ y, y = xz.setCells G6 0 LK := ⟨_, rfl⟩
       rw [← hxb] at hset
       change KK _ (xz.setCells G6 0 LK)
       rw [← hxb]
       have hsxb : Kept (fun j => j = g ∨ j = mb) w6 xb := hH3.step hset.2.2 (fun k e => .inr (by have e' : k = G6 := e; omega))
       have hof9 : OfficeAt xb g mb [(TK, OW, WH)] m8 := ho8.kept hset.2.2 (fun e => by have e' : g = G6 := e; have := HGL.out; omega) (fun e => by have e' : mb = G6 := e; have := HGL.out; omega)
       clear hxb
       refine Shut.out hKK _ _ hsxb (fun hH4 => ?_)
       clear hKK KK
       try simp only [Act.put, qa]
       refine wpAnyH_done (by kernel_rfl) ?_ _
       refine NoPanic.normal ?_
       have HF := Lib.hid hset.2.1
       have HS := Lib.hid hsxb
       have HF9 := Lib.hid hof9
       have HZ9 := Lib.hid hzb
       clear hset hsxb hof9 ho8 hz hzb
       go_wp2_with fail
       go_meet
       case rel => exact ⟨_, rfl, HF.out, HZ9.out, ⟨_, HF9.out⟩, HS.out⟩
     · go_simp
       obtain ⟨xz, hxz⟩ : ∃ y, y = x7.alloc (.cells zk 25) := ⟨_, rfl⟩
       first | rw [← hxz] | (change KK _ (x7.alloc (.cells zk 25)); rw [← hxz])
       have hnxz : Below x7.heap.size x7 xz := by rw [hxz]; exact (Below.refl _ _).alloc (Nat.le_refl _) _
       have hz : Has xz x7.heap.size 25 zk := by rw [hxz]; exact Has.new _ _ _
       have hzb : w6.heap.size ≤ x7.heap.size := hH1.size
       obtain ⟨G6, hG6⟩ : ∃ y, y = x7.heap.size := ⟨_, rfl⟩
       first | rw [← hG6] | (have hq : w6.heap.size = G6 := hG6.symm; rw [hq]; clear hq)
       rw [← hG6] at hz hzb
       clear hG6
       try replace hof := hof.below hnxz
       try replace hof7 := hof7.below hnxz
       try replace ho8 := ho8.below hnxz
       have hsxz : Kept (fun j => j = g ∨ j = mb) w6 xz := hH1.trans (Kept.of_below hnxz)
       clear hxz hnxz
       refine Shut.out hKK _ _ hsxz (fun hH2 => ?_)
       clear hKK KK
       try simp only [Act.put, qa]
       refine wpAnyH_ready (rs := [10]) (by kernel_rfl) (by simp) ?_
       refine AllReadyH.cons rfl (fun KK hKK => ?_) AllReadyH.nil
       go_simp
       have hcl := tkAllow_is KS SS _ (HTK.out _ hH2) g mb [] 0 hof7 (by decide) (by decide) who WH HWHO.out HWHH.out
       unfold arr at hcl
       rw [← ELS.out, ← ETK.out, ← ELK.out] at hcl
       refine hcl.mono ?_
       rintro _ x8 ⟨rfl, ⟨m8, ho8, hm8a, hm8b⟩, hk8⟩
       rw [allow_one, ← ETK.out, ← EOW.out] at ho8
       have hs8 : Kept (fun j => j = g ∨ j = mb) w6 x8 := hH2.trans hk8
       try replace hz := hz.kept hk8 (fun e => by have := HGL.out; rcases e with e | e <;> omega)
       clear hcl hof7 hk8
       refine Shut.out hKK _ _ hs8 (fun hH3 => ?_)
       clear hKK KK
       try simp only [Act.put, qa]
       refine wpAnyH_ready (rs := [12]) (by kernel_rfl) (by simp) ?_
       refine AllReadyH.cons rfl (fun KK hKK => ?_) AllReadyH.nil
       refine step_store_mid rfl 25 (.tmp 6) (.tmp 44) rfl G6 0 LK.toArray rfl rfl (hz.there 0 _ (by rw [List.size_toArray, SZ2.out]; exact Nat.le_of_eq (Nat.zero_add _))) SZK.out HONEK.out ?_
       have hset := set_box (Below.refl 0 x8) hz (Nat.zero_le _) (Nat.zero_le _) SZ2.out
       obtain ⟨xb, hxb⟩ : ∃ y, y = x8.setCells G6 0 LK := ⟨_, rfl⟩
       rw [← hxb] at hset
       change KK _ (x8.setCells G6 0 LK)
       rw [← hxb]
       have hsxb : Kept (fun j => j = g ∨ j = mb) w6 xb := hH3.step hset.2.2 (fun k e => .inr (by have e' : k = G6 := e; omega))
       have hof9 : OfficeAt xb g mb [(TK, OW, WH)] m8 := ho8.kept hset.2.2 (fun e => by have e' : g = G6 := e; have := HGL.out; omega) (fun e => by have e' : mb = G6 := e; have := HGL.out; omega)
       clear hxb
       refine Shut.out hKK _ _ hsxb (fun hH4 => ?_)
       clear hKK KK
       try simp only [Act.put, qa]
       refine wpAnyH_done (by kernel_rfl) ?_ _
       refine NoPanic.normal ?_
       have HF := Lib.hid hset.2.1
       have HS := Lib.hid hsxb
       have HF9 := Lib.hid hof9
       have HZ9 := Lib.hid hzb
       clear hset hsxb hof9 ho8 hz hzb
       go_wp2_with fail
       go_meet
       case rel => exact ⟨_, rfl, HF.out, HZ9.out, ⟨_, HF9.out⟩, HS.out⟩
   · go_simp
     obtain ⟨xz, hxz⟩ : ∃ y, y = w6.drew.alloc (.cells zk 25) := ⟨_, rfl⟩
     first | rw [← hxz] | (change KK _ (w6.drew.alloc (.cells zk 25)); rw [← hxz])
     have hnxz : Below w6.drew.heap.size w6.drew xz := by rw [hxz]; exact (Below.refl _ _).alloc (Nat.le_refl _) _
     have hz : Has xz w6.drew.heap.size 25 zk := by rw [hxz]; exact Has.new _ _ _
     have hzb : w6.heap.size ≤ w6.drew.heap.size := hH0.size
     obtain ⟨G6, hG6⟩ : ∃ y, y = w6.drew.heap.size := ⟨_, rfl⟩
     first | rw [← hG6] | (have hq : w6.heap.size = G6 := hG6.symm; rw [hq]; clear hq)
     rw [← hG6] at hz hzb
     clear hG6
     try replace hof := hof.below hnxz
     try replace hof7 := hof7.below hnxz
     try replace ho8 := ho8.below hnxz
     have hsxz : Kept (fun j => j = g ∨ j = mb) w6 xz := hH0.trans (Kept.of_below hnxz)
     clear hxz hnxz
     refine Shut.out hKK _ _ hsxz (fun hH1 => ?_)
     clear hKK KK
     try simp only [Act.put, qa]
     refine wpAnyH_ready (rs := [9]) (by kernel_rfl) (by simp) ?_
     refine AllReadyH.cons rfl (fun KK hKK => ?_) AllReadyH.nil
     go_simp
     refine (HWHAT.out _ hH1).mono ?_
     rintro _ x7 ⟨rfl, hx7⟩
     have hs7 : Kept (fun j => j = g ∨ j = mb) w6 x7 := hH1.trans (Kept.of_below hx7)
     have hof7 := hof.below hx7
     try replace hz := hz.below hx7 hz.lt
     clear hx7 hof
     refine Shut.out hKK _ _ hs7 (fun hH2 => ?_)
     clear hKK KK
     try simp only [Act.put, qa]
     refine wpAnyH_ready (rs := [10]) (by kernel_rfl) (by simp) ?_
     refine AllReadyH.cons rfl (fun KK hKK => ?_) AllReadyH.nil
     go_simp
     have hcl := tkAllow_is KS SS _ (HTK.out _ hH2) g mb [] 0 hof7 (by decide) (by decide) who WH HWHO.out HWHH.out
     unfold arr at hcl
     rw [← ELS.out, ← ETK.out, ← ELK.out] at hcl
     refine hcl.mono ?_
     rintro _ x8 ⟨rfl, ⟨m8, ho8, hm8a, hm8b⟩, hk8⟩
     rw [allow_one, ← ETK.out, ← EOW.out] at ho8
     have hs8 : Kept (fun j => j = g ∨ j = mb) w6 x8 := hH2.trans hk8
     try replace hz := hz.kept hk8 (fun e => by have := HGL.out; rcases e with e | e <;> omega)
     clear hcl hof7 hk8
     refine Shut.out hKK _ _ hs8 (fun hH3 => ?_)
     clear hKK KK
     try simp only [Act.put, qa]
     refine wpAnyH_ready (rs := [12]) (by kernel_rfl) (by simp) ?_
     refine AllReadyH.cons rfl (fun KK hKK => ?_) AllReadyH.nil
     refine step_store_mid rfl 25 (.tmp 6) (.tmp 44) rfl G6 0 LK.toArray rfl rfl (hz.there 0 _ (by rw [List.size_toArray, SZ2.out]; exact Nat.le_of_eq (Nat.zero_add _))) SZK.out HONEK.out ?_
     have hset := set_box (Below.refl 0 x8) hz (Nat.zero_le _) (Nat.zero_le _) SZ2.out
     obtain ⟨xb, hxb⟩ : ∃ y, y = x8.setCells G6 0 LK := ⟨_, rfl⟩
     rw [← hxb] at hset
     change KK _ (x8.setCells G6 0 LK)
     rw [← hxb]
     have hsxb : Kept (fun j => j = g ∨ j = mb) w6 xb := hH3.step hset.2.2 (fun k e => .inr (by have e' : k = G6 := e; omega))
     have hof9 : OfficeAt xb g mb [(TK, OW, WH)] m8 := ho8.kept hset.2.2 (fun e => by have e' : g = G6 := e; have := HGL.out; omega) (fun e => by have e' : mb = G6 := e; have := HGL.out; omega)
     clear hxb
     refine Shut.out hKK _ _ hsxb (fun hH4 => ?_)
     clear hKK KK
     try simp only [Act.put, qa]
     refine wpAnyH_done (by kernel_rfl) ?_ _
     refine NoPanic.normal ?_
     have HF := Lib.hid hset.2.1
     have HS := Lib.hid hsxb
     have HF9 := Lib.hid hof9
     have HZ9 := Lib.hid hzb
     clear hset hsxb hof9 ho8 hz hzb
     go_wp2_with fail
     go_meet
     case rel => exact ⟨_, rfl, HF.out, HZ9.out, ⟨_, HF9.out⟩, HS.out⟩
 case rest =>
 obtain ⟨W9, hW9⟩ : ∃ y, y = wc := ⟨_, rfl⟩
 subst hW9
 obtain ⟨G6, rfl, h9, hg9, ⟨m9, ho9⟩, hk9⟩ := hcut
 have hgl := HGL.out
 have HO9 := Lib.hid ho9
 have H9 := Lib.hid h9
 have HK9 := Lib.hid hk9
 have HFR9 := Lib.hid (HFR.out W9 hk9)
 have HT9 := Lib.hid (HTK.out W9 hk9)
 have HB9 := Lib.hid (show Below w.heap.size w W9 from HB6.out.trans (hk9.below HB6.out.size (fun k e => by have := HG.out; have h2 := HB3.out.size; rcases e with e | e <;> omega)))
 have HOUT9 := Lib.hid (HROW.out.kept hk9 (fun a ha ee => by injection ha with ha; subst ha; have := HGB.out; rcases ee with ee | ee <;> (dsimp only at ee; omega)))
 obtain ⟨⟨⟨hc90, hc91⟩, -⟩, -⟩ := HX9.out W9 hk9
 have HS9 := Lib.hid hk9.size
 clear h9 hg9 ho9 hk9
 have hal : Below W9.heap.size W9 (W9.alloc (.cells #[] 45)) := (Below.refl _ _).alloc (Nat.le_refl _) _
 have HAL := Lib.hid hal
 have HOE := Lib.hid (own_empty (w := W9) (Nat.le_refl W9.heap.size) 45 164)
 have HFR10 := Lib.hid (HFR9.out.below hal)
 have HO1X := Lib.hid (show ∀ x ∈ fs, ∀ u ∈ x.cells, u.oneCell' = true from fun x _ u hu => by
   have := FromT.one x
   rw [Array.all_eq_true'] at this
   exact this u (by simpa using hu))
 have hc90b := cell_held (Kept.of_below (S := fun _ => False) hal) hc90 (fun h => h)
 clear hal hc90 hc91
 go_upto_region 11 with (at_builtin; refine wpList_append_rows rfl (.tmp 45) (.tmp 47) 22 rfl W9.heap.size 45 (.agg ZF) 192 Tryz.underlying22 HINFF.out HZF.out (by decide) _ 0 [] rfl HOE.out A n c fs rfl HFR10.out HO1X.out (by have := HM.out; unfold maxLen; omega) (by have := HM.out; omega) HAL.out.size ?_; intro oa oc w10 hown10 hgr10)
 have HB10 := Lib.hid (HAL.out.grown hgr10 HAL.out.size (own_blk HOE.out))
 rw [List.nil_append, Nat.zero_add] at hown10
 try rw [Nat.zero_add]
 have HOWN10 := Lib.hid hown10
 clear hown10 hgr10 hc90b HAL HOE HFR10
 go_wp2_with fail
 go_loopw [51] (fun iv wr => ∃ k : Nat, iv = .int .i64 (k : Int) ∧ k ≤ n ∧ wr.ownsRow W9.heap.size 45 164 (.slice oa n oc) n ((turnTo (tkF TK) k fs).flatMap FromT.cells) ∧ Below W9.heap.size W9 wr) (fun iv _ => n - (intOf iv).toNat)
 case atStart => exact ⟨0, rfl, Nat.zero_le _, by rw [turnTo_zero]; exact HOWN10.out, HB10.out⟩
 case round =>
   clear HOWN10 HB10
   obtain ⟨k, rfl, hk, hown, hbel⟩ := hrel
   have HOK2 := Lib.hid (show ∀ x ∈ turnTo (tkF TK) k fs, x.ok from turnTo_ok (tkF TK) k fs FromT.ok HOK.out (fun i x hi hx => tkF_ok hx HTKH.out i))
   by_cases hlt : k < n
   · have hlt' : (k : Int) < (n : Int) := by omega
     obtain ⟨x, hx⟩ : ∃ x, fs[k]? = some x := ⟨_, List.getElem?_eq_getElem (by rw [HLEN.out]; exact hlt)⟩
     have hx2 := turnTo_get (tkF TK) k fs k x hx
     rw [if_neg (Nat.lt_irrefl k)] at hx2
     have hxok := HOK.out x (List.mem_of_getElem? hx)
     obtain ⟨b', hA, hbb, hth, hown2, hk2⟩ := own_set hown (by rw [turnTo_len]; exact HLEN.out) (tkFlen HOK2.out) hlt x (tkF TK k x) hx2 (FromT.len (tkF_ok hxok HTKH.out k)) 132 LK (by have := SZ2.out; rw [HZS.out] at this; omega) (by rw [ELK.out]; exact tkF_cells hxok HTKH.out k)
     subst hA
     rw [turnTo_succ (tkF TK) k fs x hx] at hown2
     have hat := at_from0 b' n oc k hlt
     have HTH := Lib.hid hth
     have HOW2 := Lib.hid hown2
     have HX9R := Lib.hid (H9.out.below hbel H9.out.lt)
     have HBE2 := Lib.hid (hbel.trans (hk2.below hbel.size (fun j e => by rw [show j = b' from e]; exact hbb)))
     have HLTK := Lib.hid hlt
     clear hown2 hk2 hown hx hx2 hxok hth hbel hlt hk
     go_wp2_with (first
       | (refine wpList_load_row rfl 25 (.tmp 6) rfl G6 rfl 25 LK.toArray (0, 0) _ HX9R.out Tryz.underlying25 rfl SZK.out ?_)
       | (refine wpList_store_mid rfl 25 (.tmp 58) (.tmp 56) rfl b' (k * 164 + 132) LK.toArray rfl rfl (by rw [List.size_toArray]; exact HTH.out) SZK.out HONEK.out ?_))
     go_roundw
     case rel => exact ⟨k + 1, by go_num, HLTK.out, HOW2.out, HBE2.out⟩
     case measure => have := HLTK.out; simp [intOf]; omega
   · obtain rfl : k = n := by omega
     have hno : ¬ (k : Int) < (k : Int) := by omega
     obtain ⟨fs', hfs'⟩ : ∃ F, F = tokd TK fs := ⟨_, rfl⟩
     have hown3 : wr.ownsRow W9.heap.size 45 164 (.slice oa k oc) k (fs'.flatMap FromT.cells) := by
       rw [hfs', tokd, HLEN.out]; exact hown
     have hok' : ∀ f ∈ fs', f.ok := by rw [hfs']; exact tokd_ok HTKH.out HOK.out
     have hlen' : fs'.length = k := by rw [hfs', tokd_len]; exact HLEN.out
     obtain ⟨hrow3, -⟩ := own_rows hown3 hlen' (tkFlen hok')
     have hcap : k ≤ oc := by
       rcases Nat.eq_zero_or_pos k with h0 | h0
       · omega
       · obtain ⟨_, cap, _, e0, -, -, hc, -⟩ := own_open hown3 h0
         injection e0 with _ _ e3
         omega
     obtain ⟨PC, hPC⟩ : ∃ L, L = (passC oa k oc (some ⟨b, 0, none⟩) m cp).toArray := ⟨_, rfl⟩
     have HBP := Lib.hid (show ∀ v, (Instr.build 47 #[(0, .slice oa k oc), (1, .slice (some ⟨b, 0, none⟩) m cp)]).run Tryz.prog v = .ok (.agg PC) v by rw [hPC]; exact build_pass _ _ _ _ _ _)
     have SZP := Lib.hid (show (Tryz.prog.info? 47).map (·.size) = some PC.size by rw [hPC]; kernel_rfl)
     have HZP := Lib.hid (show (#[Value.slice none 0 0, .slice none 0 0] : Array Value).size = PC.size by rw [hPC]; rfl)
     have HOP := Lib.hid (show PC.all (·.oneCell') = true by rw [hPC]; simp [passC, Value.oneCell'])
     have hzp := zero_pass
     have HNP := Lib.hid (show ∀ C, Has ((wr.alloc (.cells #[.slice none 0 0, .slice none 0 0] 47)).setRow wr.heap.size C) wr.heap.size 47 C ∧ Below wr.heap.size wr ((wr.alloc (.cells #[.slice none 0 0, .slice none 0 0] 47)).setRow wr.heap.size C) from fun C => by
       rw [World.setRow_alloc_new]
       exact ⟨Has.new wr _ _, (Below.refl _ _).alloc (Nat.le_refl _) _⟩)
     have EPC := Lib.hid hPC
     have HR3 := Lib.hid hrow3
     have HCAP := Lib.hid hcap
     have HOK' := Lib.hid hok'
     have HLEN' := Lib.hid hlen'
     have HBEL := Lib.hid hbel
     have EFS := Lib.hid hfs'
     clear hPC hrow3 hcap hok' hlen' hown3 hbel hown hfs' hlt hk
     go_upto_region 17 with (first
       | (refine wpList_build_run rfl 47 #[(0, .tmp 60), (1, .tmp 61)] rfl #[(0, .slice oa k oc), (1, .slice (some ⟨b, 0, none⟩) m cp)] (by kernel_rfl) (.agg PC) (HBP.out _) ?_)
       | (refine wpList_store_row rfl 47 (.tmp 9) (.tmp 62) rfl wr.heap.size PC rfl rfl 47 #[.slice none 0 0, .slice none 0 0] (heap_alloc_new wr _) SZP.out HZP.out HOP.out ?_))
     obtain ⟨h8, hb8⟩ := HNP.out PC
     clear HNP
     generalize (wr.alloc (.cells #[.slice none 0 0, .slice none 0 0] 47)).setRow wr.heap.size PC = W16 at h8 hb8 ⊢
     have hb916 := HBEL.out.trans (hb8.mono HBEL.out.size)
     have hr16 := HR3.out.below hb8
     generalize wr.heap.size = B9 at h8 ⊢
     obtain ⟨W18, hW18⟩ : ∃ W, W = (W16.alloc (.cells #[] 3)).alloc (.cells #[] 3) := ⟨_, rfl⟩
     have hb18 : Below W16.heap.size W16 W18 := by rw [hW18]; exact ((Below.refl _ _).alloc (Nat.le_refl _) _).alloc (by simp) _
     have hd1 : IsD W18 (.slice (some ⟨W16.heap.size, 0, none⟩) 0 0) (digs 0) := dig_empty (by rw [hW18]; exact (Has.new W16 3 #[]).alloc _)
     have hd2 : IsD W18 (.slice (some ⟨W16.heap.size + 1, 0, none⟩) 0 0) (digs 0) := dig_empty (t := 3) (by rw [hW18]; have := Has.new (W16.alloc (.cells #[] 3)) 3 #[]; simpa using this)
     have HD1 := Lib.hid hd1
     have HD2 := Lib.hid hd2
     have H818 := Lib.hid (h8.below hb18 h8.lt)
     have HR18 := Lib.hid (hr16.below hb18)
     have HB918 := Lib.hid (hb916.trans (hb18.mono hb916.size))
     have EW18 := Lib.hid hW18
     clear hW18 hb18 hd1 hd2 h8 hb8 hr16 hb916 HR3
     go_wp2_with fail
     rw [← EW18.out]
     clear EW18
     have hgl := HGL.out
     have HO18 := Lib.hid (HO9.out.below HB918.out)
     have HOUT18 := Lib.hid (HOUT9.out.below HB918.out)
     have HB18 := Lib.hid (HB9.out.trans (HB918.out.mono HB9.out.size))
     go_loopw [10, 67] (fun dv iv wx => ∃ j : Nat, iv = .int .i64 (j : Int) ∧ j ≤ k ∧ IsD wx dv (digs (amF' (fs'.take j))) ∧ Below W18.heap.size W18 wx) (fun _ iv _ => k - (intOf iv).toNat)
     case atStart => exact ⟨0, rfl, Nat.zero_le _, HD1.out, Below.refl _ _⟩
     case round =>
       obtain ⟨j, rfl, hj, hdv, hbel⟩ := hrel
       obtain ⟨da, dc, rfl, hda⟩ := hdv.form
       have HBE := Lib.hid hbel
       have HDA := Lib.hid hda
       clear hbel hda hdv
       by_cases hlt : j < k
       · have hlt' : (j : Int) < (k : Int) := by omega
         obtain ⟨f, hf⟩ : ∃ f, fs'[j]? = some f := ⟨_, List.getElem?_eq_getElem (by rw [HLEN'.out]; exact hlt)⟩
         have hfok := HOK'.out f (List.mem_of_getElem? hf)
         obtain ⟨sb, so, hA1, hA2, hrr⟩ := (HR18.out.below HBE.out).at_ (by omega)
         have hrw := hrr j f hf
         obtain ⟨FC, hFC⟩ : ∃ L, L = f.cells := ⟨_, rfl⟩
         rw [← hFC] at hrw
         have hfl : FC.length = 164 := by rw [hFC]; exact FromT.len hfok
         have HRW := Lib.hid hrw
         have SZ1 := Lib.hid (show (Tryz.prog.info? 45).map (·.size) = some FC.length by rw [hfl]; kernel_rfl)
         have SZA := Lib.hid (show (Tryz.prog.info? 45).map (·.size) = some FC.toArray.size by rw [List.size_toArray]; exact SZ1.out)
         have HZZ := Lib.hid (show zf.size = FC.toArray.size by rw [HZF0.out, List.size_toArray, hfl])
         have HONE := Lib.hid (show FC.toArray.all (·.oneCell') = true by rw [hFC]; exact FromT.one f)
         have HNW := Lib.hid (show ∀ C, Has ((wr.alloc (.cells zf 45)).setRow wr.heap.size C) wr.heap.size 45 C ∧ Below wr.heap.size wr ((wr.alloc (.cells zf 45)).setRow wr.heap.size C) from fun C => by
          rw [World.setRow_alloc_new]
          exact ⟨Has.new wr _ _, (Below.refl _ _).alloc (Nat.le_refl _) _⟩)
         have HFOK := Lib.hid hfok
         have EFC := Lib.hid hFC
         have hat := at_from sb so k oc j hlt
         rw [← hA1] at hat
         have EA := Lib.hid hA1
         have HLTK := Lib.hid hlt
         have HNX := Lib.hid (amF_take hf)
         have HJ := Lib.hid (show j ≤ 6 by have := HM.out; omega)
         clear hrw hfl hfok hf hFC hrr hA2 hlt hA1 hj
         go_upto_region 22 with (first
          | (refine wpList_load_mid rfl 45 (.tmp 69) rfl sb (so + j * 164) rfl FC _ HRW.out Tryz.underlying45 rfl SZ1.out ?_)
          | (refine wpList_store_row rfl 45 (.tmp 13) (.tmp 70) rfl wr.heap.size FC.toArray rfl rfl 45 zf (heap_alloc_new wr _) SZA.out HZZ.out HONE.out ?_))
         obtain ⟨h3, hk3⟩ := HNW.out FC.toArray
         have hb3 := HBE.out.trans (hk3.mono HBE.out.size)
         have hda3 := HDA.out.below hk3
         clear HNW hk3 hat
         generalize (wr.alloc (.cells zf 45)).setRow wr.heap.size FC.toArray = W21 at h3 hb3 hda3 ⊢
         generalize wr.heap.size = G13 at h3 ⊢
         rw [EFC.out] at h3
         have c65 := from_am HFOK.out h3
         obtain ⟨am, ham⟩ : ∃ a, a = f.l.am := ⟨_, rfl⟩
         rw [← ham] at c65 HNX
         have h64 : am < 18446744073709551616 := by rw [ham]; exact HFOK.out.l.am
         have HB21 := Lib.hid hb3
         have HDA21 := Lib.hid hda3
         have H64 := Lib.hid h64
         clear h3 hb3 hda3 ham h64
         go_wp2_with fail
         refine (of_is _ am H64.out).mono ?_
         rintro _ w22 ⟨⟨v', rfl, hv'⟩, hb22⟩
         obtain ⟨oa2, oc2, rfl, hd2⟩ := hv'.form
         have HB22 := Lib.hid (HB21.out.trans (hb22.mono HB21.out.size))
         have hadd := add_is w22 da _ dc _ oa2 _ oc2 am (HDA21.out.below hb22) hd2 (amF_short HOK'.out HJ.out) (am_short H64.out)
         have HADD := Lib.hid hadd
         clear hv' hd2 hb22 hadd c65 HDA21
         go_wp2_with fail
         refine HADD.out.mono ?_
         rintro _ w23 ⟨⟨v2, rfl, hv2⟩, hb23⟩
         have HV2 := Lib.hid (show IsD w23 v2 (digs (amF' (fs'.take (j + 1)))) by rw [HNX.out]; exact hv2)
         have HB23 := Lib.hid (HB22.out.trans (hb23.mono HB22.out.size))
         clear hv2 hb23 HADD
         go_wp2_with fail
         go_roundw
         case rel => exact ⟨j + 1, by go_num, HLTK.out, HV2.out, HB23.out⟩
         case measure => have := HLTK.out; simp [intOf]; omega
       · obtain rfl : j = k := by omega
         have hno2 : ¬ (j : Int) < (j : Int) := by omega
         have hall : fs'.take j = fs' := List.take_of_length_le (by rw [HLEN'.out]; exact Nat.le_refl _)
         have hda := HDA.out
         rw [hall] at hda
         have HDF := Lib.hid hda
         have hJ6 : (digs (amF' fs')).length ≤ 1000 := by have := amF_short HOK'.out (k := j) (by have := HM.out; omega); rwa [hall] at this
         have HJ6 := Lib.hid hJ6
         have HB24 := Lib.hid HBE.out
         have HSHA := Lib.hid (show digs (amF' (fs'.take j)) = digs (amF' fs') by rw [hall])
         have HD24 := Lib.hid (HD2.out.below HBE.out)
         have HOUT24 := Lib.hid (HOUT18.out.below HBE.out)
         rw [hall]
         clear hda hall hJ6 hlt hj HDA
         go_wp2_with fail
         go_loopw [11, 80] (fun dv iv wx => ∃ i : Nat, iv = .int .i64 (i : Int) ∧ i ≤ m ∧ IsD wx dv (digs (amS (outs.take i))) ∧ Below wr.heap.size wr wx) (fun _ iv _ => m - (intOf iv).toNat)
         case atStart => exact ⟨0, rfl, Nat.zero_le _, HD24.out, Below.refl _ _⟩
         case round =>
          obtain ⟨i, rfl, hi, hdv, hbel⟩ := hrel
          obtain ⟨ea, ec, rfl, hea⟩ := hdv.form
          have HBE2 := Lib.hid hbel
          have HEA := Lib.hid hea
          clear hbel hea hdv
          by_cases hlt : i < m
          · have hlt' : (i : Int) < (m : Int) := by omega
            obtain ⟨x, hx⟩ : ∃ x, outs[i]? = some x := ⟨_, List.getElem?_eq_getElem (by rw [HOL.out]; exact hlt)⟩
            have hxok := HSO.out x (List.mem_of_getElem? hx)
            obtain ⟨sb, so, hA1, hA2, hrr⟩ := (HOUT24.out.below HBE2.out).at_ (by omega)
            injection hA1 with hA1
            injection hA1 with hA3 hA4
            subst hA3 hA4
            have hrw := hrr i x hx
            rw [Nat.zero_add] at hrw
            obtain ⟨XC, hXC⟩ : ∃ L, L = x.cells := ⟨_, rfl⟩
            rw [← hXC] at hrw
            have hfl : XC.length = 99 := by rw [hXC]; exact LeafT.len hxok
            have HRW := Lib.hid hrw
            have SZ1 := Lib.hid (show (Tryz.prog.info? 41).map (·.size) = some XC.length by rw [hfl]; kernel_rfl)
            have SZA := Lib.hid (show (Tryz.prog.info? 41).map (·.size) = some XC.toArray.size by rw [List.size_toArray]; exact SZ1.out)
            have HZZ := Lib.hid (show zl.size = XC.toArray.size by rw [HZLS.out, List.size_toArray, hfl])
            have HONE := Lib.hid (show XC.toArray.all (·.oneCell') = true by rw [hXC]; exact LeafT.one x)
            have HNW := Lib.hid (show ∀ C, Has ((wr.alloc (.cells zl 41)).setRow wr.heap.size C) wr.heap.size 41 C ∧ Below wr.heap.size wr ((wr.alloc (.cells zl 41)).setRow wr.heap.size C) from fun C => by
              rw [World.setRow_alloc_new]
              exact ⟨Has.new wr _ _, (Below.refl _ _).alloc (Nat.le_refl _) _⟩)
            have HXOK := Lib.hid hxok
            have EXC := Lib.hid hXC
            have hat := at_leaf0 b m cp i hlt
            have HLTI := Lib.hid hlt
            have HNX := Lib.hid (amL_take hx)
            have HI := Lib.hid (show i ≤ 6 by have := HM.out; omega)
            clear hrw hfl hxok hx hXC hrr hA2 hlt hi
            go_upto_region 27 with (first
              | (refine wpList_load_mid rfl 41 (.tmp 82) rfl b (i * 99) rfl XC _ HRW.out Tryz.underlying41 rfl SZ1.out ?_)
              | (refine wpList_store_row rfl 41 (.tmp 15) (.tmp 83) rfl wr.heap.size XC.toArray rfl rfl 41 zl (heap_alloc_new wr _) SZA.out HZZ.out HONE.out ?_))
            obtain ⟨h3, hk3⟩ := HNW.out XC.toArray
            have hb3 := HBE2.out.trans (hk3.mono HBE2.out.size)
            have hea3 := HEA.out.below hk3
            clear HNW hk3 hat
            generalize (wr.alloc (.cells zl 41)).setRow wr.heap.size XC.toArray = W26 at h3 hb3 hea3 ⊢
            generalize wr.heap.size = G15 at h3 ⊢
            have c32 : W26.cell? ⟨G15, 32, none⟩ = some (.int .u64 (x.am : Int)) := h3.cell_is (by rw [List.getElem?_toArray, EXC.out]; exact LeafT.at_am HXOK.out)
            obtain ⟨am, ham⟩ : ∃ a, a = x.am := ⟨_, rfl⟩
            rw [← ham] at c32 HNX
            have h64 : am < 18446744073709551616 := by rw [ham]; exact HXOK.out.am
            have HB26 := Lib.hid hb3
            have HEA26 := Lib.hid hea3
            have H64 := Lib.hid h64
            clear h3 hb3 hea3 ham h64
            go_wp2_with fail
            refine (of_is _ am H64.out).mono ?_
            rintro _ w27 ⟨⟨v', rfl, hv'⟩, hb27⟩
            obtain ⟨oa2, oc2, rfl, hd2⟩ := hv'.form
            have HB27 := Lib.hid (HB26.out.trans (hb27.mono HB26.out.size))
            have hadd := add_is w27 ea _ ec _ oa2 _ oc2 am (HEA26.out.below hb27) hd2 (amL_short HSO.out HI.out) (am_short H64.out)
            have HADD := Lib.hid hadd
            clear hv' hd2 hb27 hadd c32 HEA26
            go_wp2_with fail
            refine HADD.out.mono ?_
            rintro _ w28 ⟨⟨v2, rfl, hv2⟩, hb28⟩
            have HV2 := Lib.hid (show IsD w28 v2 (digs (amS (outs.take (i + 1)))) by rw [HNX.out]; exact hv2)
            have HB28 := Lib.hid (HB27.out.trans (hb28.mono HB27.out.size))
            clear hv2 hb28 HADD
            go_wp2_with fail
            go_roundw
            case rel => exact ⟨i + 1, by go_num, HLTI.out, HV2.out, HB28.out⟩
            case measure => have := HLTI.out; simp [intOf]; omega
          · obtain rfl : i = m := by omega
            have hno3 : ¬ (i : Int) < (i : Int) := by omega
            have hallo : outs.take i = outs := List.take_of_length_le (by rw [HOL.out]; exact Nat.le_refl _)
            have hea := HEA.out
            rw [hallo] at hea
            have HEF := Lib.hid hea
            have hs6 : (digs (amS outs)).length ≤ 1000 := by have := amL_short HSO.out (k := i) (by have := HM.out; omega); rwa [hallo] at this
            have HS6 := Lib.hid hs6
            rw [hallo]
            have hb29 := HB24.out.trans (HBE2.out.mono HB24.out.size)
            have HB29 := Lib.hid (HB18.out.trans (hb29.mono HB18.out.size))
            have HO29 := Lib.hid (HO18.out.below hb29)
            have H829 := Lib.hid (H818.out.below hb29 H818.out.lt)
            have HR29 := Lib.hid (HR18.out.below hb29)
            have HOUT29 := Lib.hid (HOUT18.out.below hb29)
            have HD29 := Lib.hid (HDF.out.below HBE2.out)
            have HCHK := Lib.hid (show ∀ (v : World) (ov : Value) (al : List Nat → List Nat → List Nat → Bool), Below wr.heap.size wr v → OffV v ov al → Calls Tryz.prog 13 #[.agg PC, ov] v fun e w' => e = .returned (.int .i64 (passE KS SS (fun f => al f.l.ow (whatK KS SS fs' (outs.headD ⟨[], 0, [], 0, zNd⟩).sp) f.tok) fs' outs)) ∧ Below v.heap.size v w' from fun v ov al hv ho => by
              have := psCheck_is KS SS v (HT.out.below (HB29.out.trans (hv.mono HB29.out.size)) hlow) ov al ho oa j oc fs' (HR29.out.below hv) HOK'.out HCAP.out hn (some ⟨b, 0, none⟩) i cp outs (HOUT29.out.below hv) HSO.out hm
              rw [← EPC.out] at this
              exact this)
            obtain ⟨E, hE⟩ : ∃ E, E = passE KS SS (fun f => allowedG [(TK, OW, WH)] f.l.ow (whatK KS SS fs' (outs.headD ⟨[], 0, [], 0, zNd⟩).sp) f.tok) fs' outs := ⟨_, rfl⟩
            have hch := HCHK.out wr (.pointer (some ⟨g, 0, none⟩)) _ (Below.refl _ _) (offV_some HO29.out)
            rw [← hE] at hch
            have HCH := Lib.hid hch
            have EE := Lib.hid hE
            clear hea hallo hs6 hb29 hch hE hlt hi HEA
            go_wp2_with (refine wpList_load_row rfl 47 (.tmp 9) rfl B9 rfl 47 PC (0, 0) _ H829.out Tryz.underlying47 rfl SZP.out ?_)
            refine HCH.out.mono ?_
            rintro _ w29 ⟨rfl, hb29⟩
            have HB29F := Lib.hid (HB29.out.trans (hb29.mono HB29.out.size))
            by_cases hE0 : E = 0
            · have hE2 : (E == 0) = true := by rw [beq_iff_eq]; exact hE0
              have hP0 := EE.out
              rw [hE0] at hP0
              have hsum := HPSUM.out _ _ hP0.symm
              have HEQ := Lib.hid (show amF' fs' = amS outs by rw [hsum, HRS.out])
              have HF := Lib.hid (show ∀ al', (∀ f ∈ fs', al' f = false) → passE KS SS al' fs' outs = 31 from fun al' h => pass_none h hP0.symm)
              have HDX := Lib.hid (HD29.out.below hb29)
              have HEX := Lib.hid (HEF.out.below hb29)
              have H8X := Lib.hid (H829.out.below hb29 H829.out.lt)
              have HBX := Lib.hid hb29
              obtain ⟨PL, hPL⟩ : ∃ L, L = PC.toList := ⟨_, rfl⟩
              have EPL := Lib.hid (show PC = PL.toArray by rw [hPL])
              have HRP := Lib.hid (show ∀ v, Below w29.heap.size w29 v → v.rangeAt B9 0 PL from fun v hv => by
               have := H8X.out.below hv H8X.out.lt
               rw [EPL.out] at this
               exact this.row0)
              have SZPL := Lib.hid (show (Tryz.prog.info? 47).map (·.size) = some PL.length by have := SZP.out; rw [EPL.out, List.size_toArray] at this; exact this)
              clear hE0 hP0 hsum hb29 hPL HCH
              go_upto_region 30 with (fail)
              clear hE2
              have hS0 : Below w29.heap.size w29 w29.drew := (Below.refl _ _).drew
              refine wp_region_noPanic ?_
              refine wp_region_held_drew (S := (fun v => Below w29.heap.size w29 v)) (by kernel_rfl) hS0 (fun hH0 => ?_)
              apply tk 0 (v := _) rfl (Or.inl ⟨by kernel_rfl, ?hv⟩) hH0 ?_
              case hv => intro w' hS; go_simp; try exact rfl
              simp only [Act.put, qa]
              apply tk 1 (v := _) rfl (Or.inl ⟨by kernel_rfl, ?hv⟩) hH0 ?_
              case hv => intro w' hS; go_simp; try exact rfl
              simp only [Act.put, qa]
              refine wpAnyH_ready (rs := [2]) (by kernel_rfl) (by simp) ?_
              refine AllReadyH.cons rfl (fun KK hKK => ?_) AllReadyH.nil
              go_simp
              have hcmp := cmp_is w29.drew _ _ _ _ _ _ _ _ (HDX.out.below hH0) (HEX.out.below hH0) (by have := HJ6.out; omega) (by have := HS6.out; omega)
              rw [HEQ.out, cmp_self] at hcmp
              rw [HEQ.out]
              refine hcmp.mono ?_
              rintro _ x2 ⟨rfl, hx2⟩
              have hs2 := hH0.trans (hx2.mono hH0.size)
              clear hx2 hcmp
              refine Shut.out hKK _ _ hs2 (fun hH1 => ?_)
              clear hKK KK
              try simp only [Act.put, qa]
              apply tk 3 (v := _) rfl (Or.inl ⟨by kernel_rfl, ?hv⟩) hH1 ?_
              case hv => intro w' hS; go_simp; try exact rfl
              simp only [Act.put, qa]
              apply tk 4 (v := _) rfl (Or.inl ⟨by kernel_rfl, ?hv⟩) hH1 ?_
              case hv => intro w' hS; go_simp; try exact rfl
              simp only [Act.put, qa]
              refine tk 5 (v := (.agg PL.toArray)) rfl (yieldsIf_load_mid (by kernel_rfl) 47 (.tmp 9) rfl B9 0 rfl PL _ (fun w' h => HRP.out _ h) Tryz.underlying47 rfl SZPL.out) hH1 ?_
              simp only [Act.put, qa]
              refine wpAnyH_ready (rs := [6]) (by kernel_rfl) (by simp) ?_
              refine AllReadyH.cons rfl (fun KK hKK => ?_) AllReadyH.nil
              go_simp
              refine (tkNew_is _).mono ?_
              rintro _ x6 ⟨g2, mb2, rfl, hoff2, hg2, hmb2, hx6⟩
              have hs6 := hH1.trans (hx6.mono hH1.size)
              have ho2 : OfficeAt x6 g2 mb2 [] 0 := ⟨hoff2, fun x hx => absurd hx List.not_mem_nil, Nat.le_trans hlow (Nat.le_trans HB29F.out.size (Nat.le_trans hH1.size hmb2))⟩
              clear hx6 hoff2
              refine Shut.out hKK _ _ hs6 (fun hH2 => ?_)
              clear hKK KK
              try simp only [Act.put, qa]
              refine wpAnyH_ready (rs := [7]) (by kernel_rfl) (by simp) ?_
              refine AllReadyH.cons rfl (fun KK hKK => ?_) AllReadyH.nil
              go_simp
              have hc7 := HCHK.out x6 (.pointer (some ⟨g2, 0, none⟩)) _ (HBX.out.trans (hH2.mono HBX.out.size)) (offV_some ho2)
              rw [HF.out _ (fun f _ => by unfold allowedG findG; rfl), EPL.out] at hc7
              refine hc7.mono ?_
              rintro _ x7 ⟨rfl, hx7⟩
              have hs7 := hH2.trans (hx7.mono hH2.size)
              clear hx7 hc7
              refine Shut.out hKK _ _ hs7 (fun hH3 => ?_)
              clear hKK KK
              try simp only [Act.put, qa]
              apply tk 8 (v := _) rfl (Or.inl ⟨by kernel_rfl, ?hv⟩) hH3 ?_
              case hv => intro w' hS; go_simp; try exact rfl
              simp only [Act.put, qa]
              apply tk 9 (v := _) rfl (Or.inl ⟨by kernel_rfl, ?hv⟩) hH3 ?_
              case hv => intro w' hS; go_simp; try exact rfl
              simp only [Act.put, qa]
              apply tk 10 (v := _) rfl (Or.inl ⟨by kernel_rfl, ?hv⟩) hH3 ?_
              case hv => intro w' hS; go_simp; try exact rfl
              simp only [Act.put, qa]
              refine tk 11 (v := (.agg PL.toArray)) rfl (yieldsIf_load_mid (by kernel_rfl) 47 (.tmp 9) rfl B9 0 rfl PL _ (fun w' h => HRP.out _ h) Tryz.underlying47 rfl SZPL.out) hH3 ?_
              simp only [Act.put, qa]
              refine wpAnyH_ready (rs := [12]) (by kernel_rfl) (by simp) ?_
              refine AllReadyH.cons rfl (fun KK hKK => ?_) AllReadyH.nil
              go_simp
              have hc12 := HCHK.out x7 (.pointer none) _ (HBX.out.trans (hH3.mono HBX.out.size)) (offV_nil x7)
              rw [HF.out _ (fun f _ => rfl), EPL.out] at hc12
              refine hc12.mono ?_
              rintro _ x12 ⟨rfl, hx12⟩
              have hs12 := hH3.trans (hx12.mono hH3.size)
              clear hx12 hc12
              refine Shut.out hKK _ _ hs12 (fun hH4 => ?_)
              clear hKK KK
              try simp only [Act.put, qa]
              apply tk 13 (v := _) rfl (Or.inl ⟨by kernel_rfl, ?hv⟩) hH4 ?_
              case hv => intro w' hS; go_simp; try exact rfl
              simp only [Act.put, qa]
              apply tk 14 (v := _) rfl (Or.inl ⟨by kernel_rfl, ?hv⟩) hH4 ?_
              case hv => intro w' hS; go_simp; try exact rfl
              simp only [Act.put, qa]
              apply tk 15 (v := _) rfl (Or.inl ⟨by kernel_rfl, ?hv⟩) hH4 ?_
              case hv => intro w' hS; go_simp; try exact rfl
              simp only [Act.put, qa]
              refine wpAnyH_done (by kernel_rfl) ?_ _
              refine NoPanic.normal ?_
              have HFN := Lib.hid (HB29F.out.trans (hs12.mono HB29F.out.size))
              clear hs2 hs6 hs7 hs12 ho2 hS0
              go_wp2_with fail
              go_ret
              exact ⟨rfl, HFN.out⟩
            · have hE2 : (E == 0) = false := by rw [beq_eq_false_iff_ne]; exact hE0
              clear hE0 hb29
              go_wp2_with fail
              go_ret
              exact ⟨rfl, HB29F.out⟩
end Go.Proofs.YtniakgoefkbkhaaGreatDoor

