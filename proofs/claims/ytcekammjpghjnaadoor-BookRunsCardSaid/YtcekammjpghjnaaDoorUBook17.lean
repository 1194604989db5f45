/- The walk of Settle. -/
import Derived.Test.YtcekammjpghjnaaDoorWs
import Derived.Test.YtcekammjpghjnaaDoorUBook14
import Derived.Test.YtcekammjpghjnaaDoorUSha7
namespace Go.Proofs.YtcekammjpghjnaaDoor
set_option linter.unusedVariables false
set_option linter.unusedSimpArgs false
open Go.ChangeShapes Go.WideShapes Go.ChangeAt Go.RowKit Go.Maps

theorem off_lock {w : World} {G : Nat} {t : TypeId} {o : Off} (ho : o.ok) (h : Has w G t o.cells.toArray) : w.rangeAt G 35 (bcells o.lock) := fun j u hu => by
 have hj := (List.getElem?_eq_some_iff.1 hu).1
 have h32 := ho.1.1
 refine h.cell_is ?_
 rw [List.getElem?_toArray, Off.cells, List.getElem?_append_right (by simp; omega), List.getElem?_append_right (by simp [bcells_length]; omega)]
 simp only [List.length_cons, List.length_nil, bcells_length, h32]
 rw [show 35 + j - (0 + 1 + 1) - 32 = j + 1 by omega, List.getElem?_cons_succ, List.getElem?_append_left (by omega)]
 exact hu

set_option maxRecDepth 100000 in
set_option maxHeartbeats 1000000 in
theorem settle_none (w : World) (g m0 m1 : Nat) (v : Value) (b : Bk) (frm no : Int) (sec : List Nat) (h : BookAt w g m0 m1 v b) (hb : b.ok) (hf : findI b.offers frm no = -1) :
  Calls Tryd.prog 13 #[.pointer (some ⟨g, 0, none⟩), .int .i64 frm, .int .i64 no, arr sec] w fun e w' => e = .returned (.int .i64 5) ∧ Below w.heap.size w w' := by
 have hk := (Kept.refl (fun _ => False) w).alloc (.cells (bcells sec).toArray 39)
 have hfind := find_is _ g m0 m1 v b frm no (h.kept hk (fun _ _ h => h)) hb
 rw [hf] at hfind
 unfold arr
 obtain ⟨L, hL⟩ : ∃ L, L = bcells sec := ⟨_, rfl⟩
 rw [← hL] at hk hfind ⊢
 have HFIND := Lib.hid hfind
 have HK := Lib.hid hk
 clear hfind hf h hb hL hk
 go_enter Tryd.func13, Tryd.ntmps13
 go_upto_region 1 with (fail)
 generalize w.alloc (.cells L.toArray 39) = W at HFIND HK ⊢
 go_wp2_with fail
 refine HFIND.out.mono ?_
 rintro _ w2 ⟨rfl, hb2⟩
 have HB2 := Lib.hid hb2
 clear hb2
 go_wp2
 go_ret
 exact ⟨rfl, (HK.out.below (Nat.le_refl _) (fun _ h => h.elim)).trans (HB2.out.mono HK.out.size)⟩

def SettleP (K s0 : List Wd) (w : World) (g m0 m1 : Nat) (v : Value) (b : Bk) (i : Nat) (o : Off) (sec : List Nat) (e : Ending) (w' : World) : Prop :=
 (digest K s0 sec ≠ o.lock → e = .returned (.int .i64 31) ∧ Below w.heap.size w w') ∧
 (digest K s0 sec = o.lock → e = .returned (.int .i64 0) ∧ ∃ v', BookAt w' g m0 m1 v' (giveB b i (1 - o.frm) o) ∧ Kept (bset g m0 m1 v) w w' ∧ v'.ownBlock = v.ownBlock)

set_option maxRecDepth 100000 in
set_option maxHeartbeats 4000000 in
theorem settle_at (K s0 : List Wd) (w : World) (hT : Tabs K s0 w) (g m0 m1 : Nat) (v : Value) (b : Bk) (frm no : Int) (sec : List Nat) (hsec : IsHash sec) (h : BookAt w g m0 m1 v b) (hb : b.ok) (i : Nat) (o : Off) (hi : b.offers[i]? = some o) (hf : findI b.offers frm no = i) (hs : isSide o.frm) (hfit : b.has (1 - o.frm) o.id + o.am < 18446744073709551616) :
   Calls Tryd.prog 13 #[.pointer (some ⟨g, 0, none⟩), .int .i64 frm, .int .i64 no, arr sec] w (SettleP K s0 w g m0 m1 v b i o sec) := by
 have hk0 := (Kept.refl (fun _ => False) w).alloc (.cells (bcells sec).toArray 39)
 have hbox := Has.new w 39 (bcells sec).toArray
 have hT1 : Tabs K s0 (w.alloc (.cells (bcells sec).toArray 39)) := hT.kept hk0 (fun _ h => h.elim)
 have hil := (List.getElem?_eq_some_iff.1 hi).1
 have hom := hb.off o (List.mem_of_getElem? hi)
 obtain ⟨B, cap, cur, rfl, _, hBh, hc1, hc2, hc3, hc4⟩ := own_open h.row (by omega)
 have hat1 := h.kept hk0 (fun _ _ h => h)
 have hfind := find_is _ g m0 m1 _ b frm no hat1 hb
 rw [hf] at hfind
 have HFIND := Lib.hid hfind
 have HAT := Lib.hid hat1
 have HK0 := Lib.hid hk0
 have HBOX := Lib.hid hbox
 have HT1 := Lib.hid hT1
 have HSEC := Lib.hid hsec
 have HLEN := Lib.hid hT.len
 have HLT := Lib.hid (show ∀ k, bset g m0 m1 (.slice (some ⟨B, 0, none⟩) b.offers.length cap) k → k < w.heap.size from h.lt)
 have HB := Lib.hid hb
 have HI := Lib.hid hi
 have HS := Lib.hid hs
 have HOM := Lib.hid hom
 obtain ⟨x, hx⟩ : ∃ x, x = numOf (look (b.side (1 - o.frm)) o.id) := ⟨_, rfl⟩
 unfold Bk.has at hfit
 rw [← hx] at hfit
 have HFIT := Lib.hid hfit
 have HX := Lib.hid hx
 have HCAP := Lib.hid hc1
 have hn := hb.len
 have hlen := o.length hom
 have sz33 : (Tryd.prog.info? 42).map (·.size) = some o.cells.length := by rw [hlen]; kernel_rfl
 have SZ33 := Lib.hid sz33
 obtain ⟨Z, hz, hzs, hzn⟩ := zero_off
 have HS33 := Lib.hid (show (Tryd.prog.info? 42).map (·.size) = some o.cells.toArray.size by rw [List.size_toArray]; exact SZ33.out)
 have HZZ := Lib.hid (show Z.size = o.cells.toArray.size by rw [hzs, List.size_toArray, hlen])
 have HONE := Lib.hid (show o.cells.toArray.all (·.oneCell') = true from all_oneCell_toArray (off_one o))
 obtain ⟨n, hn9⟩ : ∃ n, n = b.offers.length := ⟨_, rfl⟩
 rw [← hn9] at hil hn HAT ⊢
 have HN9 := Lib.hid hn9
 obtain ⟨L, hL⟩ : ∃ L, L = bcells sec := ⟨_, rfl⟩
 have hLl : L.length = 32 := by rw [hL, bcells_length, hsec.1]
 have HLL := Lib.hid hLl
 unfold arr
 rw [← hL] at HAT HK0 HBOX HT1 HFIND ⊢
 have HL := Lib.hid hL
 have hib : (i : Int) < 1000 := by omega
 have hi0 : ¬ (i : Int) < 0 := by omega
 clear hL hLl hk0 hbox hT1 hT hat1 hsec hfind h hb hi hs hom hfit hx hc1 hc2 hc3 hc4 hBh sz33 hlen hf hn9
 go_enter Tryd.func13, Tryd.ntmps13
 go_upto_region 1 with (fail)
 generalize w.alloc (.cells L.toArray 39) = W0 at HAT HK0 HBOX HT1 HFIND ⊢
 go_wp2_with fail
 refine HFIND.out.mono ?_
 rintro _ W ⟨rfl, hb2⟩
 have hkW0 : Kept (fun _ => False) W0 W := Kept.of_below hb2
 have hkW : Kept (fun _ => False) w W := HK0.out.trans hkW0
 have HBX := Lib.hid (HBOX.out.kept hkW0 (fun h => h))
 have HTW := Lib.hid (HT1.out.kept hkW0 (fun _ h => h.elim))
 have hat := HAT.out.kept hkW0 (fun _ _ h => h)
 have c2 : W.cell? ⟨g, 2, none⟩ = some (.slice (some ⟨B, 0, none⟩) n cap) := hat.obj.cell_is rfl
 obtain ⟨go_, cap', hv, hBg, hgo, hrng⟩ := off_range (HN9.out ▸ hat.row) HB.out.off HI.out
 injection hv with hv1 hv2 hv3
 injection hv1 with hv1
 injection hv1 with hv1 _ _
 subst hv1 hv3
 have HAT2 := Lib.hid hat
 have HKW := Lib.hid hkW
 have HRW := Lib.hid hrng
 have hnw : ∀ C, Has ((W.alloc (.cells Z 42)).setRow W.heap.size C) W.heap.size 42 C ∧ Kept (fun _ => False) W ((W.alloc (.cells Z 42)).setRow W.heap.size C) := fun C => by
   rw [World.setRow_alloc_new]
   exact ⟨Has.new W _ _, (Kept.refl _ _).alloc _⟩
 have HNW := Lib.hid hnw
 clear hkW0 hb2 hkW hat hrng hv2 hnw HAT HFIND
 go_upto_region 7 with (first
   | (refine wpList_load_mid rfl 42 (.tmp 24) rfl B (i * 68) rfl o.cells _ (by rw [Nat.mul_comm]; exact HRW.out) Tryd.underlying42 rfl SZ33.out ?_)
   | (refine wpList_store_row rfl 42 (.tmp 10) (.tmp 25) rfl W.heap.size o.cells.toArray rfl rfl 42 Z (heap_alloc_new W _) HS33.out HZZ.out HONE.out ?_))
 have hGlt : ∀ k, bset g m0 m1 (.slice (some ⟨B, 0, none⟩) n cap) k → k ≠ W.heap.size := fun k hk e => by have := HAT2.out.lt k hk; omega
 have HGLT := Lib.hid hGlt
 obtain ⟨h3, hk3⟩ := HNW.out o.cells.toArray
 clear HNW hGlt
 generalize (W.alloc (.cells Z 42)).setRow W.heap.size o.cells.toArray = W9 at h3 hk3 ⊢
 have hb9 := HBX.out.kept hk3 (fun h => h)
 have rl0 : W9.drew.rangeAt W.heap.size 35 (bcells o.lock) := off_lock HOM.out h3
 have rl1 : (W9.drew.alloc (.cells #[.slice (some ⟨w.heap.size, 0, none⟩) 32 32] 87)).rangeAt W.heap.size 35 (bcells o.lock) := rangeAt_kept rl0 ((Kept.refl (fun _ => False) W9.drew).alloc _) (fun h => h)
 have htx : Tabs K s0 (W9.drew.alloc (.cells #[.slice (some ⟨w.heap.size, 0, none⟩) 32 32] 87)) := (HTW.out.kept hk3 (fun _ h => h.elim)).drew.kept ((Kept.refl (fun _ => False) W9.drew).alloc _) (fun _ h => h.elim)
 have hparts : Parts (W9.drew.alloc (.cells #[.slice (some ⟨w.heap.size, 0, none⟩) 32 32] 87)) (.slice (some ⟨W9.heap.size, 0, none⟩) 1 1) [sec] := by
   refine ⟨_, _, rfl, fun _ => ⟨W9.heap.size, 0, rfl, fun i hi => ?_⟩⟩
   have hi0 : i = 0 := by simpa using hi
   subst hi0
   refine ⟨.slice (some ⟨w.heap.size, 0, none⟩) 32 32, (Has.new W9.drew 87 #[.slice (some ⟨w.heap.size, 0, none⟩) 32 32]).cell_is rfl, ?_⟩
   change Bytes _ _ _ sec
   have hs32 := HSEC.out.1
   refine ⟨some ⟨w.heap.size, 0, none⟩, 32, by rw [hs32], by omega, HSEC.out.2, fun _ => ⟨w.heap.size, 0, rfl, by have := hb9.lt; simp; omega, fun i hi => ?_⟩⟩
   refine (hb9.drew.alloc _).cell_is ?_
   rw [HL.out, Nat.zero_add, List.getElem?_toArray]
   exact bcells_get sec i hi
 have szl : (Tryd.prog.info? 39).map (·.size) = some (bcells o.lock).length := by rw [bcells_length, HOM.out.2.1.1]; kernel_rfl
 have hu30 := hash_under
 have hsum := sum_is K s0 _ _ [sec] htx hparts (by simp [HSEC.out.1]) (by simp)
 rw [show [sec].flatten = sec by simp] at hsum
 have hdh := digest_hash K s0 HLEN.out sec
 obtain ⟨D, hD⟩ : ∃ D, D = digest K s0 sec := ⟨_, rfl⟩
 rw [← hD] at hsum hdh
 have HD := Lib.hid hD
 have heq := fun w => hash_eqIn D o.lock hdh HOM.out.2.1 w
 unfold arr at heq hsum
 have HSUM := Lib.hid hsum
 have H3 := Lib.hid h3
 have HK3 := Lib.hid hk3
 have HTW9 := Lib.hid (HTW.out.kept hk3 (fun _ h => h.elim))
 obtain ⟨LK, hLK⟩ : ∃ I, I = bcells o.lock := ⟨_, rfl⟩
 obtain ⟨DV, hDV⟩ : ∃ I, I = bcells D := ⟨_, rfl⟩
 rw [← hLK] at rl0 rl1 szl heq
 rw [← hDV] at heq HSUM
 have HGG := Lib.hid (show W.heap.size < W9.heap.size from h3.lt)
 clear hLK hDV hdh hD hb9 htx hparts hsum h3 hk3 HT1
 by_cases hc : D = o.lock
 · rw [decide_eq_true hc] at heq
   have HC := Lib.hid hc
   clear hc
   go_region_held3 (fun w' => w'.rangeAt W.heap.size 35 LK) (first | exact rl0 | exact rl1 | exact rangeAt_kept rl1 (Kept.of_below (S := fun _ => False) hb5) (fun h => h)) (first | (go_at_call 32; refine HSUM.out.mono ?_; rintro _ w5 ⟨rfl, hb5⟩))
   have hk35 : Kept (fun _ => False) W9 w5 := ((Kept.refl (fun _ => False) W9).drew.alloc (.cells #[.slice (some ⟨w.heap.size, 0, none⟩) 32 32] 87)).trans (Kept.of_below hb5)
   have h5 := H3.out.kept hk35 (fun h => h)
   have hat3 := (HAT2.out.kept HK3.out (fun _ _ h => h)).kept hk35 (fun _ _ h => h)
   have hk35 := HK3.out.trans hk35
   have HS2 := Lib.hid (show isSide (1 - o.frm) by have := HS.out; unfold isSide at this ⊢; omega)
   clear hb5 rl0 rl1 szl heq
   obtain ⟨d0, d1, d34, d67⟩ := off_has h5 HOM.out
   have hri := off_id h5
   obtain ⟨m, c, hm, hmm⟩ := hat3.sided (1 - o.frm) HS2.out
   obtain ⟨hf1, hf2⟩ := hat3.far (1 - o.frm) m hmm
   have q := lookup_is (T := 68) Tryd.underlying68 zero_u64 hm.drew HOM.out.1
   obtain ⟨w1, v0, st, q1, hk1, ⟨hm1, hv0⟩, hst⟩ := entry_is (T := 68) Tryd.underlying68 zero_u64 hm.drew HOM.out.1
   rw [look_num (HB.out.side (1 - o.frm)), ← HX.out] at q hv0
   have q3 := lookup_is (T := 68) Tryd.underlying68 zero_u64 hm1 HOM.out.1
   rw [look_putL, Option.getD_some] at q3
   subst hv0
   clear hm1
   obtain ⟨w2, q2, hm2, hk2⟩ := hst (.int .u64 (IntKind.u64.wrap ((x : Int) + (o.am : Int))))
   have hu30 := hash_under
   have szi : (Tryd.prog.info? 39).map (·.size) = some (bcells o.id).length := by rw [bcells_length, HOM.out.1.1]; kernel_rfl
   have hGm : W.heap.size ≠ m := fun e => HGLT.out m (by rw [hmm]; split; exact .inr (.inl rfl); exact .inr (.inr (.inl rfl))) e.symm
   have hfin2 : BookAt w2 g m0 m1 (.slice (some ⟨B, 0, none⟩) n cap) (b.put (1 - o.frm) (addL (b.side (1 - o.frm)) o.id o.am)) ∧ Kept (bset g m0 m1 (.slice (some ⟨B, 0, none⟩) n cap)) w w2 := by
    have hwr : IntKind.u64.wrap ((x : Int) + (o.am : Int)) = ((x + o.am : Nat) : Int) := by have := HFIT.out; rw [IntKind.wrap_u64]; omega
    refine ⟨(hat3.kept ((Kept.refl (fun _ => False) w5).drew) (fun _ _ h => h)).put (1 - o.frm) HS2.out m hmm _ ?_ hk2 hf1 hf2, ((HKW.out.trans hk35).mono (fun _ _ h => h.elim)).step hk2.undrew (fun k hk => .inl ?_)⟩
    · unfold addL; rw [← HX.out, ← hwr]; exact hm2
    · subst hk
      rw [hmm]
      split
      · exact .inr (.inl rfl)
      · exact .inr (.inr (.inl rfl))
   have r1 : w1.rangeAt W.heap.size 2 (bcells o.id) := rangeAt_kept (show w5.drew.rangeAt _ _ _ from hri) hk1 hGm
   have r2 : w2.rangeAt W.heap.size 2 (bcells o.id) := rangeAt_kept (show w5.drew.rangeAt _ _ _ from hri) hk2 hGm
   have x1 := cell_held hk1 (show w5.drew.cell? _ = _ from d1) hGm
   have x2 := cell_held hk2 (show w5.drew.cell? _ = _ from d1) hGm
   have y1 := cell_held hk1 (show w5.drew.cell? _ = _ from d34) hGm
   have y2 := cell_held hk2 (show w5.drew.cell? _ = _ from d34) hGm
   have z1 := cell_held hk1 (show w5.drew.cell? _ = _ from c) hf2
   have z2 := cell_held hk2 (show w5.drew.cell? _ = _ from c) hf2
   have hrd : w5.drew.rangeAt W.heap.size 2 (bcells o.id) := hri
   have hfr0 : (0 : Int) ≤ o.frm := by rcases HS.out with e | e <;> rw [e] <;> decide
   have hfr1 : o.frm < 2 := by rcases HS.out with e | e <;> rw [e] <;> decide
   obtain ⟨-, curx, hBx, hcx1, hcx2, hcx3, hcx4⟩ := hfin2.1.opened
   rw [put_offers] at hcx4
   have hdel := delete_at w2 b.offers HB.out.off HB.out.len B cap i curx (by rw [← HN9.out]; exact hil) hBx (by rw [← HN9.out]; exact hcx1) hcx2 hcx3 (by rw [← HN9.out]; exact hcx4) (i + 1) rfl
   rw [← HN9.out] at hdel
   have hi1 : ((i + 1 : Nat) : Int) = (i : Int) + 1 := by omega
   rw [hi1] at hdel
   have HDEL := Lib.hid hdel
   have HEND := Lib.hid (fun w6 cur2 => give_fin (w6 := w6) hfin2.1 hfin2.2 hil hcx1 hcx2 HN9.out cur2)
   have c5 : w2.cell? ⟨g, 2, none⟩ = some (.slice (some ⟨B, 0, none⟩) n cap) := hfin2.1.obj.cell_is rfl
   clear hdel hi1 hBx hcx1 hcx2 hcx3 hcx4
   unfold arr at q q1 q3
   obtain ⟨G, hG⟩ : ∃ G, G = W.heap.size := ⟨_, rfl⟩
   obtain ⟨I, hI⟩ : ∃ I, I = bcells o.id := ⟨_, rfl⟩
   obtain ⟨fr, hfr⟩ : ∃ fr, fr = o.frm := ⟨_, rfl⟩
   obtain ⟨am, ham⟩ : ∃ am, am = o.am := ⟨_, rfl⟩
   rw [← hI] at q q1 q3 szi r1 r2 hrd
   rw [← hfr] at d1 c x1 x2 z1 z2 hfr0 hfr1
   rw [← ham] at d34 y1 y2 q2
   rw [← hG] at d1 d34 r1 r2 x1 x2 y1 y2 hrd ⊢
   clear hk1 hst hm2 hk2 hfin2 hm hmm hf1 hf2 hGm hat3 hri h5 hk35 d0 d67 hI hfr ham hG
   have hq2 : IntKind.i64.wrap (1 - fr) = 1 - fr := by rw [IntKind.wrap_i64]; omega
   have hq3 : wrap64 (1 - fr) = 1 - fr := by unfold wrap64; omega
   obtain ⟨ot, hot⟩ : ∃ x, x = 1 - fr := ⟨_, rfl⟩
   have hq0 : (0 : Int) ≤ ot := by omega
   have hq1 : ot < 2 := by omega
   rw [← hot] at c z1 z2
   conv at hq2 => rhs; rw [← hot]
   conv at hq3 => rhs; rw [← hot]
   clear hot hfr0 hfr1
   go_upto_region 9 with (fail)
   go_region_held3 (fun w' => w'.cell? ⟨G, 1, none⟩ = some (.int .i64 fr) ∧ w'.cell? ⟨G, 34, none⟩ = some (.int .u64 (am : Int)) ∧ w'.cell? ⟨g, ot.toNat, none⟩ = some (.map (some m)) ∧ w'.rangeAt G 2 I) (first | exact ⟨d1, d34, c, hrd⟩ | exact ⟨x1, y1, z1, r1⟩ | exact ⟨x2, y2, z2, r2⟩) (fail)
   all_goals
    go_wp2_with fail
    refine HDEL.out.mono ?_
    rintro _ w6 ⟨rfl, cur2, k1, k2, k3, k4⟩
    obtain ⟨e1, c6, fz6⟩ := HEND.out w6 cur2 k1 k2 k3 k4
    have HE1 := Lib.hid e1
    clear k1 k2 k3 k4 e1
    go_wp2
    go_ret
    exact ⟨fun h => absurd (by rw [← HD.out]; exact HC.out) h, fun _ => ⟨rfl, HE1.out⟩⟩
 · rw [decide_eq_false hc] at heq
   have HC := Lib.hid hc
   clear hc
   go_region_held3 (fun w' => w'.rangeAt W.heap.size 35 LK) (first | exact rl0 | exact rl1 | exact rangeAt_kept rl1 (Kept.of_below (S := fun _ => False) hb5) (fun h => h)) (first | (go_at_call 32; refine HSUM.out.mono ?_; rintro _ w5 ⟨rfl, hb5⟩))
   go_wp2
   go_ret
   exact ⟨fun _ => ⟨rfl, ((HKW.out.trans HK3.out).drew.alloc (.cells #[.slice (some ⟨w.heap.size, 0, none⟩) 32 32] 87)).trans (Kept.of_below hb5) |>.below (Nat.le_refl _) (fun _ h => h.elim)⟩, fun h => absurd (by rw [HD.out]; exact h) HC.out⟩
end Go.Proofs.YtcekammjpghjnaaDoor

