/- The walk of Back. -/
import Derived.Test.YtcekammjpghjnaaDoorWs
import Derived.Test.YtcekammjpghjnaaDoorUBook12
namespace Go.Proofs.YtcekammjpghjnaaDoor
set_option linter.unusedVariables false
set_option linter.unusedSimpArgs false
open Go.ChangeShapes Go.WideShapes Go.ChangeAt Go.RowKit Go.Maps

set_option maxRecDepth 100000 in
set_option maxHeartbeats 1000000 in
theorem back_none (w : World) (g m0 m1 : Nat) (v : Value) (b : Bk) (frm no : Int) (h : BookAt w g m0 m1 v b) (hb : b.ok) (hf : findI b.offers frm no = -1) :
  Calls Tryd.prog 15 #[.pointer (some ⟨g, 0, none⟩), .int .i64 frm, .int .i64 no] w fun e w' => e = .returned (.int .i64 5) ∧ Below w.heap.size w w' := by
 have hfind := find_is w g m0 m1 v b frm no h hb
 rw [hf] at hfind
 have HFIND := Lib.hid hfind
 clear hfind hf h hb
 go_enter Tryd.func15, Tryd.ntmps15
 go_wp2_with fail
 refine HFIND.out.mono ?_
 rintro _ w2 ⟨rfl, hb2⟩
 have HB2 := Lib.hid hb2
 clear hb2
 go_wp2
 go_ret
 exact ⟨rfl, HB2.out⟩

def giveB (b : Bk) (i : Nat) (at_ : Int) (o : Off) : Bk := { b.put at_ (addL (b.side at_) o.id o.am) with offers := b.offers.eraseIdx i }

theorem BookAt.opened {w : World} {g m0 m1 B n cap : Nat} {b : Bk} (h : BookAt w g m0 m1 (.slice (some ⟨B, 0, none⟩) n cap) b) : n = b.offers.length ∧ ∃ cur, Has w B 42 cur ∧ n ≤ cap ∧ cap ≤ maxLen ∧ cur.size = cap * 68 ∧ cur.toList.take (n * 68) = b.offers.flatMap Off.cells := by
 rcases h.row.2 with ⟨e, _⟩ | ⟨g', cap', cur, e, _, hh, h1, h2, h3, h4⟩
 · cases e
 · injection e with e1 e2 e3
   injection e1 with e1
   injection e1 with e1 _ _
   subst e1 e3
   exact ⟨e2, cur, hh, by omega, h2, h3, by rw [e2]; exact h4⟩
theorem give_fin {w w2 w6 : World} {g m0 m1 B n cap i : Nat} {at_ : Int} {b : Bk} {o : Off} (hat : BookAt w2 g m0 m1 (.slice (some ⟨B, 0, none⟩) n cap) (b.put at_ (addL (b.side at_) o.id o.am))) (hk : Kept (bset g m0 m1 (.slice (some ⟨B, 0, none⟩) n cap)) w w2)
  (hi : i < n) (hcap : n ≤ cap) (hm : cap ≤ maxLen) (hn : n = b.offers.length) (cur2 : Array Value) (h2 : Has w6 B 42 cur2) (hs : cur2.size = cap * 68) (ht : cur2.toList.take ((n - 1) * 68) = (b.offers.eraseIdx i).flatMap Off.cells) (hk6 : Kept (fun k => k = B) w2 w6) :
  (∃ v', BookAt (w6.setCell ⟨g, 2, none⟩ (.slice (some ⟨B, 0, none⟩) (n - 1) cap)) g m0 m1 v' (giveB b i at_ o) ∧ Kept (bset g m0 m1 (.slice (some ⟨B, 0, none⟩) n cap)) w (w6.setCell ⟨g, 2, none⟩ (.slice (some ⟨B, 0, none⟩) (n - 1) cap)) ∧ v'.ownBlock = (Value.slice (some ⟨B, 0, none⟩) n cap).ownBlock) ∧
  w6.cell? ⟨g, 2, none⟩ = some (.slice (some ⟨B, 0, none⟩) n cap) ∧ w6.frozen? ⟨g, 2, none⟩ = false := by
 have hk7 : Kept (fun k => (Value.slice (some ⟨B, 0, none⟩) n cap).ownBlock = some k) w2 w6 := hk6.mono (fun k _ e => by rw [e]; rfl)
 have hne := own_has_ne hat.row hat.obj (by decide)
 have hg6 := hat.obj.kept hk7 (fun e => hne g e rfl)
 have hel : (b.offers.eraseIdx i).length = n - 1 := by rw [List.length_eraseIdx, if_pos (by omega)]; omega
 have hown : w6.ownsRow 0 42 68 (.slice (some ⟨B, 0, none⟩) (n - 1) cap) (b.offers.eraseIdx i).length ((b.offers.eraseIdx i).flatMap Off.cells) := by
  rw [hel]
  refine ⟨?_, .inr ⟨B, cap, cur2, rfl, Nat.zero_le _, h2, by omega, hm, hs, ht⟩⟩
  rw [← ht, List.length_take, Array.length_toList, hs]
  exact Nat.min_eq_left (Nat.mul_le_mul_right 68 (by omega))
 obtain ⟨a1, a2⟩ := hat.relaid hk7 (b.offers.eraseIdx i) hown
 exact ⟨⟨_, a1, hk.trans a2, rfl⟩, hg6.cell_is rfl, hg6.free 2⟩

set_option maxRecDepth 100000 in
set_option maxHeartbeats 4000000 in
theorem back_at (w : World) (g m0 m1 : Nat) (v : Value) (b : Bk) (frm no : Int) (h : BookAt w g m0 m1 v b) (hb : b.ok) (i : Nat) (o : Off) (hi : b.offers[i]? = some o) (hf : findI b.offers frm no = i) (hs : isSide o.frm) (hfit : b.has o.frm o.id + o.am < 18446744073709551616) :
  Calls Tryd.prog 15 #[.pointer (some ⟨g, 0, none⟩), .int .i64 frm, .int .i64 no] w fun e w' => e = .returned (.int .i64 0) ∧ ∃ v', BookAt w' g m0 m1 v' (giveB b i o.frm o) ∧ Kept (bset g m0 m1 v) w w' ∧ v'.ownBlock = v.ownBlock := by
 have hil := (List.getElem?_eq_some_iff.1 hi).1
 have hom := hb.off o (List.mem_of_getElem? hi)
 obtain ⟨B, cap, cur, rfl, _, hBh, hc1, hc2, hc3, hc4⟩ := own_open h.row (by omega)
 have hfind := find_is w g m0 m1 _ b frm no h hb
 rw [hf] at hfind
 have HFIND := Lib.hid hfind
 have HAT := Lib.hid h
 have HB := Lib.hid hb
 have HI := Lib.hid hi
 have HS := Lib.hid hs
 have HOM := Lib.hid hom
 obtain ⟨x, hx⟩ : ∃ x, x = numOf (look (b.side o.frm) o.id) := ⟨_, rfl⟩
 unfold Bk.has at hfit
 rw [← hx] at hfit
 have HFIT := Lib.hid hfit
 have HX := Lib.hid hx
 have HCAP := Lib.hid hc1
 have hn := hb.len
 have hlen := o.length hom
 have sz33 : (Tryd.prog.info? 42).map (·.size) = some o.cells.length := by rw [hlen]; kernel_rfl
 have SZ33 := Lib.hid sz33
 obtain ⟨Z, hz, hzs, hzn⟩ := zero_off
 have HS33 := Lib.hid (show (Tryd.prog.info? 42).map (·.size) = some o.cells.toArray.size by rw [List.size_toArray]; exact SZ33.out)
 have HZZ := Lib.hid (show Z.size = o.cells.toArray.size by rw [hzs, List.size_toArray, hlen])
 have HONE := Lib.hid (show o.cells.toArray.all (·.oneCell') = true from all_oneCell_toArray (off_one o))
 obtain ⟨n, hn9⟩ : ∃ n, n = b.offers.length := ⟨_, rfl⟩
 rw [← hn9] at hil hn HAT ⊢
 have HN9 := Lib.hid hn9
 have hib : (i : Int) < 1000 := by omega
 have hi0 : ¬ (i : Int) < 0 := by omega
 clear hfind h hb hi hs hom hfit hx hc1 hc2 hc3 hc4 hBh sz33 hlen hf hn9
 go_enter Tryd.func15, Tryd.ntmps15
 go_wp2_with fail
 refine HFIND.out.mono ?_
 rintro _ W ⟨rfl, hb2⟩
 have hkW : Kept (fun _ => False) w W := Kept.of_below hb2
 have hat := HAT.out.kept hkW (fun _ _ h => h)
 have c2 : W.cell? ⟨g, 2, none⟩ = some (.slice (some ⟨B, 0, none⟩) n cap) := hat.obj.cell_is rfl
 obtain ⟨go_, cap', hv, hBg, hgo, hrng⟩ := off_range (HN9.out ▸ hat.row) HB.out.off HI.out
 injection hv with hv1 hv2 hv3
 injection hv1 with hv1
 injection hv1 with hv1 _ _
 subst hv1 hv3
 have HAT2 := Lib.hid hat
 have HKW := Lib.hid hkW
 have HRW := Lib.hid hrng
 have hnw : ∀ C, Has ((W.alloc (.cells Z 42)).setRow W.heap.size C) W.heap.size 42 C ∧ Kept (fun _ => False) W ((W.alloc (.cells Z 42)).setRow W.heap.size C) := fun C => by
  rw [World.setRow_alloc_new]
  exact ⟨Has.new W _ _, (Kept.refl _ _).alloc _⟩
 have HNW := Lib.hid hnw
 clear hb2 hkW hat hrng hv2 hnw HAT HFIND
 go_upto_region 7 with (first
  | (refine wpList_load_mid rfl 42 (.tmp 22) rfl B (i * 68) rfl o.cells _ (by rw [Nat.mul_comm]; exact HRW.out) Tryd.underlying42 rfl SZ33.out ?_)
  | (refine wpList_store_row rfl 42 (.tmp 8) (.tmp 23) rfl W.heap.size o.cells.toArray rfl rfl 42 Z (heap_alloc_new W _) HS33.out HZZ.out HONE.out ?_))
 have hGlt : ∀ k, bset g m0 m1 (.slice (some ⟨B, 0, none⟩) n cap) k → k ≠ W.heap.size := fun k hk e => by have := HAT2.out.lt k hk; omega
 have HGLT := Lib.hid hGlt
 obtain ⟨h3, hk3⟩ := HNW.out o.cells.toArray
 clear HNW hGlt
 generalize (W.alloc (.cells Z 42)).setRow W.heap.size o.cells.toArray = W3 at h3 hk3 ⊢
 obtain ⟨d0, d1, d34, d67⟩ := off_has h3 HOM.out
 have hri := off_id h3
 have hat3 := HAT2.out.kept hk3 (fun _ _ h => h)
 obtain ⟨m, c, hm, hmm⟩ := hat3.sided o.frm HS.out
 obtain ⟨hf1, hf2⟩ := hat3.far o.frm m hmm
 have q := lookup_is (T := 68) Tryd.underlying68 zero_u64 hm.drew HOM.out.1
 obtain ⟨w1, v0, st, q1, hk1, ⟨hm1, hv0⟩, hst⟩ := entry_is (T := 68) Tryd.underlying68 zero_u64 hm.drew HOM.out.1
 rw [look_num (HB.out.side o.frm), ← HX.out] at q hv0
 have q3 := lookup_is (T := 68) Tryd.underlying68 zero_u64 hm1 HOM.out.1
 rw [look_putL, Option.getD_some] at q3
 subst hv0
 clear hm1
 obtain ⟨w2, q2, hm2, hk2⟩ := hst (.int .u64 (IntKind.u64.wrap ((x : Int) + (o.am : Int))))
 have hu30 := hash_under
 have szi : (Tryd.prog.info? 39).map (·.size) = some (bcells o.id).length := by rw [bcells_length, HOM.out.1.1]; kernel_rfl
 have hGm : W.heap.size ≠ m := fun e => HGLT.out m (by rw [hmm]; split; exact .inr (.inl rfl); exact .inr (.inr (.inl rfl))) e.symm
 have hfin2 : BookAt w2 g m0 m1 (.slice (some ⟨B, 0, none⟩) n cap) (b.put o.frm (addL (b.side o.frm) o.id o.am)) ∧ Kept (bset g m0 m1 (.slice (some ⟨B, 0, none⟩) n cap)) w w2 := by
  have hwr : IntKind.u64.wrap ((x : Int) + (o.am : Int)) = ((x + o.am : Nat) : Int) := by have := HFIT.out; rw [IntKind.wrap_u64]; omega
  refine ⟨(hat3.kept ((Kept.refl (fun _ => False) W3).drew) (fun _ _ h => h)).put o.frm HS.out m hmm _ ?_ hk2 hf1 hf2, ((HKW.out.trans hk3).mono (fun _ _ h => h.elim)).step hk2.undrew (fun k hk => .inl ?_)⟩
  · unfold addL; rw [← HX.out, ← hwr]; exact hm2
  · subst hk
    rw [hmm]
    split
    · exact .inr (.inl rfl)
    · exact .inr (.inr (.inl rfl))
 have r1 : w1.rangeAt W.heap.size 2 (bcells o.id) := rangeAt_kept (show W3.drew.rangeAt _ _ _ from hri) hk1 hGm
 have r2 : w2.rangeAt W.heap.size 2 (bcells o.id) := rangeAt_kept (show W3.drew.rangeAt _ _ _ from hri) hk2 hGm
 have x1 := cell_held hk1 (show W3.drew.cell? _ = _ from d1) hGm
 have x2 := cell_held hk2 (show W3.drew.cell? _ = _ from d1) hGm
 have y1 := cell_held hk1 (show W3.drew.cell? _ = _ from d34) hGm
 have y2 := cell_held hk2 (show W3.drew.cell? _ = _ from d34) hGm
 have z1 := cell_held hk1 (show W3.drew.cell? _ = _ from c) hf2
 have z2 := cell_held hk2 (show W3.drew.cell? _ = _ from c) hf2
 have hrd : W3.drew.rangeAt W.heap.size 2 (bcells o.id) := hri
 have hfr0 : (0 : Int) ≤ o.frm := by rcases HS.out with e | e <;> rw [e] <;> decide
 have hfr1 : o.frm < 2 := by rcases HS.out with e | e <;> rw [e] <;> decide
 obtain ⟨-, curx, hBx, hcx1, hcx2, hcx3, hcx4⟩ := hfin2.1.opened
 rw [put_offers] at hcx4
 have hdel := delete_at w2 b.offers HB.out.off HB.out.len B cap i curx (by rw [← HN9.out]; exact hil) hBx (by rw [← HN9.out]; exact hcx1) hcx2 hcx3 (by rw [← HN9.out]; exact hcx4) (i + 1) rfl
 rw [← HN9.out] at hdel
 have hi1 : ((i + 1 : Nat) : Int) = (i : Int) + 1 := by omega
 rw [hi1] at hdel
 have HDEL := Lib.hid hdel
 have HEND := Lib.hid (fun w6 cur2 => give_fin (w6 := w6) hfin2.1 hfin2.2 hil hcx1 hcx2 HN9.out cur2)
 have c5 : w2.cell? ⟨g, 2, none⟩ = some (.slice (some ⟨B, 0, none⟩) n cap) := hfin2.1.obj.cell_is rfl
 clear hdel hi1 hBx hcx1 hcx2 hcx3 hcx4
 unfold arr at q q1 q3
 obtain ⟨G, hG⟩ : ∃ G, G = W.heap.size := ⟨_, rfl⟩
 obtain ⟨I, hI⟩ : ∃ I, I = bcells o.id := ⟨_, rfl⟩
 obtain ⟨fr, hfr⟩ : ∃ fr, fr = o.frm := ⟨_, rfl⟩
 obtain ⟨am, ham⟩ : ∃ am, am = o.am := ⟨_, rfl⟩
 rw [← hI] at q q1 q3 szi r1 r2 hrd
 rw [← hfr] at d1 c x1 x2 z1 z2 hfr0 hfr1
 rw [← ham] at d34 y1 y2 q2
 rw [← hG] at d1 d34 r1 r2 x1 x2 y1 y2 hrd ⊢
 clear hk1 hst hm2 hk2 hfin2 hm hmm hf1 hf2 hGm hat3 hri h3 hk3 d0 d67 hI hfr ham hG hz
 go_region_held3 (fun w' => w'.cell? ⟨G, 1, none⟩ = some (.int .i64 fr) ∧ w'.cell? ⟨G, 34, none⟩ = some (.int .u64 (am : Int)) ∧ w'.cell? ⟨g, fr.toNat, none⟩ = some (.map (some m)) ∧ w'.rangeAt G 2 I) (first | exact ⟨d1, d34, c, hrd⟩ | exact ⟨x1, y1, z1, r1⟩ | exact ⟨x2, y2, z2, r2⟩) (fail)
 all_goals
  go_wp2_with fail
  refine HDEL.out.mono ?_
  rintro _ w6 ⟨rfl, cur2, k1, k2, k3, k4⟩
  obtain ⟨e1, c6, fz6⟩ := HEND.out w6 cur2 k1 k2 k3 k4
  have HE1 := Lib.hid e1
  clear k1 k2 k3 k4 e1
  go_wp2
  go_ret
  exact ⟨rfl, HE1.out⟩
end Go.Proofs.YtcekammjpghjnaaDoor

