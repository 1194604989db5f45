/- The walk of LeafWrites. -/
import Derived.Test.YtniakgoefkbkhaaGreatDoorWs
import Derived.Test.YtniakgoefkbkhaaGreatDoorWLx1
import Derived.Test.YtniakgoefkbkhaaGreatDoorWLb5
import Derived.Test.YtniakgoefkbkhaaGreatDoorWMem
import Derived.Test.YtniakgoefkbkhaaGreatDoorWMsum3
import Derived.Test.YtniakgoefkbkhaaGreatDoorWPf2
import Derived.Deep.Slices
namespace Go.Proofs.YtniakgoefkbkhaaGreatDoor
set_option linter.unusedVariables false
set_option linter.unusedSimpArgs false
open Go.ChangeShapes Go.WideShapes Go.ChangeAt Go.RowKit Go.Maps

def lbs (l : LeafT) : List Nat := if leafBad l = true then [] else leafB l
def lex (l : LeafT) : Nat := if leafBad l = true then 1 else 0
theorem TvP.lf {w : World} {l : LeafT} (h : l.ok) {e : Ending} {w' : World} (hm : TvP w (lenc l) e w') : ∃ a c, e = .returned (.tuple #[.slice a (lbs l).length c, .int .i64 (lex l : Int)]) ∧ Bytes w' w'.heap.size (.slice a (lbs l).length c) (lbs l) ∧ Below w.heap.size w w' := by
 unfold lbs lex
 cases hb : leafBad l with
 | true =>
  rw [show lenc l = .error 1 by unfold lenc; rw [hb]; rfl] at hm
  obtain ⟨h1, h2⟩ := (show e = .returned (.tuple #[.slice none 0 0, .int .i64 ((1 : Nat) : Int)]) ∧ Below _ _ w' from hm)
  exact ⟨none, 0, h1, bytes_nil _ _ _ _, h2⟩
 | false =>
  rw [show lenc l = .ok (leafB l) by unfold lenc; rw [hb]; rfl] at hm
  obtain ⟨v, h1, ⟨a, c, h2, h3⟩, h4⟩ := (show ∃ v', e = .returned (.tuple #[v', .int .i64 0]) ∧ BigW _ _ (leafB l) v' w' from hm)
  subst h2
  exact ⟨a, c, h1, own_bytes h3 rfl (leafB_lt l h) (Nat.le_refl _), h4⟩
theorem sz_small253 {x : Nat} (h : x < 253) : (szB x).length = 1 := by rw [sz_len, if_pos h]
theorem leafB_len (l : LeafT) (h : l.ok) : (leafB l).length = 32 + 8 + 32 + 1 + 40 + 10 := by
 have e1 := h.id.1
 have e2 := h.ow.1
 have e3 := h.sp.1
 have e4 := eight_len' l.am
 have e5 := eight_len' l.sp.s
 simp [leafB, recsOf, recB, sz_small253, e1, e2, e3, e4, e5]
theorem lex_E (l : LeafT) : leafE l = (lex l : Int) := by
 unfold leafE lex
 cases leafBad l <;> rfl
set_option maxRecDepth 100000 in
set_option maxHeartbeats 8000000 in
theorem leafWrites_walk (w : World) (hT : Tabs KS SS w) (hsz : SzAt w) (l : LeafT) (h : l.ok) :
   Calls Tryz.prog 4 #[.agg l.cells.toArray] w fun e w' => e = .returned (.bool true) ∧ Below w.heap.size w w' := by
 have hlow := hT.low
 obtain ⟨LC, hLC⟩ : ∃ L, L = l.cells := ⟨_, rfl⟩
 have HEN := Lib.hid (fun v => lfEncode_is v l h)
 have HRE := Lib.hid (fun v => rzEncode_is v l h)
 have HCK := Lib.hid (fun v => leafCheck_is v l h)
 have HPL := Lib.hid (fun v => lwPlain_is v l h)
 have HSU := Lib.hid (fun v => lfSum_is v l h)
 obtain ⟨D, hD⟩ : ∃ D, D = keyK KS SS l := ⟨_, rfl⟩
 have hDH : IsHash D := by rw [hD]; exact tagD_hash KS SS hT.len _ _
 have HKY := Lib.hid (fun v hv => lfKey_is KS SS v hv l h)
 have HRK := Lib.hid (fun v => rzKey_is KS SS ks_len ss_len v l h)
 rw [← hLC] at HEN HRE HCK HPL HSU HKY HRK ⊢
 rw [← hD] at HKY HRK
 have hbx := Has.new w 41 LC.toArray
 obtain ⟨W1, hW1⟩ : ∃ v, v = w.alloc (.cells LC.toArray 41) := ⟨_, rfl⟩
 have hb1 : Below w.heap.size w W1 := by rw [hW1]; exact (Below.refl _ _).alloc (Nat.le_refl _) _
 rw [← hW1] at hbx
 have SZL := Lib.hid (show (Tryz.prog.info? 41).map (·.size) = some LC.toArray.size by rw [hLC, List.size_toArray, LeafT.len h]; kernel_rfl)
 have SZLL := Lib.hid (show (Tryz.prog.info? 41).map (·.size) = some LC.length by rw [hLC, LeafT.len h]; kernel_rfl)
 have HT := Lib.hid hT
 have HSZ := Lib.hid hsz
 have HB1 := Lib.hid hb1
 have HG1 := Lib.hid (show ∀ v, Below W1.heap.size W1 v → Has v w.heap.size 41 LC.toArray from fun v hv => hbx.below hv hbx.lt)
 have HTB := Lib.hid (show ∀ v, Below W1.heap.size W1 v → Tabs KS SS v ∧ SzAt v from fun v hv => ⟨HT.out.below (hb1.trans (hv.mono hb1.size)) hlow, HSZ.out.below (hb1.trans (hv.mono hb1.size))⟩)
 have HOK := Lib.hid h
 have HLC := Lib.hid hLC
 have HDH := Lib.hid hDH
 have EW1 := Lib.hid hW1
 obtain ⟨B, hB⟩ : ∃ b, b = w.heap.size := ⟨_, rfl⟩
 have HBQ := Lib.hid hB
 clear hT hsz hbx hb1 hW1 hLC hD hDH hB h
 go_enter Tryz.func4, Tryz.ntmps4
 go_upto_region 1 with (fail)
 rw [← EW1.out, ← HBQ.out]
 rw [← HBQ.out] at HG1
 go_wp2_with fail
 refine (headL_is _ (HTB.out W1 (Below.refl _ _)).1).mono ?_
 rintro _ w2 ⟨rfl, hb2⟩
 have HB2 := Lib.hid hb2
 have h2 := HG1.out w2 hb2
 have H2 := Lib.hid h2
 clear hb2 h2
 go_wp2_with (refine wpList_load_row rfl 41 (.tmp 1) rfl B rfl 41 LC.toArray (0, 0) _ H2.out Tryz.underlying41 rfl SZL.out ?_)
 refine (HEN.out _).mono ?_
 intro e3 w3 hm
 obtain ⟨ba, bc, rfl, hy3, hb3⟩ := TvP.lf HOK.out hm
 obtain ⟨bs, hbs⟩ : ∃ z, z = lbs l := ⟨_, rfl⟩
 obtain ⟨ex, hex⟩ : ∃ z, z = lex l := ⟨_, rfl⟩
 rw [← hbs] at hy3
 rw [← hbs, ← hex]
 have HB3 := Lib.hid (HB2.out.trans (hb3.mono HB2.out.size))
 have HY3 := Lib.hid hy3
 have H3 := Lib.hid (HG1.out w3 HB3.out)
 have EBS := Lib.hid hbs
 have EEX := Lib.hid hex
 clear hm hy3 hb3 hbs hex H2
 go_wp2_with (refine wpList_load_row rfl 41 (.tmp 1) rfl B rfl 41 LC.toArray (0, 0) _ H3.out Tryz.underlying41 rfl SZL.out ?_)
 refine (HPL.out _).mono ?_
 rintro _ w4 ⟨rfl, hb4⟩
 have HB4 := Lib.hid (HB3.out.trans (hb4.mono HB3.out.size))
 have HY4 := Lib.hid (HY3.out.alive hb4 hb4.size)
 clear hb4 HY3 H3
 go_wp2_with fail
 refine (HRE.out _).mono ?_
 intro e5 w5 hm
 obtain ⟨ra, rc, rfl, hy5, hb5⟩ := TvP.lf HOK.out hm
 rw [← EBS.out] at hy5
 rw [← EBS.out, ← EEX.out]
 have HB5 := Lib.hid (HB4.out.trans (hb5.mono HB4.out.size))
 have HYM := Lib.hid (HY4.out.alive hb5 hb5.size)
 have HYR := Lib.hid hy5
 clear hm hy5 hb5 HY4
 go_upto_region 5 with (fail)
 have HSM := Lib.hid (show ∀ v, Below w5.heap.size w5 v → Calls Tryz.prog 20 #[.slice ba bs.length bc, .slice ra bs.length rc] v fun e w' => e = .returned (.bool true) ∧ w' = v from fun v hv => by
   have := same_is v _ _ bs bs (HYM.out.alive hv hv.size) (HYR.out.alive hv hv.size)
   rw [decide_eq_true rfl] at this
   exact this)
 have HGV := Lib.hid (show ∀ v, Below w5.heap.size w5 v → Has v B 41 LC.toArray from fun v hv => HG1.out v (HB5.out.trans (hv.mono HB5.out.size)))
 have HTV := Lib.hid (show ∀ v, Below w5.heap.size w5 v → Tabs KS SS v from fun v hv => (HTB.out v (HB5.out.trans (hv.mono HB5.out.size))).1)
 have heq := hash_eq_at 9998 D D HDH.out HDH.out
 rw [decide_eq_true rfl] at heq
 have hxx : ((ex : Int) != (ex : Int)) = false := by simp
 have HLE := Lib.hid (show leafE l = (ex : Int) by rw [EEX.out]; exact lex_E l)
 have hS0 : Below w5.heap.size w5 w5.drew := below_drew (Below.refl _ _)
 refine wp_region_noPanic ?_
 refine wp_region_held_drew (S := (fun v => Below w5.heap.size w5 v)) (by kernel_rfl) hS0 (fun hH0 => ?_)
 apply tk 0 (v := _) rfl (Or.inl ⟨by kernel_rfl, ?hv⟩) hH0 ?_
 case hv => intro w' hS; have z1 := hxx; go_simp; try exact rfl
 simp only [Act.put, qa]
 apply tk 1 (v := _) rfl (Or.inl ⟨by kernel_rfl, ?hv⟩) hH0 ?_
 case hv => intro w' hS; have z1 := hxx; go_simp; try exact rfl
 simp only [Act.put, qa]
 apply tk 2 (v := _) rfl (Or.inl ⟨by kernel_rfl, ?hv⟩) hH0 ?_
 case hv => intro w' hS; have z1 := hxx; go_simp; try exact rfl
 simp only [Act.put, qa]
 apply tk 3 (v := _) rfl (Or.inl ⟨by kernel_rfl, ?hv⟩) hH0 ?_
 case hv => intro w' hS; have z1 := hxx; go_simp; try exact rfl
 simp only [Act.put, qa]
 refine tk 4 (v := (.agg LC.toArray)) rfl (yieldsIf_load_mid (by kernel_rfl) 41 (.tmp 1) rfl B 0 rfl LC _ (fun w' h => (HGV.out _ h).row0) Tryz.underlying41 rfl SZLL.out) hH0 ?_
 simp only [Act.put, qa]
 apply tk 6 (v := _) rfl (Or.inl ⟨by kernel_rfl, ?hv⟩) hH0 ?_
 case hv => intro w' hS; have z1 := hxx; go_simp; try exact rfl
 simp only [Act.put, qa]
 refine wpAnyH_ready (rs := [5]) (by kernel_rfl) (by simp) ?_
 refine AllReadyH.cons rfl (fun KK hKK => ?_) AllReadyH.nil
 go_simp
 refine (HCK.out _).mono ?_
 rintro _ x5 ⟨rfl, hx5⟩
 have hn5 : Below w5.drew.heap.size w5.drew x5 := by rw [hx5]; exact (Below.refl _ _).alloc (Nat.le_refl _) _
 have hsx5 : Below w5.heap.size w5 x5 := hS0.trans (hn5.mono hS0.size)
 rw [HLE.out]
 clear hx5 hn5
 refine Shut.out hKK _ _ hsx5 (fun hH1 => ?_)
 clear hKK KK
 try simp only [Act.put, qa]
 apply tk 7 (v := _) rfl (Or.inl ⟨by kernel_rfl, ?hv⟩) hH1 ?_
 case hv => intro w' hS; have z1 := hxx; go_simp; try exact rfl
 simp only [Act.put, qa]
 apply tk 8 (v := _) rfl (Or.inl ⟨by kernel_rfl, ?hv⟩) hH1 ?_
 case hv => intro w' hS; have z1 := hxx; go_simp; try exact rfl
 simp only [Act.put, qa]
 apply tk 9 (v := _) rfl (Or.inl ⟨by kernel_rfl, ?hv⟩) hH1 ?_
 case hv => intro w' hS; have z1 := hxx; go_simp; try exact rfl
 simp only [Act.put, qa]
 apply tk 10 (v := _) rfl (Or.inl ⟨by kernel_rfl, ?hv⟩) hH1 ?_
 case hv => intro w' hS; have z1 := hxx; go_simp; try exact rfl
 simp only [Act.put, qa]
 apply tk 11 (v := _) rfl (Or.inl ⟨by kernel_rfl, ?hv⟩) hH1 ?_
 case hv => intro w' hS; have z1 := hxx; go_simp; try exact rfl
 simp only [Act.put, qa]
 refine wpAnyH_ready (rs := [12]) (by kernel_rfl) (by simp) ?_
 refine AllReadyH.cons rfl (fun KK hKK => ?_) AllReadyH.nil
 go_simp
 refine (HSM.out _ hsx5).mono ?_
 rintro _ x6 ⟨rfl, hx6⟩
 replace hx6 := hx6.symm
 subst hx6
 refine Shut.out hKK _ _ hsx5 (fun hH2 => ?_)
 clear hKK KK
 try simp only [Act.put, qa]
 apply tk 13 (v := _) rfl (Or.inl ⟨by kernel_rfl, ?hv⟩) hH2 ?_
 case hv => intro w' hS; have z1 := hxx; go_simp; try exact rfl
 simp only [Act.put, qa]
 apply tk 14 (v := _) rfl (Or.inl ⟨by kernel_rfl, ?hv⟩) hH2 ?_
 case hv => intro w' hS; have z1 := hxx; go_simp; try exact rfl
 simp only [Act.put, qa]
 apply tk 15 (v := _) rfl (Or.inl ⟨by kernel_rfl, ?hv⟩) hH2 ?_
 case hv => intro w' hS; have z1 := hxx; go_simp; try exact rfl
 simp only [Act.put, qa]
 refine tk 16 (v := (.agg LC.toArray)) rfl (yieldsIf_load_mid (by kernel_rfl) 41 (.tmp 1) rfl B 0 rfl LC _ (fun w' h => (HGV.out _ h).row0) Tryz.underlying41 rfl SZLL.out) hH2 ?_
 simp only [Act.put, qa]
 refine tk 19 (v := (.agg LC.toArray)) rfl (yieldsIf_load_mid (by kernel_rfl) 41 (.tmp 1) rfl B 0 rfl LC _ (fun w' h => (HGV.out _ h).row0) Tryz.underlying41 rfl SZLL.out) hH2 ?_
 simp only [Act.put, qa]
 refine wpAnyH_ready (rs := [17]) (by kernel_rfl) (by simp) ?_
 refine AllReadyH.cons rfl (fun KK hKK => ?_) AllReadyH.nil
 go_simp
 refine (HKY.out _ (HTV.out _ hsx5)).mono ?_
 unfold arr
 rintro _ x7 ⟨rfl, hnx7⟩
 have hsx7 : Below w5.heap.size w5 x7 := hsx5.trans (hnx7.mono hsx5.size)
 clear hnx7
 refine Shut.out hKK _ _ hsx7 (fun hH3 => ?_)
 clear hKK KK
 try simp only [Act.put, qa]
 refine wpAnyH_ready (rs := [18]) (by kernel_rfl) (by simp) ?_
 refine AllReadyH.cons rfl (fun KK hKK => ?_) AllReadyH.nil
 go_simp
 refine (make_is _).mono ?_
 rintro _ x8 ⟨rfl, hnx8⟩
 have hsx8 : Below w5.heap.size w5 x8 := hsx7.trans (hnx8.mono hsx7.size)
 clear hnx8
 refine Shut.out hKK _ _ hsx8 (fun hH4 => ?_)
 clear hKK KK
 try simp only [Act.put, qa]
 refine wpAnyH_ready (rs := [20]) (by kernel_rfl) (by simp) ?_
 refine AllReadyH.cons rfl (fun KK hKK => ?_) AllReadyH.nil
 go_simp
 refine (HPL.out _).mono ?_
 rintro _ x9 ⟨rfl, hnx9⟩
 have hsx9 : Below w5.heap.size w5 x9 := hsx8.trans (hnx9.mono hsx8.size)
 clear hnx9
 refine Shut.out hKK _ _ hsx9 (fun hH5 => ?_)
 clear hKK KK
 try simp only [Act.put, qa]
 refine wpAnyH_ready (rs := [21]) (by kernel_rfl) (by simp) ?_
 refine AllReadyH.cons rfl (fun KK hKK => ?_) AllReadyH.nil
 go_simp
 rw [tab_words]
 refine (HRK.out _).mono ?_
 unfold arr
 rintro _ x10 ⟨rfl, hnx10⟩
 have hsx10 : Below w5.heap.size w5 x10 := hsx9.trans (hnx10.mono hsx9.size)
 clear hnx10
 refine Shut.out hKK _ _ hsx10 (fun hH6 => ?_)
 clear hKK KK
 try simp only [Act.put, qa]
 apply tk 22 (v := _) rfl (Or.inl ⟨by kernel_rfl, ?hv⟩) hH6 ?_
 case hv => intro w' hS; have z1 := hxx; go_simp; try exact rfl
 simp only [Act.put, qa]
 apply tk 23 (v := _) rfl (Or.inl ⟨by kernel_rfl, ?hv⟩) hH6 ?_
 case hv => intro w' hS; have z1 := hxx; go_simp; try exact rfl
 simp only [Act.put, qa]
 refine wpAnyH_done (by kernel_rfl) ?_ _
 refine NoPanic.normal ?_
 have HS := Lib.hid hsx10
 clear hS0 hsx5 hsx7 hsx8 hsx9 hsx10 hxx heq
 have hzl := zero_leaf
 unfold leafV at hzl
 have H10 := Lib.hid (HGV.out x10 HS.out)
 have HQ10 := Lib.hid (HB5.out.trans (HS.out.mono HB5.out.size))
 go_wp2_with (refine wpList_load_row rfl 41 (.tmp 1) rfl B rfl 41 LC.toArray (0, 0) _ H10.out Tryz.underlying41 rfl SZL.out ?_)
 refine (HSU.out _).mono ?_
 intro e11 w11 hm
 obtain ⟨hb11, hcase⟩ := hm
 have HQ11 := Lib.hid (HQ10.out.trans (hb11.mono HQ10.out.size))
 have HS11 := Lib.hid (HS.out.trans (hb11.mono HS.out.size))
 rcases hcase with ⟨hg, sa, sc, rfl, hys⟩ | ⟨hbd, rfl⟩
 rotate_left
 · have hx1 : ex = 1 := by rw [EEX.out]; unfold lex; rw [hbd]; rfl
   have hx2 : ((ex : Int) != 0) = true := by rw [hx1]; rfl
   have HNO := Lib.hid (fun v => none_is v none 0 0 0 (by decide))
   have hnn := Has.new w11 75 #[.slice none 0 0, .int .u64 0]
   obtain ⟨h12, hb12⟩ := new_row w11 75 #[.slice none 0 0, .int .u64 0] #[.slice none 0 0, .int .u64 0]
   have H12 := Lib.hid h12
   have HQ12 := Lib.hid (HB1.out.trans ((HQ11.out.trans (hb12.mono HQ11.out.size)).mono HB1.out.size))
   clear hx1 hbd hb11 h12 hb12 hnn
   unfold leafV
   go_wp2_with (first
    | (refine wpList_store_row rfl 75 (.tmp 7) (.tmp 48) rfl w11.heap.size #[.slice none 0 0, .int .u64 0] rfl rfl 75 _ (heap_alloc_new w11 _) (by kernel_rfl) rfl (by kernel_rfl) ?_)
    | (refine wpList_load_row rfl 75 (.tmp 7) rfl w11.heap.size rfl 75 #[.slice none 0 0, .int .u64 0] (0, 0) _ H12.out Tryz.underlying75 rfl (by kernel_rfl) ?_))
   refine (HNO.out _).mono ?_
   rintro _ w13 ⟨rfl, hb13⟩
   have HQ13 := Lib.hid (HQ12.out.trans (hb13.mono HQ12.out.size))
   clear hb13
   go_wp2_with fail
   go_ret
   exact ⟨by simp, HQ13.out⟩
 have hx1 : ex = 0 := by rw [EEX.out]; unfold lex; rw [hg]; rfl
 have hx2 : ((ex : Int) != 0) = false := by rw [hx1]; rfl
 have hbl : bs = leafB l := by rw [EBS.out]; unfold lbs; rw [hg]; rfl
 rw [← hbl] at hys ⊢
 obtain ⟨N, hN⟩ : ∃ n, n = bs.length := ⟨_, rfl⟩
 obtain ⟨am, ham⟩ : ∃ n, n = l.am := ⟨_, rfl⟩
 rw [← ham]
 unfold leafV
 obtain ⟨h12, hb12⟩ := new_row w11 75 #[.slice none 0 0, .int .u64 0] #[.slice sa bs.length sc, .int .u64 (am : Int)]
 have HQ12 := Lib.hid (HQ11.out.trans (hb12.mono HQ11.out.size))
 have HS12 := Lib.hid (HS11.out.trans (hb12.mono HS11.out.size))
 have HYS := Lib.hid (hys.alive hb12 hb12.size)
 have H12 := Lib.hid h12
 have HLD := Lib.hid (show ldec bs = .ok l by rw [hbl]; exact ldec_enc HOK.out hg)
 have HBN := Lib.hid (show bs.length ≤ 9223372036854775807 by
   have h1 := enc_leaf l HOK.out
   have h2 := HYM.out
   have : bs.length = 32 + 8 + 32 + 1 + 40 + 10 := by rw [hbl]; exact leafB_len l HOK.out
   omega)
 have HAM := Lib.hid ham
 clear hx1 hg hb11 h12 hb12 hbl hys hN ham
 go_upto_region 8 with (refine wpList_store_row rfl 75 (.tmp 7) (.tmp 48) rfl w11.heap.size #[.slice sa bs.length sc, .int .u64 (am : Int)] rfl rfl 75 _ (heap_alloc_new w11 _) (by kernel_rfl) rfl (by kernel_rfl) ?_)
 obtain ⟨W12, hW12⟩ : ∃ W, W = (w11.alloc (.cells #[.slice none 0 0, .int .u64 0] 75)).setRow w11.heap.size #[.slice sa bs.length sc, .int .u64 (am : Int)] := ⟨_, rfl⟩
 rw [← hW12] at H12 HQ12 HS12 HYS ⊢
 obtain ⟨G, hG⟩ : ∃ g, g = w11.heap.size := ⟨_, rfl⟩
 rw [← hG] at H12 ⊢
 have HDC := Lib.hid (lfDecode_is W12 (HTB.out W12 HQ12.out).2 ba bs.length bc bs (HYM.out.alive HS12.out HS12.out.size) HBN.out)
 rw [HLD.out] at HDC
 clear hW12 hG hzl
 obtain ⟨Z1, hz1, -, hz1s, hz1n, -⟩ := zero_leafT
 go_wp2_with fail
 refine HDC.out.mono ?_
 rintro e13 w13 ⟨hb13, rfl, -⟩
 rw [← HLC.out]
 obtain ⟨h14, hb14⟩ := new_row w13 41 Z1 LC.toArray
 have hb134 := hb13.trans (hb14.mono hb13.size)
 have HQ14 := Lib.hid (HQ12.out.trans (hb134.mono HQ12.out.size))
 have HS14 := Lib.hid (HS12.out.trans (hb134.mono HS12.out.size))
 have H14 := Lib.hid h14
 have H12E := Lib.hid (H12.out.below hb134 H12.out.lt)
 have HYE := Lib.hid (HYS.out.alive hb134 hb134.size)
 have HZL := Lib.hid (show Z1.size = LC.toArray.size by rw [hz1s, HLC.out, List.size_toArray, LeafT.len HOK.out])
 have HON := Lib.hid (show LC.toArray.all (·.oneCell') = true by rw [HLC.out]; exact LeafT.one _)
 clear hb13 h14 hb14 hb134 HDC H12 HYS
 go_upto_region 11 with (refine wpList_store_row rfl 41 (.tmp 8) (.tmp 56) rfl w13.heap.size LC.toArray rfl rfl 41 Z1 (heap_alloc_new w13 _) SZL.out HZL.out HON.out ?_)
 obtain ⟨W14, hW14⟩ : ∃ W, W = (w13.alloc (.cells Z1 41)).setRow w13.heap.size LC.toArray := ⟨_, rfl⟩
 rw [← hW14] at H14 HQ14 HS14 H12E HYE ⊢
 obtain ⟨G2, hG2⟩ : ∃ g, g = w13.heap.size := ⟨_, rfl⟩
 rw [← hG2] at H14 ⊢
 have HGB := Lib.hid (HGV.out W14 HS14.out)
 have d0 := H12E.out.cell_is (i := 0) (v := .slice sa bs.length sc) rfl
 have d1 := H12E.out.cell_is (i := 1) (v := .int .u64 (am : Int)) rfl
 have d2 : W14.cell? ⟨B, 32, none⟩ = some (.int .u64 (am : Int)) := HGB.out.cell_is (by rw [List.getElem?_toArray, HLC.out, HAM.out]; exact LeafT.at_am HOK.out)
 have heq : ∀ v, (Op.equalIn 10000 41 (.agg LC.toArray) (.agg LC.toArray)).run Tryz.prog v = .ok true v := fun v => by
   have := le_eq l l HOK.out HOK.out v
   rw [decide_eq_true rfl] at this
   rw [HLC.out]
   exact this
 have HSM2 := Lib.hid (show Calls Tryz.prog 20 #[.slice sa bs.length sc, .slice ba bs.length bc] W14 fun e w' => e = .returned (.bool true) ∧ w' = W14 from by
   have := same_is W14 _ _ bs bs HYE.out (HYM.out.alive HS14.out HS14.out.size)
   rw [decide_eq_true rfl] at this
   exact this)
 have HFIN := Lib.hid (HB1.out.trans (HQ14.out.mono HB1.out.size))
 clear hW14 hG2
 go_wp2_with (first
   | (refine wpList_load_midG (by kernel_rfl) 41 (.tmp 8) rfl G2 0 rfl LC _ H14.out.row0 Tryz.underlying41 rfl SZLL.out ?_)
   | (refine wpList_load_midG (by kernel_rfl) 41 (.tmp 1) rfl B 0 rfl LC _ HGB.out.row0 Tryz.underlying41 rfl SZLL.out ?_))
 refine HSM2.out.mono ?_
 rintro _ x15 ⟨rfl, hx15⟩
 replace hx15 := hx15.symm
 subst hx15
 go_wp2_with fail
 go_ret
 exact ⟨rfl, HFIN.out⟩
end Go.Proofs.YtniakgoefkbkhaaGreatDoor
/- How slices of structs among the arguments are read. -/
namespace Go.Proofs.YtniakgoefkbkhaaGreatDoor
set_option linter.unusedVariables false
set_option linter.unusedSimpArgs false
open Go.ChangeShapes Go.WideShapes Go.ChangeAt Go.RowKit

section
variable {H : Type} {enc : TypeId × Value → H} {P : Program} {w : World} {base : Nat} {spare : Nat → Bool} {held : Bool} {t e m : Nat} {cs : List Value} {y : Option (DataW H × List MemPlace)}

theorem take_one (cs : List Value) (i : Nat) (h : i < cs.length) : (cs.drop i).take 1 = [cs[i]] := by
 rw [List.drop_eq_getElem_cons h, List.take_succ_cons, List.take_zero]

end
end Go.Proofs.YtniakgoefkbkhaaGreatDoor

/- How bytes, digests, a leaf and a node are read off the arguments. -/
namespace Go.Proofs.YtniakgoefkbkhaaGreatDoor
set_option linter.unusedVariables false
set_option linter.unusedSimpArgs false
open Go.ChangeShapes Go.WideShapes Go.ChangeAt Go.RowKit Go.Maps

section
variable {H : Type} {enc : TypeId × Value → H} {P : Program} {w : World} {base : Nat} {spare : Nat → Bool} {held : Bool}
theorem hash_cells {t e m : Nat} {cs : List Value} {y : Option (DataW H × List MemPlace)} (ht : P.underlying t = some (.array 32 e)) (he : P.underlying e = some (.int .u8)) (h1 : P.cellsOf e = 1) (h32 : P.cellsOf t = 32)
  (h : DataW.trod enc P w base spare held m t cs = y) (hy : y.isSome = true) : ∃ ks, cs = bcells ks ∧ IsHash ks := by
 obtain ⟨z, rfl⟩ := Option.isSome_iff_exists.1 hy
 obtain ⟨xs, m, _, hx, hlen, hn, hall⟩ := DataW.trod_array ht h
 rw [h32] at hlen
 obtain ⟨e1, e2⟩ := bytes_of_cells cs hlen (by
  intro i hi
  have := hall i hi
  rw [h1, Nat.mul_one, List.getElem?_eq_getElem (by omega)] at this
  obtain ⟨n, hn1, _, hw⟩ := DataW.trod_int he this
  rw [List.drop_eq_getElem_cons (by omega)] at hn1
  simp only [List.take_succ_cons, List.take_zero, List.cons.injEq, and_true] at hn1
  have hb := bounds_u8 hw
  refine ⟨n.toNat, ?_, by omega⟩
  rw [List.getElem?_eq_getElem (by omega), hn1, Int.toNat_of_nonneg hb.1])
 exact ⟨cs.map u8Of, e1, e2⟩
theorem hash_cut {t e m i : Nat} {cs : List Value} {y : Option (DataW H × List MemPlace)} (ht : P.underlying t = some (.array 32 e)) (he : P.underlying e = some (.int .u8)) (h1 : P.cellsOf e = 1) (h32 : P.cellsOf t = 32)
  (h : DataW.trod enc P w base spare held m t ((cs.drop i).take (P.cellsOf t)) = y) (hy : y.isSome = true) : ∃ ks, (cs.drop i).take 32 = bcells ks ∧ IsHash ks := by
 have := hash_cells ht he h1 h32 h hy
 rwa [h32] at this
theorem int_cut {k : IntKind} {t m i : Nat} {cs : List Value} {y : Option (DataW H × List MemPlace)} (ht : P.underlying t = some (.int k)) (h1 : P.cellsOf t = 1) (h : DataW.trod enc P w base spare held m t ((cs.drop i).take (P.cellsOf t)) = y) (hy : y.isSome = true) :
  ∃ n, (cs.drop i).take 1 = [.int k n] ∧ (Lit.int k n).wf = true := by
 obtain ⟨z, rfl⟩ := Option.isSome_iff_exists.1 hy
 obtain ⟨n, hn, _, hw⟩ := DataW.trod_int ht h
 rw [h1] at hn
 exact ⟨n, hn, hw⟩
end
theorem cut_list (l : List Value) (i n : Nat) : l.drop i = (l.drop i).take n ++ l.drop (i + n) := by
 rw [← List.drop_drop]; exact (List.take_append_drop n (l.drop i)).symm

section
variable {H : Type} {enc : TypeId × Value → H} {w : World} {base : Nat} {spare : Nat → Bool} {held : Bool}
theorem open_node {m : Nat} {cs : List Value} {y : Option (DataW H × List MemPlace)} (h : DataW.trod enc Tryz.prog w base spare held m 39 cs = y) (hy : y.isSome = true) (hl : cs.length = 33) :
  ∃ (k : List Nat) (s : Nat), cs = ncells k s ∧ IsHash k ∧ s < 18446744073709551616 := by
 obtain ⟨z, rfl⟩ := Option.isSome_iff_exists.1 hy
 obtain ⟨xs, m2, _, _, _, hn, hf⟩ := DataW.trod_struct Tryz.underlying39 h
 have hn2 : xs.length = 2 := hn
 have hsome : ∀ j, j < 2 → (xs[j]?).isSome = true := fun j hj => by rw [List.getElem?_eq_getElem (by omega)]; rfl
 obtain ⟨k, e0, w0⟩ := hash_cut (i := 0) Tryz.underlying25 Tryz.underlying5 (by kernel_rfl) (by kernel_rfl) (hf 0 _ rfl) (hsome 0 (by decide))
 obtain ⟨a1, e1, w1⟩ := int_cut (i := 32) Tryz.underlying37 (by kernel_rfl) (hf 1 _ rfl) (hsome 1 (by decide))
 have hb := bounds_u64 w1
 obtain ⟨n1, rfl⟩ : ∃ n : Nat, a1 = n := ⟨a1.toNat, by omega⟩
 refine ⟨k, n1, ?_, w0, by omega⟩
 have f0 := cut_list cs 0 32
 have f1 := cut_list cs 32 1
 have f2 : cs.drop 33 = [] := List.drop_eq_nil_of_le (by omega)
 simp only [Nat.reduceAdd] at f0 f1
 rw [e0] at f0
 rw [e1, f2] at f1
 rw [f1] at f0
 rw [List.drop_zero] at f0
 rw [f0]; rfl
end
end Go.Proofs.YtniakgoefkbkhaaGreatDoor

/- How slices of structs are read off the arguments; nodes, a proof. -/
namespace Go.Proofs.YtniakgoefkbkhaaGreatDoor
set_option linter.unusedVariables false
set_option linter.unusedSimpArgs false
open Go.ChangeShapes Go.WideShapes Go.ChangeAt Go.RowKit Go.Maps

section
variable {H : Type} {enc : TypeId × Value → H} {w : World} {base : Nat} {spare : Nat → Bool} {held : Bool}
end
end Go.Proofs.YtniakgoefkbkhaaGreatDoor
