/- The reference's book: an offer settled. -/
import Derived.Test.YtcekammjpghjnaaDoorWs
import Derived.Test.YtcekammjpghjnaaDoorURg7
import Derived.Test.YtcekammjpghjnaaDoorUTs
namespace Go.Proofs.YtcekammjpghjnaaDoor
set_option linter.unusedVariables false
set_option linter.unusedSimpArgs false
open Go.ChangeShapes Go.WideShapes Go.ChangeAt Go.RowKit Go.Maps

theorem boxes_settle (w : World) (LB LT LS : List Value) (Z : Array Value) : ∃ W1, W1 = (((((((w.alloc (.cells LB.toArray 31))).alloc (.cells LT.toArray 36))).alloc (.cells LS.toArray 38))).alloc (.cells Z 31)) ∧
   Has W1 (w.heap.size) 31 LB.toArray ∧ Has W1 (w.heap.size + 1) 36 LT.toArray ∧ Has W1 (w.heap.size + 1 + 1) 38 LS.toArray ∧ Has W1 (w.heap.size + 1 + 1 + 1) 31 Z ∧ Below w.heap.size w W1 := by
 refine ⟨_, rfl, ?_, ?_, ?_, ?_, ?_⟩
 · have := Has.new w 31 LB.toArray
   exact (((this).alloc _).alloc _).alloc _
 · have := Has.new (w.alloc (.cells LB.toArray 31)) 36 LT.toArray
   exact (((by simpa using this : Has _ (w.heap.size + 1) _ _)).alloc _).alloc _
 · have := Has.new (((w.alloc (.cells LB.toArray 31))).alloc (.cells LT.toArray 36)) 38 LS.toArray
   exact ((by simpa using this : Has _ (w.heap.size + 1 + 1) _ _)).alloc _
 · have := Has.new (((((w.alloc (.cells LB.toArray 31))).alloc (.cells LT.toArray 36))).alloc (.cells LS.toArray 38)) 31 Z
   exact (by simpa using this : Has _ (w.heap.size + 1 + 1 + 1) _ _)
 · exact ((((Below.refl _ _).alloc (Nat.le_refl _) _).alloc (by simp) _).alloc (by simp; omega) _).alloc (by simp; omega) _
theorem rparts_one (w : World) (v : Value) (p : List Nat) (h : Bytes w w.heap.size v p) : Parts (w.alloc (.cells #[v] 87)) (.slice (some ⟨w.heap.size, 0, none⟩) 1 1) [p] := by
 refine ⟨_, _, rfl, fun _ => ⟨w.heap.size, 0, rfl, fun i hi => ?_⟩⟩
 have hi0 : i = 0 := by simpa using hi
 subst hi0
 have hb : Below w.heap.size w (w.alloc (.cells #[v] 87)) := (Below.refl _ _).alloc (Nat.le_refl _) _
 exact ⟨v, (Has.new w _ _).cell_is rfl, h.alive hb hb.size⟩
theorem rhash_bytes {w : World} {B : Nat} {s : List Nat} (hs : IsHash s) (h : Has w B 38 (bcells s).toArray) (g : Nat) (hg : B ≠ g) : Bytes w g (.slice (some ⟨B, 0, none⟩) 32 32) s :=
 ⟨_, _, by rw [hs.1], by rw [hs.1]; exact Nat.le_refl _, hs.2, fun _ => ⟨B, 0, rfl, hg, fun i hi => h.cell_is (by rw [List.getElem?_toArray, Nat.zero_add]; exact bcells_get _ i hi)⟩⟩
theorem info_bslice : (Tryd.prog.info? 87).map (fun i => (i.zero, i.size, i.bytes)) = some (some (.slice none 0 0), 1, 24) := by kernel_rfl
theorem row_lock {w : World} {b o : Nat} {x : Off} (hx : x.ok) (h : w.rangeAt b o x.cells) : w.rangeAt b (o + 35) (bcells x.lock) := fun j u hu => by
 have hj := (List.getElem?_eq_some_iff.1 hu).1
 have h32 := hx.1.1
 rw [show o + 35 + j = o + (35 + j) by omega]
 refine h (35 + j) u ?_
 rw [Off.cells, List.getElem?_append_right (by simp; omega), List.getElem?_append_right (by simp [bcells_length]; omega)]
 simp only [List.length_cons, List.length_nil, bcells_length, h32]
 rw [show 35 + j - (0 + 1 + 1) - 32 = j + 1 by omega, List.getElem?_cons_succ, List.getElem?_append_left (by omega)]
 exact hu
def settleRE (K s0 : List Wd) (r : RB) (frm no : Int) (sec : List Nat) : Int := if findI r.offers frm no < 0 then 5 else match r.offers[(findI r.offers frm no).toNat]? with
 | none => 5
 | some o => if digest K s0 sec = o.lock then 0 else 31
def settleRB (K s0 : List Wd) (r : RB) (frm no : Int) (sec : List Nat) : RB := if settleRE K s0 r frm no sec = 0 then giveR r frm no (1 - frm) else r
set_option maxRecDepth 100000 in
set_option maxHeartbeats 4000000 in
theorem rbSettle_is (K s0 : List Wd) (hK : K.length = 64) (hs0 : s0.length = 8) (w : World) (L : List Value) (r : RB) (hr : RbAt w L r) (hcap : r.offers.length ≤ 200) (hcah : r.has.length ≤ 99999) (frm no : Int) (sec : List Nat) (hsec : IsHash sec) (hside : ∀ o ∈ r.offers, o.frm = 0 ∨ o.frm = 1) (hfit : ∀ o ∈ r.offers, o.frm = frm → getR r.has (1 - frm) o.id + o.am < 18446744073709551616) :
   Calls Tryd.prog 12 #[.agg L.toArray, .agg (tabsL s0 K).toArray, .int .i64 frm, .int .i64 no, arr sec] w fun e w' => (∃ L', e = .returned (.tuple #[.agg L'.toArray, .int .i64 (settleRE K s0 r frm no sec)]) ∧ RbAt w' L' (settleRB K s0 r frm no sec)) ∧ Below w.heap.size w w' := by
 have hzb := zero_rb
 obtain ⟨LS, hLS⟩ : ∃ X, X = bcells sec := ⟨_, rfl⟩
 obtain ⟨LT, hLT⟩ : ∃ X, X = tabsL s0 K := ⟨_, rfl⟩
 unfold arr
 rw [← hLS, ← hLT]
 obtain ⟨A, n, c, B, m, d, hL, hrows, hoffs, hmd, hn, hm⟩ := hr.ex
 have hm200 : m ≤ 200 := by rw [← hoffs.rows.len]; exact hcap
 obtain ⟨W1, hW1, h1, h2, h3, h4, hb1⟩ := boxes_settle w L LT LS #[.slice none 0 0, .slice none 0 0, .int .u64 0, .int .u64 0]
 have HR := Lib.hid hr
 have HB1 := Lib.hid hb1
 have EW := Lib.hid hW1
 have H1 := Lib.hid h1
 have H2 := Lib.hid h2
 have H3 := Lib.hid h3
 have H4 := Lib.hid h4
 have HONE := Lib.hid hr.one
 have ELS := Lib.hid hLS
 have HSEC := Lib.hid hsec
 have HLEN := Lib.hid hoffs.rows.len
 have HOFF := Lib.hid hr.off
 have HM := Lib.hid hm200
 have HLL := Lib.hid hL
 have HROW := Lib.hid (hoffs.rows.below hb1)
 have SZB := Lib.hid (size_rb hr.len)
 have SZT := Lib.hid (show (Tryd.prog.info? 36).map (·.size) = some LT.length by rw [hLT, tabs_length K s0 hK hs0]; kernel_rfl)
 have SZA := Lib.hid (show (Tryd.prog.info? 31).map (·.size) = some L.toArray.size by rw [List.size_toArray]; exact SZB.out)
 have SZ4 := Lib.hid (show (#[.slice none 0 0, .slice none 0 0, .int .u64 0, .int .u64 0] : Array Value).size = L.toArray.size by show 4 = _; rw [List.size_toArray, hr.len])
 obtain ⟨fi, hfi⟩ : ∃ y, y = findI r.offers frm no := ⟨_, rfl⟩
 obtain ⟨D, hD⟩ : ∃ y, y = digest K s0 sec := ⟨_, rfl⟩
 have HD := Lib.hid (show IsHash D by rw [hD]; exact digest_hash K s0 hs0 sec)
 have HFI := Lib.hid hfi
 have HDD := Lib.hid hD
 have HFIND := Lib.hid (show ∀ v, Below w.heap.size w v → Calls Tryd.prog 33 #[.agg L.toArray, .int .i64 frm, .int .i64 no] v fun e w' => e = .returned (.int .i64 fi) ∧ Below v.heap.size v w' from fun v hv => by rw [hfi]; exact rbFind_is v L r (hr.below hv) frm no)
 have HSUM := Lib.hid (show ∀ (v : World) (g : Nat), Has v g 38 LS.toArray → g < v.heap.size → Calls Tryd.prog 37 #[.agg LT.toArray, .slice (some ⟨v.heap.size, 0, none⟩) 1 1] (v.alloc (.cells #[.slice (some ⟨g, 0, none⟩) 32 32] 87)) fun e w' => e = .returned (arr D) ∧ Below (v.alloc (.cells #[.slice (some ⟨g, 0, none⟩) 32 32] 87)).heap.size (v.alloc (.cells #[.slice (some ⟨g, 0, none⟩) 32 32] 87)) w' from fun v g hg hlt => by
   rw [hLS] at hg
   have := tsum_is K s0 hK hs0 _ _ [sec] (rparts_one v _ sec (rhash_bytes hsec hg _ (by omega))) (by simp [hsec.1]) (by simp)
   rw [hLT, hD]
   rwa [show [sec].flatten = sec by simp] at this)
 have HEND := Lib.hid (show ∀ (wx : World) (LX : List Value) (r' : RB), RbAt wx LX r' → Below W1.heap.size W1 wx → Has wx (w.heap.size + 3) 31 #[.slice none 0 0, .slice none 0 0, .int .u64 0, .int .u64 0] ∧ Has (wx.setRow (w.heap.size + 3) LX.toArray) (w.heap.size + 3) 31 LX.toArray ∧ RbAt (wx.setRow (w.heap.size + 3) LX.toArray) LX r' ∧ Below w.heap.size w (wx.setRow (w.heap.size + 3) LX.toArray) from fun wx LX r' hx hb => rb_end HB1.out H4.out (by omega) hx hb)
 have HX := Lib.hid (show ∀ v, Below W1.heap.size W1 v → v.rangeAt w.heap.size 0 L ∧ v.rangeAt (w.heap.size + 1) 0 LT ∧ Has v (w.heap.size + 2) 38 LS.toArray from fun v hv => ⟨(H1.out.below hv H1.out.lt).row0, (H2.out.below hv H2.out.lt).row0, H3.out.below hv H3.out.lt⟩)
 have HC := Lib.hid (show ∀ v, Below W1.heap.size W1 v → v.cell? ⟨w.heap.size, 1, none⟩ = some (.slice B m d) from fun v hv => (H1.out.below hv H1.out.lt).cell_is (by rw [HLL.out]; rfl))
 have HCASE := Lib.hid (show fi < 0 ∨ ∃ (k : Nat) (o : Off), r.offers[k]? = some o ∧ fi = k ∧ (frm = 0 ∨ frm = 1) ∧ settleRE K s0 r frm no sec = (if D = o.lock then 0 else 31) ∧ giveR r frm no (1 - frm) = withoutR r k (1 - frm) o ∧ ∀ v, Below w.heap.size w v → Calls Tryd.prog 38 #[.agg L.toArray, .int .i64 (k : Int), .int .i64 (1 - frm)] v fun e w' => (∃ L', e = .returned (.agg L'.toArray) ∧ RbAt w' L' (withoutR r k (1 - frm) o)) ∧ Below v.heap.size v w' from by
   rcases find_cases r.offers frm no with h | ⟨k, o, ho, h⟩
   · exact .inl (by rw [hfi, h]; decide)
   · obtain ⟨o2, ho2, hf2, -⟩ := findI_hit h
     rw [ho] at ho2
     cases ho2
     have hsd := hside o (List.mem_of_getElem? ho)
     rw [hf2] at hsd
     refine .inr ⟨k, o, ho, by rw [hfi, h], hsd, ?_, by unfold giveR; rw [h, Int.toNat_natCast, ho], fun v hv => rbWithout_is v L r (hr.below hv) hcap hcah k o ho (1 - frm) (hfit o (List.mem_of_getElem? ho) hf2)⟩
     unfold settleRE
     rw [if_neg (by rw [h]; omega), h, Int.toNat_natCast, ho, hD])
 have hge := h4.lt
 have HGE := Lib.hid hge
 clear hr hb1 hW1 h1 h2 h3 h4 hcap hcah hfit hfi hL hrows hoffs hmd hn hm hm200 hLS hLT hsec hside hD hK hs0 hge
 go_enter Tryd.func12, Tryd.ntmps12
 go_upto_region 1 with (fail)
 rw [← EW.out]
 obtain ⟨b0, hb0⟩ : ∃ y, y = w.heap.size := ⟨_, rfl⟩
 rw [← hb0] at H1 H2 H3 H4 HX HEND HC HGE ⊢
 have HBQ := Lib.hid hb0
 clear hb0 EW
 have HI0 := Lib.hid (HX.out W1 (Below.refl _ _))
 go_wp2_with (refine wpList_load_mid rfl 31 (.tmp 5) rfl b0 0 rfl L _ HI0.out.1 Tryd.underlying31 rfl SZB.out ?_)
 refine (HFIND.out W1 HB1.out).mono ?_
 rintro _ w8 ⟨rfl, hb8⟩
 have HB8 := Lib.hid hb8
 have HI8 := Lib.hid (HX.out w8 hb8)
 clear hb8 HI0 HFIND
 by_cases hneg : fi < 0
 · have HE := Lib.hid (show settleRE K s0 r frm no sec = 5 ∧ settleRB K s0 r frm no sec = r by
     have : settleRE K s0 r frm no sec = 5 := by unfold settleRE; rw [← HFI.out, if_pos hneg]
     exact ⟨this, by unfold settleRB; rw [this]; rfl⟩)
   obtain ⟨hz3, hs3, hr3, hb3⟩ := HEND.out w8 L r (HR.out.below (HB1.out.trans (HB8.out.mono HB1.out.size))) (HB8.out)
   have HZ3 := Lib.hid hz3
   have HF1 := Lib.hid hs3
   have HF2 := Lib.hid (And.intro hr3 hb3)
   have HI7 := Lib.hid (HX.out w8 (HB8.out)).1
   clear hz3 hs3 hr3 hb3
   go_wp2_with (first
     | (refine wpList_load_mid rfl 31 (.tmp 5) rfl b0 0 rfl L _ HI7.out Tryd.underlying31 rfl SZB.out ?_)
     | (refine wpList_store_row rfl 31 (.tmp 10) (.tmp 19) rfl (b0 + 3) L.toArray rfl rfl 31 _ HZ3.out SZA.out SZ4.out HONE.out ?_))
   refine bodyPost_ret (results_cell_tmp rfl _ _ (b0 + 3) 31 L.toArray (0, 0) _ rfl rfl HF1.out Tryd.underlying31 SZA.out) rfl ?_
   exact ⟨⟨L, by rw [HE.out.1]; rfl, by rw [HE.out.2]; exact HF2.out.1⟩, by rw [← HBQ.out]; exact HF2.out.2⟩
 · obtain ⟨k, o, ho, hk, hsd, hre, hgive, hw⟩ := HCASE.out.resolve_left hneg
   have HW := Lib.hid hw
   have HRE := Lib.hid hre
   have HGV := Lib.hid hgive
   have hkm : k < m := by have := (List.getElem?_eq_some_iff.1 ho).1; rw [HLEN.out] at this; exact this
   obtain ⟨sb, so, hA1, hA2, hrr⟩ := HROW.out.at_ (by omega)
   subst hA1
   have hook := HOFF.out o (List.mem_of_getElem? ho)
   obtain ⟨LK, hLK⟩ : ∃ y, y = bcells o.lock := ⟨_, rfl⟩
   obtain ⟨LD, hLD⟩ : ∃ y, y = bcells D := ⟨_, rfl⟩
   have HLK := Lib.hid (show ∀ v, Below W1.heap.size W1 v → v.rangeAt sb (so + k * 68 + 35) LK from fun v hv => by
     rw [hLK]
     exact row_lock hook (rangeAt_kept (hrr k o ho) (Kept.of_below (S := fun _ => False) hv) (fun h => h)))
   have SZK := Lib.hid (show (Tryd.prog.info? 38).map (·.size) = some LK.length by rw [hLK, bcells_length, hook.2.1.1]; kernel_rfl)
   obtain ⟨q, hq⟩ : ∃ q, q = decide (D = o.lock) := ⟨_, rfl⟩
   have HEQ := Lib.hid (show ∀ v, (Op.equalIn 10000 38 (.agg LD.toArray) (.agg LK.toArray)).run Tryd.prog v = .ok q v from fun v => by rw [hLD, hLK, hq]; exact rhash_eq _ _ HD.out hook.2.1 v)
   have HQ := Lib.hid hq
   have HAT := Lib.hid (fun v => at_ro sb so m d k hkm v)
   have ELD := Lib.hid hLD
   have hsb : IntKind.i64.wrap (1 - frm) = 1 - frm := by rw [IntKind.wrap_i64]; rcases hsd with rfl | rfl <;> decide
   subst hk
   have hmb : m ≤ 200 := HM.out
   have hkm' : (k : Int) < (m : Int) := by omega
   clear ho hgive hw HCASE HFI hre hrr hA2 hook hLK hLD hq hsd
   have hneg' : ¬ (k : Int) < 0 := hneg
   go_upto_region 4 with (fail)
   have hS0 : Below W1.heap.size W1 w8.drew := HB8.out.drew
   refine wp_region_noPanic ?_
   refine wp_region_held_drew (S := (fun v => Below W1.heap.size W1 v)) (by kernel_rfl) hS0 (fun hH0 => ?_)
   refine tk 0 (v := (.agg LT.toArray)) rfl (yieldsIf_load_mid (by kernel_rfl) 36 (.tmp 6) rfl (b0 + 1) 0 rfl LT _ (fun w' h => (HX.out _ h).2.1) Tryd.underlying36 rfl SZT.out) hH0 ?_
   simp only [Act.put, qa]
   apply tk 1 (v := _) rfl (Or.inl ⟨by kernel_rfl, ?hv⟩) hH0 ?_
   case hv => intro w' hS; have z0 := HC.out w' hS; have z1 := HAT.out w'; have z2 := HEQ.out w'; go_simp; try exact rfl
   simp only [Act.put, qa]
   apply tk 4 (v := _) rfl (Or.inl ⟨by kernel_rfl, ?hv⟩) hH0 ?_
   case hv => intro w' hS; have z0 := HC.out w' hS; have z1 := HAT.out w'; have z2 := HEQ.out w'; go_simp; try exact rfl
   simp only [Act.put, qa]
   apply tk 5 (v := _) rfl (Or.inl ⟨by kernel_rfl, ?hv⟩) hH0 ?_
   case hv => intro w' hS; have z0 := HC.out w' hS; have z1 := HAT.out w'; have z2 := HEQ.out w'; go_simp; try exact rfl
   simp only [Act.put, qa]
   apply tk 6 (v := _) rfl (Or.inl ⟨by kernel_rfl, ?hv⟩) hH0 ?_
   case hv => intro w' hS; have z0 := HC.out w' hS; have z1 := HAT.out w'; have z2 := HEQ.out w'; go_simp; try exact rfl
   simp only [Act.put, qa]
   apply tk 7 (v := _) rfl (Or.inl ⟨by kernel_rfl, ?hv⟩) hH0 ?_
   case hv => intro w' hS; have z0 := HC.out w' hS; have z1 := HAT.out w'; have z2 := HEQ.out w'; go_simp; try exact rfl
   simp only [Act.put, qa]
   apply tk 8 (v := _) rfl (Or.inl ⟨by kernel_rfl, ?hv⟩) hH0 ?_
   case hv => intro w' hS; have z0 := HC.out w' hS; have z1 := HAT.out w'; have z2 := HEQ.out w'; go_simp; try exact rfl
   simp only [Act.put, qa]
   refine tk 9 (v := (.agg LK.toArray)) rfl (yieldsIf_load_mid (by kernel_rfl) 38 (.tmp 28) rfl sb (so + k * 68 + 35) rfl LK _ (fun w' h => (HLK.out _ h)) Tryd.underlying38 rfl SZK.out) hH0 ?_
   simp only [Act.put, qa]
   refine wpAnyH_ready (rs := [2]) (by kernel_rfl) (by simp) ?_
   refine AllReadyH.cons rfl (fun KK hKK => ?_) AllReadyH.nil
   refine step_buildN' rfl 111 87 1 _ rfl _ 1 24 Tryd.underlying111 info_bslice [.tmp 21] rfl [.slice (some ⟨b0 + 2, 0, none⟩) 32 32] rfl (by simp [Value.cells]) rfl rfl (by decide) (by decide) (by decide) ?_
   have hcl := HSUM.out w8.drew (b0 + 2) (HX.out _ hH0).2.2 (HX.out _ hH0).2.2.lt
   obtain ⟨x2, hx2⟩ : ∃ y, y = w8.drew.alloc (.cells #[.slice (some ⟨b0 + 2, 0, none⟩) 32 32] 87) := ⟨_, rfl⟩
   change KK _ (w8.drew.alloc (.cells #[.slice (some ⟨b0 + 2, 0, none⟩) 32 32] 87))
   rw [← hx2] at hcl ⊢
   have hn2 : Below w8.drew.heap.size w8.drew x2 := by rw [hx2]; exact (Below.refl _ _).alloc (Nat.le_refl _) _
   have hs2 : Below W1.heap.size W1 x2 := hH0.trans (hn2.mono hH0.size)
   clear hx2 hn2
   refine Shut.out hKK _ _ hs2 (fun hH1 => ?_)
   clear hKK KK
   try simp only [Act.put, qa]
   refine wpAnyH_ready (rs := [3]) (by kernel_rfl) (by simp) ?_
   refine AllReadyH.cons rfl (fun KK hKK => ?_) AllReadyH.nil
   go_simp
   unfold arr at hcl
   rw [← ELD.out] at hcl
   refine hcl.mono ?_
   rintro _ x3 ⟨rfl, hx3⟩
   have hs3 : Below W1.heap.size W1 x3 := hH1.trans (hx3.mono hH1.size)
   clear hx3 hcl
   refine Shut.out hKK _ _ hs3 (fun hH2 => ?_)
   clear hKK KK
   try simp only [Act.put, qa]
   apply tk 10 (v := _) rfl (Or.inl ⟨by kernel_rfl, ?hv⟩) hH2 ?_
   case hv => intro w' hS; have z0 := HC.out w' hS; have z1 := HAT.out w'; have z2 := HEQ.out w'; go_simp; try exact rfl
   simp only [Act.put, qa]
   refine wpAnyH_done (by kernel_rfl) ?_ _
   refine NoPanic.normal ?_
   have HB9 := Lib.hid hs3
   clear hs3 hs2 hS0
   cases q with
   | false =>
     have HE := Lib.hid (show settleRE K s0 r frm no sec = 31 ∧ settleRB K s0 r frm no sec = r by
      have : settleRE K s0 r frm no sec = 31 := by rw [HRE.out, if_neg (of_decide_eq_false HQ.out.symm)]
      exact ⟨this, by unfold settleRB; rw [this]; rfl⟩)
     obtain ⟨hz3, hs3, hr3, hb3⟩ := HEND.out x3 L r (HR.out.below (HB1.out.trans (HB9.out.mono HB1.out.size))) (HB9.out)
     have HZ3 := Lib.hid hz3
     have HF1 := Lib.hid hs3
     have HF2 := Lib.hid (And.intro hr3 hb3)
     have HI7 := Lib.hid (HX.out x3 (HB9.out)).1
     clear hz3 hs3 hr3 hb3
     go_wp2_with (first
      | (refine wpList_load_mid rfl 31 (.tmp 5) rfl b0 0 rfl L _ HI7.out Tryd.underlying31 rfl SZB.out ?_)
      | (refine wpList_store_row rfl 31 (.tmp 10) (.tmp 31) rfl (b0 + 3) L.toArray rfl rfl 31 _ HZ3.out SZA.out SZ4.out HONE.out ?_))
     refine bodyPost_ret (results_cell_tmp rfl _ _ (b0 + 3) 31 L.toArray (0, 0) _ rfl rfl HF1.out Tryd.underlying31 SZA.out) rfl ?_
     exact ⟨⟨L, by rw [HE.out.1]; rfl, by rw [HE.out.2]; exact HF2.out.1⟩, by rw [← HBQ.out]; exact HF2.out.2⟩
   | true =>
     have HE := Lib.hid (show settleRE K s0 r frm no sec = 0 ∧ settleRB K s0 r frm no sec = withoutR r k (1 - frm) o by
      have : settleRE K s0 r frm no sec = 0 := by rw [HRE.out, if_pos (of_decide_eq_true HQ.out.symm)]
      exact ⟨this, by unfold settleRB; rw [this, if_pos rfl]; exact HGV.out⟩)
     have HI9 := Lib.hid (HX.out x3 HB9.out).1
     go_wp2_with (refine wpList_load_mid rfl 31 (.tmp 5) rfl b0 0 rfl L _ HI9.out Tryd.underlying31 rfl SZB.out ?_)
     refine (HW.out x3 (HB1.out.trans (HB9.out.mono HB1.out.size))).mono ?_
     rintro _ w9 ⟨⟨L', rfl, hr9⟩, hb9⟩
     have hb19 := HB9.out.trans (hb9.mono HB9.out.size)
     obtain ⟨hz3, hs3, hr3, hb3⟩ := HEND.out w9 L' _ hr9 hb19
     have HZ3 := Lib.hid hz3
     have HF1 := Lib.hid hs3
     have HF2 := Lib.hid (And.intro hr3 hb3)
     have SZA' := Lib.hid (show (Tryd.prog.info? 31).map (·.size) = some L'.toArray.size by rw [List.size_toArray]; exact size_rb hr9.len)
     have SZ4' := Lib.hid (show (#[.slice none 0 0, .slice none 0 0, .int .u64 0, .int .u64 0] : Array Value).size = L'.toArray.size by show 4 = _; rw [List.size_toArray, hr9.len])
     have HONE' := Lib.hid hr9.one
     clear hz3 hs3 hr3 hb3 hr9 hb9 hb19
     go_wp2_with (refine wpList_store_row rfl 31 (.tmp 10) (.tmp 36) rfl (b0 + 3) L'.toArray rfl rfl 31 _ HZ3.out SZA'.out SZ4'.out HONE'.out ?_)
     refine bodyPost_ret (results_cell_tmp rfl _ _ (b0 + 3) 31 L'.toArray (0, 0) _ rfl rfl HF1.out Tryd.underlying31 SZA'.out) rfl ?_
     exact ⟨⟨L', by rw [HE.out.1]; rfl, by rw [HE.out.2]; exact HF2.out.1⟩, by rw [← HBQ.out]; exact HF2.out.2⟩
end Go.Proofs.YtcekammjpghjnaaDoor

