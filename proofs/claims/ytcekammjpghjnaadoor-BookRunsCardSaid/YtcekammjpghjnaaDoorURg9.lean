/- The reference's book: an offer made. -/
import Derived.Test.YtcekammjpghjnaaDoorWs
import Derived.Test.YtcekammjpghjnaaDoorURg8
namespace Go.Proofs.YtcekammjpghjnaaDoor
set_option linter.unusedVariables false
set_option linter.unusedSimpArgs false
open Go.ChangeShapes Go.WideShapes Go.ChangeAt Go.RowKit Go.Maps

theorem boxes_offer (w : World) (LB LO : List Value) (Z : Array Value) : ∃ W1, W1 = (((((w.alloc (.cells LB.toArray 31))).alloc (.cells LO.toArray 52))).alloc (.cells Z 31)) ∧
   Has W1 (w.heap.size) 31 LB.toArray ∧ Has W1 (w.heap.size + 1) 52 LO.toArray ∧ Has W1 (w.heap.size + 1 + 1) 31 Z ∧ Below w.heap.size w W1 := by
 refine ⟨_, rfl, ?_, ?_, ?_, ?_⟩
 · have := Has.new w 31 LB.toArray
   exact ((this).alloc _).alloc _
 · have := Has.new (w.alloc (.cells LB.toArray 31)) 52 LO.toArray
   exact ((by simpa using this : Has _ (w.heap.size + 1) _ _)).alloc _
 · have := Has.new (((w.alloc (.cells LB.toArray 31))).alloc (.cells LO.toArray 52)) 31 Z
   exact (by simpa using this : Has _ (w.heap.size + 1 + 1) _ _)
 · exact (((Below.refl _ _).alloc (Nat.le_refl _) _).alloc (by simp) _).alloc (by simp; omega) _
theorem FQ.row {w v : World} {b0 g q : Nat} {t : TypeId} {L LI L' : List Value} {r r' : RB} (h : FQ w b0 g q t L LI r v) (hw : w.heap.size ≤ q) (hr : RbAt v L' r') : ∃ Z, Has v q 31 Z ∧ Z.size = L'.toArray.size ∧ Has (v.setRow q L'.toArray) q 31 L'.toArray ∧ RbAt (v.setRow q L'.toArray) L' r' ∧ Below w.heap.size w (v.setRow q L'.toArray) := by
 obtain ⟨⟨h1, h1r⟩, h2, h3, Z, hz, h4⟩ := h
 have hk : Kept (fun j => j = q) v (v.setRow q L'.toArray) := kept_setRow _ _
 exact ⟨Z, h4, by rw [hz, List.size_toArray, hr.len], h4.setRow, rb_far1 h4 hk hr, h3.trans (hk.below h3.size (fun j e => by have e' : j = q := e; omega))⟩
theorem build_z32 (w : World) : (Instr.build 38 #[]).run Tryd.prog w = .ok (.agg (bcells (List.replicate 32 0)).toArray) w := by kernel_rfl
theorem cntF_all (os : List Off) (f : Int) : cntF (os.take os.length) f = cntF os f := by rw [List.take_length]
theorem cut_q {gs xa kp K : Nat} {P : Prop} [Decidable P] (h : ¬ gs < xa) (hp : P) (hk : kp = K) : decide (gs - xa < kp) = decide (gs < xa ∨ (P ∧ gs - xa < K)) := by
 subst hk
 rw [decide_eq_decide]
 exact ⟨fun h2 => .inr ⟨hp, by omega⟩, fun h2 => by rcases h2 with h2 | h2; exact absurd h2 h; have := h2.2; omega⟩
def RB.keep (r : RB) (f : Int) : Nat := if f = 0 then r.k0 else r.k1
def offRE (r : RB) (o : Off) : Int := if o.fair then (if 0 ≤ findI r.offers o.frm o.no then 6 else if 30 ≤ cntF r.offers o.frm then 50 else if getR r.has o.frm o.id < o.am ∨ (o.id = List.replicate 32 0 ∧ getR r.has o.frm o.id - o.am < r.keep o.frm) then 51 else 0) else 1
def offRB (r : RB) (o : Off) : RB := if offRE r o = 0 then { r with has := setR r.has o.frm o.id (getR r.has o.frm o.id - o.am), offers := r.offers ++ [o] } else r
set_option maxRecDepth 100000 in
set_option maxHeartbeats 8000000 in
theorem rbOffer_is (w : World) (L : List Value) (r : RB) (hr : RbAt w L r) (hcap : r.offers.length ≤ 200) (hcah : r.has.length ≤ 99998) (o : Off) (hok : o.ok) :
   Calls Tryd.prog 10 #[.agg L.toArray, .agg o.cells.toArray] w fun e w' => (∃ L', e = .returned (.tuple #[.agg L'.toArray, .int .i64 (offRE r o)]) ∧ RbAt w' L' (offRB r o)) ∧ Below w.heap.size w w' := by
 have hzb := zero_rb
 obtain ⟨Z, hz, hzs, hzn⟩ := zero_ro
 obtain ⟨ZI, hinf, hzi⟩ := info_ro
 obtain ⟨LO, hLO⟩ : ∃ X, X = o.cells := ⟨_, rfl⟩
 rw [← hLO]
 obtain ⟨A, n, c, B, m, d, hL, hrows, hoffs, hmd, hn, hm⟩ := hr.ex
 have hm200 : m ≤ 200 := by rw [← hoffs.rows.len]; exact hcap
 obtain ⟨W1, hW1, h1, h2, h3, hb1⟩ := boxes_offer w L LO #[.slice none 0 0, .slice none 0 0, .int .u64 0, .int .u64 0]
 obtain ⟨e0, e1, e34, e67⟩ := off_cells o hok
 have c0 : W1.cell? ⟨w.heap.size + 1, 0, none⟩ = some (.int .i64 o.no) := h2.cell_is (by rw [List.getElem?_toArray, hLO]; exact e0)
 have c1 : W1.cell? ⟨w.heap.size + 1, 1, none⟩ = some (.int .i64 o.frm) := h2.cell_is (by rw [List.getElem?_toArray, hLO]; exact e1)
 have c34 : W1.cell? ⟨w.heap.size + 1, 34, none⟩ = some (.int .u64 (o.am : Int)) := h2.cell_is (by rw [List.getElem?_toArray, hLO]; exact e34)
 have c67 : W1.cell? ⟨w.heap.size + 1, 67, none⟩ = some (.int .i64 o.til) := h2.cell_is (by rw [List.getElem?_toArray, hLO]; exact e67)
 have HR := Lib.hid hr
 have HOK := Lib.hid hok
 have HB1 := Lib.hid hb1
 have EW := Lib.hid hW1
 have H1 := Lib.hid h1
 have H2 := Lib.hid h2
 have H3 := Lib.hid h3
 have HZS := Lib.hid hzs
 have HINF := Lib.hid hinf
 have HZI := Lib.hid hzi
 have HLL := Lib.hid hL
 have ELO := Lib.hid hLO
 have HONE := Lib.hid hr.one
 have HLEN := Lib.hid hoffs.rows.len
 have HOFF := Lib.hid hr.off
 have HROW := Lib.hid (hoffs.rows.below hb1)
 have HCH := Lib.hid hcah
 have SZB := Lib.hid (size_rb hr.len)
 have SZA := Lib.hid (show (Tryd.prog.info? 31).map (·.size) = some L.toArray.size by rw [List.size_toArray]; exact SZB.out)
 have SZ4 := Lib.hid (show (#[.slice none 0 0, .slice none 0 0, .int .u64 0, .int .u64 0] : Array Value).size = L.toArray.size by show 4 = _; rw [List.size_toArray, hr.len])
 obtain ⟨fi, hfi⟩ : ∃ y, y = findI r.offers o.frm o.no := ⟨_, rfl⟩
 have HFIND := Lib.hid (show ∀ v, Below w.heap.size w v → Calls Tryd.prog 33 #[.agg L.toArray, .int .i64 o.frm, .int .i64 o.no] v fun e w' => e = .returned (.int .i64 fi) ∧ Below v.heap.size v w' from fun v hv => by rw [hfi]; exact rbFind_is v L r (hr.below hv) o.frm o.no)
 obtain ⟨IDC, hIDC⟩ : ∃ y, y = bcells o.id := ⟨_, rfl⟩
 have EID := Lib.hid hIDC
 have HG := Lib.hid (show ∀ v, Below w.heap.size w v → Calls Tryd.prog 28 #[.agg L.toArray, .int .i64 o.frm, .agg IDC.toArray] v fun e w' => e = .returned (.int .u64 (getR r.has o.frm o.id : Int)) ∧ Below v.heap.size v w' from fun v hv => by
   have := rbGet_is v L r (hr.below hv) o.frm o.id hok.1
   unfold arr at this
   rw [← hIDC] at this
   exact this)
 have hgl := getR_lt hr.ok o.frm o.id
 have HSET := Lib.hid (show ∀ v, Below w.heap.size w v → Calls Tryd.prog 27 #[.agg L.toArray, .int .i64 o.frm, .agg IDC.toArray, .int .u64 ((getR r.has o.frm o.id - o.am : Nat) : Int)] v fun e w' => (∃ L', e = .returned (.agg L'.toArray) ∧ RbAt w' L' { r with has := setR r.has o.frm o.id (getR r.has o.frm o.id - o.am) }) ∧ Below v.heap.size v w' from fun v hv => by
   have := rbSet_is v L r (hr.below hv) (by omega) o.frm o.id hok.1 (getR r.has o.frm o.id - o.am) (by omega)
   unfold arr at this
   rw [← hIDC] at this
   exact this)
 have SZI := Lib.hid (show (Tryd.prog.info? 38).map (·.size) = some IDC.length by rw [hIDC, bcells_length, hok.1.1]; kernel_rfl)
 have HX := Lib.hid (show ∀ v, Below W1.heap.size W1 v → v.rangeAt w.heap.size 0 L ∧ v.rangeAt (w.heap.size + 1) 2 IDC from fun v hv => ⟨(H1.out.below hv H1.out.lt).row0, by
   have := H2.out.below hv H2.out.lt
   rw [hLO] at this
   rw [hIDC]
   exact ro_id hok this⟩)
 have HEND := Lib.hid (show ∀ (wx : World) (LX : List Value) (r' : RB), RbAt wx LX r' → Below W1.heap.size W1 wx → Has wx (w.heap.size + 2) 31 #[.slice none 0 0, .slice none 0 0, .int .u64 0, .int .u64 0] ∧ Has (wx.setRow (w.heap.size + 2) LX.toArray) (w.heap.size + 2) 31 LX.toArray ∧ RbAt (wx.setRow (w.heap.size + 2) LX.toArray) LX r' ∧ Below w.heap.size w (wx.setRow (w.heap.size + 2) LX.toArray) from fun wx LX r' hx hb => rb_end HB1.out H3.out (by omega) hx hb)
 have HC := Lib.hid (show ∀ v, Below W1.heap.size W1 v → v.cell? ⟨w.heap.size, 1, none⟩ = some (.slice B m d) ∧ v.cell? ⟨w.heap.size, 2, none⟩ = some (.int .u64 (r.k0 : Int)) ∧ v.cell? ⟨w.heap.size, 3, none⟩ = some (.int .u64 (r.k1 : Int)) from fun v hv => by
   have h := H1.out.below hv H1.out.lt
   rw [HLL.out] at h
   exact ⟨h.cell_is rfl, h.cell_is rfl, h.cell_is rfl⟩)
 have HRE := Lib.hid (show offRE r o = if (o.frm = 0 ∨ o.frm = 1) ∧ 0 ≤ o.no ∧ 0 < o.am ∧ 0 ≤ o.til ∧ o.til ≤ 1073741824 then (if 0 ≤ fi then 6 else if 30 ≤ cntF r.offers o.frm then 50 else if getR r.has o.frm o.id < o.am ∨ (o.id = List.replicate 32 0 ∧ getR r.has o.frm o.id - o.am < r.keep o.frm) then 51 else 0) else 1 by rw [hfi]; rfl)
 have HRB := Lib.hid (show ∀ x : Int, offRE r o = x → x ≠ 0 → offRB r o = r from fun x h1 h2 => by unfold offRB; rw [h1, if_neg h2])
 have HRG := Lib.hid (show offRE r o = 0 → offRB r o = { r with has := setR r.has o.frm o.id (getR r.has o.frm o.id - o.am), offers := r.offers ++ [o] } from fun h => by unfold offRB; rw [if_pos h])
 obtain ⟨gs, hgs⟩ : ∃ y, y = getR r.has o.frm o.id := ⟨_, rfl⟩
 obtain ⟨xn, hxn⟩ : ∃ v, v = o.no := ⟨_, rfl⟩
 obtain ⟨xf, hxf⟩ : ∃ v, v = o.frm := ⟨_, rfl⟩
 obtain ⟨xa, hxa⟩ : ∃ v, v = o.am := ⟨_, rfl⟩
 obtain ⟨xt, hxt⟩ : ∃ v, v = o.til := ⟨_, rfl⟩
 have HGL := Lib.hid (show gs < 18446744073709551616 by rw [hgs]; exact hgl)
 have HXA := Lib.hid (show xa < 18446744073709551616 by rw [hxa]; exact hok.2.2)
 rw [← hgs] at HG HSET HRE HRG
 rw [← hxn] at c0 HFIND HRE
 rw [← hxf] at c1 HFIND HG HSET HRE HRG
 rw [← hxa] at c34 HSET HRE HRG
 rw [← hxt] at c67 HRE
 have HC1 := Lib.hid (show ∀ v, Below W1.heap.size W1 v → v.cell? ⟨w.heap.size + 1, 1, none⟩ = some (.int .i64 xf) from fun v hv => by rw [← c1]; exact hv.cell (p := ⟨w.heap.size + 1, 1, none⟩) h2.lt)
 have HCA := Lib.hid (show ∀ v, Below W1.heap.size W1 v → v.cell? ⟨w.heap.size + 1, 34, none⟩ = some (.int .u64 (xa : Int)) from fun v hv => by rw [← c34]; exact hv.cell (p := ⟨w.heap.size + 1, 34, none⟩) h2.lt)
 have HM2 := Lib.hid hm200
 have hge := h3.lt
 have HGE := Lib.hid hge
 clear hr hok hb1 hW1 h1 h2 h3 hzs hinf hzi hL hLO hIDC hcap hcah hm hn hmd hoffs hrows hfi e0 e1 e34 e67 hgs hxn hxf hxa hxt hge hgl hm200
 go_enter Tryd.func10, Tryd.ntmps10
 go_upto_region 1 with (fail)
 rw [← EW.out]
 obtain ⟨b0, hb0⟩ : ∃ y, y = w.heap.size := ⟨_, rfl⟩
 rw [← hb0] at H1 H2 H3 HX HEND HC HGE HC1 HCA c0 c1 c34 c67 ⊢
 have HBQ := Lib.hid hb0
 clear hb0 EW
 by_cases hc0 : xf < 0
 · have HE := Lib.hid (show offRE r o = 1 by rw [HRE.out, if_neg (by omega)])
   have HB9 := Lib.hid (HRB.out _ HE.out (by decide))
   obtain ⟨hz3, hs3, hr3, hb3⟩ := HEND.out W1 L r (HR.out.below (HB1.out)) (Below.refl _ _)
   have HZ3 := Lib.hid hz3
   have HF1 := Lib.hid hs3
   have HF2 := Lib.hid (And.intro hr3 hb3)
   have HI7 := Lib.hid (HX.out W1 (Below.refl _ _)).1
   clear hz3 hs3 hr3 hb3
   go_wp2_with (first
     | (refine wpList_load_mid rfl 31 (.tmp 2) rfl b0 0 rfl L _ HI7.out Tryd.underlying31 rfl SZB.out ?_)
     | (refine wpList_store_row rfl 31 (.tmp 4) (.tmp 38) rfl (b0 + 2) L.toArray rfl rfl 31 _ HZ3.out SZA.out SZ4.out HONE.out ?_))
   refine bodyPost_ret (results_cell_tmp rfl _ _ (b0 + 2) 31 L.toArray (0, 0) _ rfl rfl HF1.out Tryd.underlying31 SZA.out) rfl ?_
   exact ⟨⟨L, by rw [HE.out]; rfl, by rw [HB9.out]; exact HF2.out.1⟩, by rw [← HBQ.out]; exact HF2.out.2⟩
 by_cases hc1 : xf > 1
 · have HE := Lib.hid (show offRE r o = 1 by rw [HRE.out, if_neg (by omega)])
   have HB9 := Lib.hid (HRB.out _ HE.out (by decide))
   obtain ⟨hz3, hs3, hr3, hb3⟩ := HEND.out W1 L r (HR.out.below (HB1.out)) (Below.refl _ _)
   have HZ3 := Lib.hid hz3
   have HF1 := Lib.hid hs3
   have HF2 := Lib.hid (And.intro hr3 hb3)
   have HI7 := Lib.hid (HX.out W1 (Below.refl _ _)).1
   clear hz3 hs3 hr3 hb3
   go_wp2_with (first
     | (refine wpList_load_mid rfl 31 (.tmp 2) rfl b0 0 rfl L _ HI7.out Tryd.underlying31 rfl SZB.out ?_)
     | (refine wpList_store_row rfl 31 (.tmp 4) (.tmp 38) rfl (b0 + 2) L.toArray rfl rfl 31 _ HZ3.out SZA.out SZ4.out HONE.out ?_))
   refine bodyPost_ret (results_cell_tmp rfl _ _ (b0 + 2) 31 L.toArray (0, 0) _ rfl rfl HF1.out Tryd.underlying31 SZA.out) rfl ?_
   exact ⟨⟨L, by rw [HE.out]; rfl, by rw [HB9.out]; exact HF2.out.1⟩, by rw [← HBQ.out]; exact HF2.out.2⟩
 by_cases hc2 : xn < 0
 · have HE := Lib.hid (show offRE r o = 1 by rw [HRE.out, if_neg (by omega)])
   have HB9 := Lib.hid (HRB.out _ HE.out (by decide))
   obtain ⟨hz3, hs3, hr3, hb3⟩ := HEND.out W1 L r (HR.out.below (HB1.out)) (Below.refl _ _)
   have HZ3 := Lib.hid hz3
   have HF1 := Lib.hid hs3
   have HF2 := Lib.hid (And.intro hr3 hb3)
   have HI7 := Lib.hid (HX.out W1 (Below.refl _ _)).1
   clear hz3 hs3 hr3 hb3
   go_wp2_with (first
     | (refine wpList_load_mid rfl 31 (.tmp 2) rfl b0 0 rfl L _ HI7.out Tryd.underlying31 rfl SZB.out ?_)
     | (refine wpList_store_row rfl 31 (.tmp 4) (.tmp 38) rfl (b0 + 2) L.toArray rfl rfl 31 _ HZ3.out SZA.out SZ4.out HONE.out ?_))
   refine bodyPost_ret (results_cell_tmp rfl _ _ (b0 + 2) 31 L.toArray (0, 0) _ rfl rfl HF1.out Tryd.underlying31 SZA.out) rfl ?_
   exact ⟨⟨L, by rw [HE.out]; rfl, by rw [HB9.out]; exact HF2.out.1⟩, by rw [← HBQ.out]; exact HF2.out.2⟩
 by_cases hc3 : xa = 0
 · have HE := Lib.hid (show offRE r o = 1 by rw [HRE.out, if_neg (by omega)])
   have hxa0 : (xa : Int) = 0 := by omega
   have HB9 := Lib.hid (HRB.out _ HE.out (by decide))
   obtain ⟨hz3, hs3, hr3, hb3⟩ := HEND.out W1 L r (HR.out.below (HB1.out)) (Below.refl _ _)
   have HZ3 := Lib.hid hz3
   have HF1 := Lib.hid hs3
   have HF2 := Lib.hid (And.intro hr3 hb3)
   have HI7 := Lib.hid (HX.out W1 (Below.refl _ _)).1
   clear hz3 hs3 hr3 hb3
   go_wp2_with (first
     | (refine wpList_load_mid rfl 31 (.tmp 2) rfl b0 0 rfl L _ HI7.out Tryd.underlying31 rfl SZB.out ?_)
     | (refine wpList_store_row rfl 31 (.tmp 4) (.tmp 38) rfl (b0 + 2) L.toArray rfl rfl 31 _ HZ3.out SZA.out SZ4.out HONE.out ?_))
   refine bodyPost_ret (results_cell_tmp rfl _ _ (b0 + 2) 31 L.toArray (0, 0) _ rfl rfl HF1.out Tryd.underlying31 SZA.out) rfl ?_
   exact ⟨⟨L, by rw [HE.out]; rfl, by rw [HB9.out]; exact HF2.out.1⟩, by rw [← HBQ.out]; exact HF2.out.2⟩
 by_cases hc4 : xt < 0
 · have HE := Lib.hid (show offRE r o = 1 by rw [HRE.out, if_neg (by omega)])
   have HB9 := Lib.hid (HRB.out _ HE.out (by decide))
   obtain ⟨hz3, hs3, hr3, hb3⟩ := HEND.out W1 L r (HR.out.below (HB1.out)) (Below.refl _ _)
   have HZ3 := Lib.hid hz3
   have HF1 := Lib.hid hs3
   have HF2 := Lib.hid (And.intro hr3 hb3)
   have HI7 := Lib.hid (HX.out W1 (Below.refl _ _)).1
   clear hz3 hs3 hr3 hb3
   go_wp2_with (first
     | (refine wpList_load_mid rfl 31 (.tmp 2) rfl b0 0 rfl L _ HI7.out Tryd.underlying31 rfl SZB.out ?_)
     | (refine wpList_store_row rfl 31 (.tmp 4) (.tmp 38) rfl (b0 + 2) L.toArray rfl rfl 31 _ HZ3.out SZA.out SZ4.out HONE.out ?_))
   refine bodyPost_ret (results_cell_tmp rfl _ _ (b0 + 2) 31 L.toArray (0, 0) _ rfl rfl HF1.out Tryd.underlying31 SZA.out) rfl ?_
   exact ⟨⟨L, by rw [HE.out]; rfl, by rw [HB9.out]; exact HF2.out.1⟩, by rw [← HBQ.out]; exact HF2.out.2⟩
 by_cases hc5 : xt > 1073741824
 · have HE := Lib.hid (show offRE r o = 1 by rw [HRE.out, if_neg (by omega)])
   have HB9 := Lib.hid (HRB.out _ HE.out (by decide))
   obtain ⟨hz3, hs3, hr3, hb3⟩ := HEND.out W1 L r (HR.out.below (HB1.out)) (Below.refl _ _)
   have HZ3 := Lib.hid hz3
   have HF1 := Lib.hid hs3
   have HF2 := Lib.hid (And.intro hr3 hb3)
   have HI7 := Lib.hid (HX.out W1 (Below.refl _ _)).1
   clear hz3 hs3 hr3 hb3
   go_wp2_with (first
     | (refine wpList_load_mid rfl 31 (.tmp 2) rfl b0 0 rfl L _ HI7.out Tryd.underlying31 rfl SZB.out ?_)
     | (refine wpList_store_row rfl 31 (.tmp 4) (.tmp 38) rfl (b0 + 2) L.toArray rfl rfl 31 _ HZ3.out SZA.out SZ4.out HONE.out ?_))
   refine bodyPost_ret (results_cell_tmp rfl _ _ (b0 + 2) 31 L.toArray (0, 0) _ rfl rfl HF1.out Tryd.underlying31 SZA.out) rfl ?_
   exact ⟨⟨L, by rw [HE.out]; rfl, by rw [HB9.out]; exact HF2.out.1⟩, by rw [← HBQ.out]; exact HF2.out.2⟩
 have HE0 := Lib.hid (show offRE r o = (if 0 ≤ fi then 6 else if 30 ≤ cntF r.offers xf then 50 else if gs < xa ∨ (o.id = List.replicate 32 0 ∧ gs - xa < r.keep xf) then 51 else 0) by rw [HRE.out, if_pos (by omega)])
 have hxa0 : ¬ (xa : Int) = 0 := by omega
 have hsd : xf = 0 ∨ xf = 1 := by omega
 go_upto_region 3 with (fail)
 clear hc0 hc1 hc2 hc3 hc4 hc5 HRE
 have HI0 := Lib.hid (HX.out W1 (Below.refl _ _))
 go_wp2_with (refine wpList_load_mid rfl 31 (.tmp 2) rfl b0 0 rfl L _ HI0.out.1 Tryd.underlying31 rfl SZB.out ?_)
 refine (HFIND.out W1 HB1.out).mono ?_
 rintro _ w8 ⟨rfl, hb8⟩
 have HB8 := Lib.hid hb8
 clear hb8 HI0 HFIND
 by_cases hpos : 0 ≤ fi
 · have HE := Lib.hid (show offRE r o = 6 by rw [HE0.out, if_pos hpos])
   have hpos' : fi ≥ 0 := hpos
   have HB9 := Lib.hid (HRB.out _ HE.out (by decide))
   obtain ⟨hz3, hs3, hr3, hb3⟩ := HEND.out w8 L r (HR.out.below (HB1.out.trans (HB8.out.mono HB1.out.size))) (HB8.out)
   have HZ3 := Lib.hid hz3
   have HF1 := Lib.hid hs3
   have HF2 := Lib.hid (And.intro hr3 hb3)
   have HI7 := Lib.hid (HX.out w8 (HB8.out)).1
   clear hz3 hs3 hr3 hb3
   go_wp2_with (first
     | (refine wpList_load_mid rfl 31 (.tmp 2) rfl b0 0 rfl L _ HI7.out Tryd.underlying31 rfl SZB.out ?_)
     | (refine wpList_store_row rfl 31 (.tmp 4) (.tmp 46) rfl (b0 + 2) L.toArray rfl rfl 31 _ HZ3.out SZA.out SZ4.out HONE.out ?_))
   refine bodyPost_ret (results_cell_tmp rfl _ _ (b0 + 2) 31 L.toArray (0, 0) _ rfl rfl HF1.out Tryd.underlying31 SZA.out) rfl ?_
   exact ⟨⟨L, by rw [HE.out]; rfl, by rw [HB9.out]; exact HF2.out.1⟩, by rw [← HBQ.out]; exact HF2.out.2⟩
 have HE1 := Lib.hid (show offRE r o = (if 30 ≤ cntF r.offers xf then 50 else if gs < xa ∨ (o.id = List.replicate 32 0 ∧ gs - xa < r.keep xf) then 51 else 0) by rw [HE0.out, if_neg hpos])
 have hpos' : ¬ fi ≥ 0 := hpos
 have hc1m : w8.cell? ⟨b0, 1, none⟩ = some (.slice B m d) := (HC.out w8 HB8.out).1
 clear hpos HE0 c0 c1 c34 c67
 go_wp2_with fail
 clear hc1m
 go_loopw [6, 50] (fun nv iv wr => ∃ k : Nat, iv = .int .i64 (k : Int) ∧ k ≤ m ∧ nv = .int .i64 ((cntF (r.offers.take k) xf : Nat) : Int) ∧ Below W1.heap.size W1 wr) (fun _ iv _ => m - (intOf iv).toNat)
 case atStart => exact ⟨0, rfl, Nat.zero_le _, rfl, HB8.out⟩
 case round =>
   clear HB8
   obtain ⟨k, rfl, hk, rfl, hbel⟩ := hrel
   have HBE := Lib.hid hbel
   clear hbel
   obtain ⟨ct, hct⟩ : ∃ y, y = cntF (r.offers.take k) xf := ⟨_, rfl⟩
   rw [← hct]
   have hctk : ct ≤ k := by rw [hct]; exact cntF_le r.offers xf k
   have HCT := Lib.hid hct
   clear hct
   by_cases hlt : k < m
   · have hlt' : (k : Int) < (m : Int) := by omega
     obtain ⟨sb, so, hA1, hA2, hrr⟩ := HROW.out.at_ (by omega)
     subst hA1
     obtain ⟨x, hx⟩ : ∃ x, r.offers[k]? = some x := ⟨_, List.getElem?_eq_getElem (by rw [HLEN.out]; exact hlt)⟩
     have hxok := HOFF.out x (List.mem_of_getElem? hx)
     have hrw := rangeAt_kept (hrr k x hx) (Kept.of_below (S := fun _ => False) HBE.out) (fun h => h)
     obtain ⟨XC, hXC⟩ : ∃ L, L = x.cells := ⟨_, rfl⟩
     rw [← hXC] at hrw
     have LXC := Lib.hid (show XC.length = 68 by rw [hXC]; exact Off.length x hxok)
     have HRW := Lib.hid hrw
     have SZ1 := Lib.hid (show (Tryd.prog.info? 52).map (·.size) = some XC.length by rw [LXC.out]; kernel_rfl)
     have SZXA := Lib.hid (show (Tryd.prog.info? 52).map (·.size) = some XC.toArray.size by rw [List.size_toArray]; exact SZ1.out)
     have HZZ := Lib.hid (show Z.size = XC.toArray.size by rw [HZS.out, List.size_toArray, LXC.out])
     have HONEX := Lib.hid (show XC.toArray.all (·.oneCell') = true by rw [hXC]; exact all_oneCell_toArray (off_one x))
     have HNW := Lib.hid (show ∀ C, Has ((wr.alloc (.cells Z 52)).setRow wr.heap.size C) wr.heap.size 52 C ∧ Below wr.heap.size wr ((wr.alloc (.cells Z 52)).setRow wr.heap.size C) from fun C => by
       rw [World.setRow_alloc_new]
       exact ⟨Has.new wr _ _, (Below.refl _ _).alloc (Nat.le_refl _) _⟩)
     have HXOK := Lib.hid hxok
     have EXC := Lib.hid hXC
     have hat := at_ro sb so m d k hlt
     have HLTK := Lib.hid hlt
     have HST := Lib.hid (cntF_step r.offers xf k x hx)
     clear hrw hxok hx hXC hrr hA2 hlt
     go_upto_region 9 with (first
       | (refine wpList_load_mid rfl 52 (.tmp 52) rfl sb (so + k * 68) rfl XC _ HRW.out Tryd.underlying52 rfl SZ1.out ?_)
       | (refine wpList_store_row rfl 52 (.tmp 8) (.tmp 53) rfl wr.heap.size XC.toArray rfl rfl 52 Z (heap_alloc_new wr _) SZXA.out HZZ.out HONEX.out ?_))
     obtain ⟨h4, hk4⟩ := HNW.out XC.toArray
     have hb4 := HBE.out.trans (hk4.mono HBE.out.size)
     clear HNW hk4 hat
     generalize (wr.alloc (.cells Z 52)).setRow wr.heap.size XC.toArray = W9 at h4 hb4 ⊢
     generalize wr.heap.size = G8 at h4 ⊢
     rw [EXC.out] at h4
     have HB4 := Lib.hid hb4
     have c9 : W9.cell? ⟨G8, 1, none⟩ = some (.int .i64 x.frm) := h4.cell_is (by rw [List.getElem?_toArray]; exact (off_cells x HXOK.out).2.1)
     have c1 : W9.cell? ⟨b0 + 1, 1, none⟩ = some (.int .i64 xf) := HC1.out W9 hb4
     clear h4 hb4
     obtain ⟨yf, hyf⟩ : ∃ v, v = x.frm := ⟨_, rfl⟩
     rw [← hyf] at c9 HST
     clear hyf
     by_cases hs : yf = xf
     · have hs' : (yf == xf) = true := by rw [beq_iff_eq]; exact hs
       have HS2 := Lib.hid (show cntF (r.offers.take (k + 1)) xf = ct + 1 by rw [HST.out, if_pos hs, HCT.out])
       clear hs
       have hm2 : m ≤ 200 := HM2.out
       go_wp2_with fail
       go_roundw
       case rel => exact ⟨k + 1, by go_num, HLTK.out, by rw [HS2.out]; go_num, HB4.out⟩
       case measure => have := HLTK.out; simp [intOf]; omega
     · have hs' : (yf == xf) = false := by rw [beq_eq_false_iff_ne]; exact hs
       have HS2 := Lib.hid (show cntF (r.offers.take (k + 1)) xf = ct by rw [HST.out, if_neg hs, HCT.out])
       clear hs
       have hm2 : m ≤ 200 := HM2.out
       go_wp2_with fail
       go_roundw
       case rel => exact ⟨k + 1, by go_num, HLTK.out, by rw [HS2.out], HB4.out⟩
       case measure => have := HLTK.out; simp [intOf]; omega
   · obtain rfl : k = m := by omega
     have hno : ¬ (k : Int) < (k : Int) := by omega
     have HCTE := Lib.hid (show cntF r.offers xf = ct by rw [HCT.out, ← HLEN.out, cntF_all])
     clear hlt hctk
     by_cases h30 : 30 ≤ ct
     · have HE := Lib.hid (show offRE r o = 50 by rw [HE1.out, HCTE.out, if_pos h30])
       have h30' : (ct : Int) ≥ 30 := by omega
       have HB9 := Lib.hid (HRB.out _ HE.out (by decide))
       obtain ⟨hz3, hs3, hr3, hb3⟩ := HEND.out wr L r (HR.out.below (HB1.out.trans (HBE.out.mono HB1.out.size))) (HBE.out)
       have HZ3 := Lib.hid hz3
       have HF1 := Lib.hid hs3
       have HF2 := Lib.hid (And.intro hr3 hb3)
       have HI7 := Lib.hid (HX.out wr (HBE.out)).1
       clear hz3 hs3 hr3 hb3
       go_wp2_with (first
         | (refine wpList_load_mid rfl 31 (.tmp 2) rfl b0 0 rfl L _ HI7.out Tryd.underlying31 rfl SZB.out ?_)
         | (refine wpList_store_row rfl 31 (.tmp 4) (.tmp 64) rfl (b0 + 2) L.toArray rfl rfl 31 _ HZ3.out SZA.out SZ4.out HONE.out ?_))
       refine bodyPost_ret (results_cell_tmp rfl _ _ (b0 + 2) 31 L.toArray (0, 0) _ rfl rfl HF1.out Tryd.underlying31 SZA.out) rfl ?_
       exact ⟨⟨L, by rw [HE.out]; rfl, by rw [HB9.out]; exact HF2.out.1⟩, by rw [← HBQ.out]; exact HF2.out.2⟩
     have HE2 := Lib.hid (show offRE r o = (if gs < xa ∨ (o.id = List.replicate 32 0 ∧ gs - xa < r.keep xf) then 51 else 0) by rw [HE1.out, HCTE.out, if_neg h30])
     have h30' : ¬ (ct : Int) ≥ 30 := by omega
     have hc1r : wr.cell? ⟨b0 + 1, 1, none⟩ = some (.int .i64 xf) := HC1.out wr HBE.out
     have HI14 := Lib.hid (HX.out wr HBE.out)
     clear h30
     go_wp2_with (first
       | (refine wpList_load_mid rfl 31 (.tmp 2) rfl b0 0 rfl L _ HI14.out.1 Tryd.underlying31 rfl SZB.out ?_)
       | (refine wpList_load_mid rfl 38 (.tmp 68) rfl (b0 + 1) 2 rfl IDC _ HI14.out.2 Tryd.underlying38 rfl SZI.out ?_))
     refine (HG.out wr (HB1.out.trans (HBE.out.mono HB1.out.size))).mono ?_
     rintro _ w14 ⟨rfl, hb14⟩
     have HB14 := Lib.hid (HBE.out.trans (hb14.mono HBE.out.size))
     clear hb14 hc1r HI14
     go_upto_region 15 with (fail)
     obtain ⟨kp, hkp⟩ : ∃ y, y = r.keep xf := ⟨_, rfl⟩
     have HKP := Lib.hid hkp
     obtain ⟨qi, hqi⟩ : ∃ y, y = decide (o.id = List.replicate 32 0) := ⟨_, rfl⟩
     have HQI := Lib.hid hqi
     have HEQ := Lib.hid (show ∀ v, (Op.equalIn 10000 38 (.agg IDC.toArray) (.agg (bcells (List.replicate 32 0)).toArray)).run Tryd.prog v = .ok qi v from fun v => by rw [EID.out, hqi]; exact rhash_eq _ _ HOK.out.1 ⟨rfl, fun x hx => by rw [List.eq_of_mem_replicate hx]; decide⟩ v)
     obtain ⟨ZB, hZB⟩ : ∃ y, y = bcells (List.replicate 32 0) := ⟨_, rfl⟩
     have HBZ := Lib.hid (show ∀ v, (Instr.build 38 #[]).run Tryd.prog v = .ok (.agg ZB.toArray) v from fun v => by rw [hZB]; exact build_z32 v)
     rw [← hZB] at HEQ
     clear hkp hqi hZB
     have hS0 : Below W1.heap.size W1 w14.drew := HB14.out.drew
     go_cut [92] from 71 (fun qv wx => ∃ q : Bool, q = decide (gs < xa ∨ (o.id = List.replicate 32 0 ∧ gs - xa < r.keep xf)) ∧ qv = .bool q ∧ Below W1.heap.size W1 wx)
     case first =>
       by_cases hA : gs < xa
       · have hA' : (gs : Int) < (xa : Int) := by omega
         have hd : decide ((gs : Int) < (xa : Int)) = true := decide_eq_true hA'
         refine wp_region_noPanic ?_
         refine wp_region_held_drew (S := (fun v => Below W1.heap.size W1 v)) (by kernel_rfl) hS0 (fun hH0 => ?_)
         apply tk 0 (v := _) rfl (Or.inl ⟨by kernel_rfl, ?hv⟩) hH0 ?_
         case hv => intro w' hS; have z0 := HCA.out w' hS; have z1 := HC1.out w' hS; have z2 := (HC.out w' hS).2.1; have z3 := (HC.out w' hS).2.2; have z4 := HEQ.out w'; go_simp; try exact rfl
         simp only [Act.put, qa]
         apply tk 1 (v := _) rfl (Or.inl ⟨by kernel_rfl, ?hv⟩) hH0 ?_
         case hv => intro w' hS; have z0 := HCA.out w' hS; have z1 := HC1.out w' hS; have z2 := (HC.out w' hS).2.1; have z3 := (HC.out w' hS).2.2; have z4 := HEQ.out w'; go_simp; try exact rfl
         simp only [Act.put, qa]
         apply tk 2 (v := _) rfl (Or.inl ⟨by kernel_rfl, ?hv⟩) hH0 ?_
         case hv => intro w' hS; have z0 := HCA.out w' hS; have z1 := HC1.out w' hS; have z2 := (HC.out w' hS).2.1; have z3 := (HC.out w' hS).2.2; have z4 := HEQ.out w'; go_simp; try exact rfl
         simp only [Act.put, qa]
         apply tk 3 (v := _) rfl (Or.inl ⟨by kernel_rfl, ?hv⟩) hH0 ?_
         case hv => intro w' hS; have z0 := HCA.out w' hS; have z1 := HC1.out w' hS; have z2 := (HC.out w' hS).2.1; have z3 := (HC.out w' hS).2.2; have z4 := HEQ.out w'; go_simp; try exact rfl
         simp only [Act.put, qa]
         apply tk 4 (v := _) rfl (Or.inl ⟨by kernel_rfl, ?hv⟩) hH0 ?_
         case hv => intro w' hS; have z0 := HCA.out w' hS; have z1 := HC1.out w' hS; have z2 := (HC.out w' hS).2.1; have z3 := (HC.out w' hS).2.2; have z4 := HEQ.out w'; go_simp; try exact rfl
         simp only [Act.put, qa]
         refine tk 5 (v := undef) rfl (Or.inr ⟨by kernel_rfl, rfl⟩) hH0 ?_
         simp only [Act.put, qa]
         refine tk 6 (v := undef) rfl (Or.inr ⟨by kernel_rfl, rfl⟩) hH0 ?_
         simp only [Act.put, qa]
         refine tk 7 (v := undef) rfl (Or.inr ⟨by kernel_rfl, rfl⟩) hH0 ?_
         simp only [Act.put, qa]
         refine tk 8 (v := undef) rfl (Or.inr ⟨by kernel_rfl, rfl⟩) hH0 ?_
         simp only [Act.put, qa]
         refine tk 9 (v := undef) rfl (Or.inr ⟨by kernel_rfl, rfl⟩) hH0 ?_
         simp only [Act.put, qa]
         refine tk 10 (v := undef) rfl (Or.inr ⟨by kernel_rfl, rfl⟩) hH0 ?_
         simp only [Act.put, qa]
         refine tk 11 (v := undef) rfl (Or.inr ⟨by kernel_rfl, rfl⟩) hH0 ?_
         simp only [Act.put, qa]
         refine tk 12 (v := undef) rfl (Or.inr ⟨by kernel_rfl, rfl⟩) hH0 ?_
         simp only [Act.put, qa]
         refine tk 13 (v := undef) rfl (Or.inr ⟨by kernel_rfl, rfl⟩) hH0 ?_
         simp only [Act.put, qa]
         refine tk 14 (v := undef) rfl (Or.inr ⟨by kernel_rfl, rfl⟩) hH0 ?_
         simp only [Act.put, qa]
         refine tk 15 (v := undef) rfl (Or.inr ⟨by kernel_rfl, rfl⟩) hH0 ?_
         simp only [Act.put, qa]
         refine tk 16 (v := undef) rfl (Or.inr ⟨by kernel_rfl, rfl⟩) hH0 ?_
         simp only [Act.put, qa]
         refine tk 17 (v := undef) rfl (Or.inr ⟨by kernel_rfl, rfl⟩) hH0 ?_
         simp only [Act.put, qa]
         refine tk 18 (v := undef) rfl (Or.inr ⟨by kernel_rfl, rfl⟩) hH0 ?_
         simp only [Act.put, qa]
         refine tk 19 (v := undef) rfl (Or.inr ⟨by kernel_rfl, rfl⟩) hH0 ?_
         simp only [Act.put, qa]
         refine tk 20 (v := undef) rfl (Or.inr ⟨by kernel_rfl, rfl⟩) hH0 ?_
         simp only [Act.put, qa]
         apply tk 21 (v := _) rfl (Or.inl ⟨by kernel_rfl, ?hv⟩) hH0 ?_
         case hv => intro w' hS; have z0 := HCA.out w' hS; have z1 := HC1.out w' hS; have z2 := (HC.out w' hS).2.1; have z3 := (HC.out w' hS).2.2; have z4 := HEQ.out w'; go_simp; try exact rfl
         simp only [Act.put, qa]
         refine wpAnyH_done (by kernel_rfl) ?_ _
         refine NoPanic.normal ?_
         go_wp2_with fail
         go_meet
         case rel => exact ⟨_, (decide_eq_true (Or.inl hA)).symm, rfl, HB14.out.drew⟩
       · have hA' : ¬ (gs : Int) < (xa : Int) := by omega
         have hd : decide ((gs : Int) < (xa : Int)) = false := decide_eq_false hA'
         cases qi with
         | false =>
           refine wp_region_noPanic ?_
           refine wp_region_held_drew (S := (fun v => Below W1.heap.size W1 v)) (by kernel_rfl) hS0 (fun hH0 => ?_)
           apply tk 0 (v := _) rfl (Or.inl ⟨by kernel_rfl, ?hv⟩) hH0 ?_
           case hv => intro w' hS; have z0 := HCA.out w' hS; have z1 := HC1.out w' hS; have z2 := (HC.out w' hS).2.1; have z3 := (HC.out w' hS).2.2; have z4 := HEQ.out w'; go_simp; try exact rfl
           simp only [Act.put, qa]
           apply tk 1 (v := _) rfl (Or.inl ⟨by kernel_rfl, ?hv⟩) hH0 ?_
           case hv => intro w' hS; have z0 := HCA.out w' hS; have z1 := HC1.out w' hS; have z2 := (HC.out w' hS).2.1; have z3 := (HC.out w' hS).2.2; have z4 := HEQ.out w'; go_simp; try exact rfl
           simp only [Act.put, qa]
           apply tk 2 (v := _) rfl (Or.inl ⟨by kernel_rfl, ?hv⟩) hH0 ?_
           case hv => intro w' hS; have z0 := HCA.out w' hS; have z1 := HC1.out w' hS; have z2 := (HC.out w' hS).2.1; have z3 := (HC.out w' hS).2.2; have z4 := HEQ.out w'; go_simp; try exact rfl
           simp only [Act.put, qa]
           apply tk 3 (v := _) rfl (Or.inl ⟨by kernel_rfl, ?hv⟩) hH0 ?_
           case hv => intro w' hS; have z0 := HCA.out w' hS; have z1 := HC1.out w' hS; have z2 := (HC.out w' hS).2.1; have z3 := (HC.out w' hS).2.2; have z4 := HEQ.out w'; go_simp; try exact rfl
           simp only [Act.put, qa]
           apply tk 4 (v := _) rfl (Or.inl ⟨by kernel_rfl, ?hv⟩) hH0 ?_
           case hv => intro w' hS; have z0 := HCA.out w' hS; have z1 := HC1.out w' hS; have z2 := (HC.out w' hS).2.1; have z3 := (HC.out w' hS).2.2; have z4 := HEQ.out w'; go_simp; try exact rfl
           simp only [Act.put, qa]
           apply tk 5 (v := _) rfl (Or.inl ⟨by kernel_rfl, ?hv⟩) hH0 ?_
           case hv => intro w' hS; have z0 := HCA.out w' hS; have z1 := HC1.out w' hS; have z2 := (HC.out w' hS).2.1; have z3 := (HC.out w' hS).2.2; have z4 := HEQ.out w'; go_simp; try exact rfl
           simp only [Act.put, qa]
           refine tk 6 (v := (.agg IDC.toArray)) rfl (yieldsIf_load_mid (by kernel_rfl) 38 (.tmp 76) rfl (b0 + 1) 2 rfl IDC _ (fun w' h => (HX.out _ h).2) Tryd.underlying38 rfl SZI.out) hH0 ?_
           simp only [Act.put, qa]
           refine tk 7 (v := (.agg ZB.toArray)) rfl (yieldsIf_build (by kernel_rfl) 38 #[] rfl #[] (by kernel_rfl) _ (fun w' _ => HBZ.out w')) hH0 ?_
           simp only [Act.put, qa]
           apply tk 8 (v := _) rfl (Or.inl ⟨by kernel_rfl, ?hv⟩) hH0 ?_
           case hv => intro w' hS; have z0 := HCA.out w' hS; have z1 := HC1.out w' hS; have z2 := (HC.out w' hS).2.1; have z3 := (HC.out w' hS).2.2; have z4 := HEQ.out w'; go_simp; try exact rfl
           simp only [Act.put, qa]
           apply tk 9 (v := _) rfl (Or.inl ⟨by kernel_rfl, ?hv⟩) hH0 ?_
           case hv => intro w' hS; have z0 := HCA.out w' hS; have z1 := HC1.out w' hS; have z2 := (HC.out w' hS).2.1; have z3 := (HC.out w' hS).2.2; have z4 := HEQ.out w'; go_simp; try exact rfl
           simp only [Act.put, qa]
           refine tk 10 (v := undef) rfl (Or.inr ⟨by kernel_rfl, rfl⟩) hH0 ?_
           simp only [Act.put, qa]
           refine tk 11 (v := undef) rfl (Or.inr ⟨by kernel_rfl, rfl⟩) hH0 ?_
           simp only [Act.put, qa]
           refine tk 12 (v := undef) rfl (Or.inr ⟨by kernel_rfl, rfl⟩) hH0 ?_
           simp only [Act.put, qa]
           refine tk 13 (v := undef) rfl (Or.inr ⟨by kernel_rfl, rfl⟩) hH0 ?_
           simp only [Act.put, qa]
           refine tk 14 (v := undef) rfl (Or.inr ⟨by kernel_rfl, rfl⟩) hH0 ?_
           simp only [Act.put, qa]
           refine tk 15 (v := undef) rfl (Or.inr ⟨by kernel_rfl, rfl⟩) hH0 ?_
           simp only [Act.put, qa]
           refine tk 16 (v := undef) rfl (Or.inr ⟨by kernel_rfl, rfl⟩) hH0 ?_
           simp only [Act.put, qa]
           refine tk 17 (v := undef) rfl (Or.inr ⟨by kernel_rfl, rfl⟩) hH0 ?_
           simp only [Act.put, qa]
           refine tk 18 (v := undef) rfl (Or.inr ⟨by kernel_rfl, rfl⟩) hH0 ?_
           simp only [Act.put, qa]
           refine tk 19 (v := undef) rfl (Or.inr ⟨by kernel_rfl, rfl⟩) hH0 ?_
           simp only [Act.put, qa]
           apply tk 20 (v := _) rfl (Or.inl ⟨by kernel_rfl, ?hv⟩) hH0 ?_
           case hv => intro w' hS; have z0 := HCA.out w' hS; have z1 := HC1.out w' hS; have z2 := (HC.out w' hS).2.1; have z3 := (HC.out w' hS).2.2; have z4 := HEQ.out w'; go_simp; try exact rfl
           simp only [Act.put, qa]
           apply tk 21 (v := _) rfl (Or.inl ⟨by kernel_rfl, ?hv⟩) hH0 ?_
           case hv => intro w' hS; have z0 := HCA.out w' hS; have z1 := HC1.out w' hS; have z2 := (HC.out w' hS).2.1; have z3 := (HC.out w' hS).2.2; have z4 := HEQ.out w'; go_simp; try exact rfl
           simp only [Act.put, qa]
           refine wpAnyH_done (by kernel_rfl) ?_ _
           refine NoPanic.normal ?_
           go_wp2_with fail
           go_meet
           case rel => exact ⟨_, (decide_eq_false (fun h => by rcases h with h | h; exact hA h; exact of_decide_eq_false HQI.out.symm h.1)).symm, rfl, HB14.out.drew⟩
         | true =>
           have hsub : IntKind.u64.wrap ((gs : Int) - (xa : Int)) = ((gs - xa : Nat) : Int) := by have := HGL.out; rw [IntKind.wrap_u64]; omega
           rcases hsd with hsd | hsd
           · have hk0 : r.k0 = kp := by rw [HKP.out, hsd]; rfl
             subst hsd
             rw [hk0] at HC
             refine wp_region_noPanic ?_
             refine wp_region_held_drew (S := (fun v => Below W1.heap.size W1 v)) (by kernel_rfl) hS0 (fun hH0 => ?_)
             apply tk 0 (v := _) rfl (Or.inl ⟨by kernel_rfl, ?hv⟩) hH0 ?_
             case hv => intro w' hS; have z0 := HCA.out w' hS; have z1 := HC1.out w' hS; have z2 := (HC.out w' hS).2.1; have z3 := (HC.out w' hS).2.2; have z4 := HEQ.out w'; go_simp; try exact rfl
             simp only [Act.put, qa]
             apply tk 1 (v := _) rfl (Or.inl ⟨by kernel_rfl, ?hv⟩) hH0 ?_
             case hv => intro w' hS; have z0 := HCA.out w' hS; have z1 := HC1.out w' hS; have z2 := (HC.out w' hS).2.1; have z3 := (HC.out w' hS).2.2; have z4 := HEQ.out w'; go_simp; try exact rfl
             simp only [Act.put, qa]
             apply tk 2 (v := _) rfl (Or.inl ⟨by kernel_rfl, ?hv⟩) hH0 ?_
             case hv => intro w' hS; have z0 := HCA.out w' hS; have z1 := HC1.out w' hS; have z2 := (HC.out w' hS).2.1; have z3 := (HC.out w' hS).2.2; have z4 := HEQ.out w'; go_simp; try exact rfl
             simp only [Act.put, qa]
             apply tk 3 (v := _) rfl (Or.inl ⟨by kernel_rfl, ?hv⟩) hH0 ?_
             case hv => intro w' hS; have z0 := HCA.out w' hS; have z1 := HC1.out w' hS; have z2 := (HC.out w' hS).2.1; have z3 := (HC.out w' hS).2.2; have z4 := HEQ.out w'; go_simp; try exact rfl
             simp only [Act.put, qa]
             apply tk 4 (v := _) rfl (Or.inl ⟨by kernel_rfl, ?hv⟩) hH0 ?_
             case hv => intro w' hS; have z0 := HCA.out w' hS; have z1 := HC1.out w' hS; have z2 := (HC.out w' hS).2.1; have z3 := (HC.out w' hS).2.2; have z4 := HEQ.out w'; go_simp; try exact rfl
             simp only [Act.put, qa]
             apply tk 5 (v := _) rfl (Or.inl ⟨by kernel_rfl, ?hv⟩) hH0 ?_
             case hv => intro w' hS; have z0 := HCA.out w' hS; have z1 := HC1.out w' hS; have z2 := (HC.out w' hS).2.1; have z3 := (HC.out w' hS).2.2; have z4 := HEQ.out w'; go_simp; try exact rfl
             simp only [Act.put, qa]
             refine tk 6 (v := (.agg IDC.toArray)) rfl (yieldsIf_load_mid (by kernel_rfl) 38 (.tmp 76) rfl (b0 + 1) 2 rfl IDC _ (fun w' h => (HX.out _ h).2) Tryd.underlying38 rfl SZI.out) hH0 ?_
             simp only [Act.put, qa]
             refine tk 7 (v := (.agg ZB.toArray)) rfl (yieldsIf_build (by kernel_rfl) 38 #[] rfl #[] (by kernel_rfl) _ (fun w' _ => HBZ.out w')) hH0 ?_
             simp only [Act.put, qa]
             apply tk 8 (v := _) rfl (Or.inl ⟨by kernel_rfl, ?hv⟩) hH0 ?_
             case hv => intro w' hS; have z0 := HCA.out w' hS; have z1 := HC1.out w' hS; have z2 := (HC.out w' hS).2.1; have z3 := (HC.out w' hS).2.2; have z4 := HEQ.out w'; go_simp; try exact rfl
             simp only [Act.put, qa]
             apply tk 9 (v := _) rfl (Or.inl ⟨by kernel_rfl, ?hv⟩) hH0 ?_
             case hv => intro w' hS; have z0 := HCA.out w' hS; have z1 := HC1.out w' hS; have z2 := (HC.out w' hS).2.1; have z3 := (HC.out w' hS).2.2; have z4 := HEQ.out w'; go_simp; try exact rfl
             simp only [Act.put, qa]
             apply tk 10 (v := _) rfl (Or.inl ⟨by kernel_rfl, ?hv⟩) hH0 ?_
             case hv => intro w' hS; have z0 := HCA.out w' hS; have z1 := HC1.out w' hS; have z2 := (HC.out w' hS).2.1; have z3 := (HC.out w' hS).2.2; have z4 := HEQ.out w'; go_simp; try exact rfl
             simp only [Act.put, qa]
             apply tk 11 (v := _) rfl (Or.inl ⟨by kernel_rfl, ?hv⟩) hH0 ?_
             case hv => intro w' hS; have z0 := HCA.out w' hS; have z1 := HC1.out w' hS; have z2 := (HC.out w' hS).2.1; have z3 := (HC.out w' hS).2.2; have z4 := HEQ.out w'; go_simp; try exact rfl
             simp only [Act.put, qa]
             apply tk 12 (v := _) rfl (Or.inl ⟨by kernel_rfl, ?hv⟩) hH0 ?_
             case hv => intro w' hS; have z0 := HCA.out w' hS; have z1 := HC1.out w' hS; have z2 := (HC.out w' hS).2.1; have z3 := (HC.out w' hS).2.2; have z4 := HEQ.out w'; go_simp; try exact rfl
             simp only [Act.put, qa]
             apply tk 13 (v := _) rfl (Or.inl ⟨by kernel_rfl, ?hv⟩) hH0 ?_
             case hv => intro w' hS; have z0 := HCA.out w' hS; have z1 := HC1.out w' hS; have z2 := (HC.out w' hS).2.1; have z3 := (HC.out w' hS).2.2; have z4 := HEQ.out w'; go_simp; try exact rfl
             simp only [Act.put, qa]
             apply tk 14 (v := _) rfl (Or.inl ⟨by kernel_rfl, ?hv⟩) hH0 ?_
             case hv => intro w' hS; have z0 := HCA.out w' hS; have z1 := HC1.out w' hS; have z2 := (HC.out w' hS).2.1; have z3 := (HC.out w' hS).2.2; have z4 := HEQ.out w'; go_simp; try exact rfl
             simp only [Act.put, qa]
             apply tk 15 (v := _) rfl (Or.inl ⟨by kernel_rfl, ?hv⟩) hH0 ?_
             case hv => intro w' hS; have z0 := HCA.out w' hS; have z1 := HC1.out w' hS; have z2 := (HC.out w' hS).2.1; have z3 := (HC.out w' hS).2.2; have z4 := HEQ.out w'; go_simp; try exact rfl
             simp only [Act.put, qa]
             apply tk 16 (v := _) rfl (Or.inl ⟨by kernel_rfl, ?hv⟩) hH0 ?_
             case hv => intro w' hS; have z0 := HCA.out w' hS; have z1 := HC1.out w' hS; have z2 := (HC.out w' hS).2.1; have z3 := (HC.out w' hS).2.2; have z4 := HEQ.out w'; go_simp; try exact rfl
             simp only [Act.put, qa]
             apply tk 17 (v := _) rfl (Or.inl ⟨by kernel_rfl, ?hv⟩) hH0 ?_
             case hv => intro w' hS; have z0 := HCA.out w' hS; have z1 := HC1.out w' hS; have z2 := (HC.out w' hS).2.1; have z3 := (HC.out w' hS).2.2; have z4 := HEQ.out w'; go_simp; try exact rfl
             simp only [Act.put, qa]
             apply tk 18 (v := _) rfl (Or.inl ⟨by kernel_rfl, ?hv⟩) hH0 ?_
             case hv => intro w' hS; have z0 := HCA.out w' hS; have z1 := HC1.out w' hS; have z2 := (HC.out w' hS).2.1; have z3 := (HC.out w' hS).2.2; have z4 := HEQ.out w'; go_simp; try exact rfl
             simp only [Act.put, qa]
             apply tk 19 (v := _) rfl (Or.inl ⟨by kernel_rfl, ?hv⟩) hH0 ?_
             case hv => intro w' hS; have z0 := HCA.out w' hS; have z1 := HC1.out w' hS; have z2 := (HC.out w' hS).2.1; have z3 := (HC.out w' hS).2.2; have z4 := HEQ.out w'; go_simp; try exact rfl
             simp only [Act.put, qa]
             apply tk 20 (v := _) rfl (Or.inl ⟨by kernel_rfl, ?hv⟩) hH0 ?_
             case hv => intro w' hS; have z0 := HCA.out w' hS; have z1 := HC1.out w' hS; have z2 := (HC.out w' hS).2.1; have z3 := (HC.out w' hS).2.2; have z4 := HEQ.out w'; go_simp; try exact rfl
             simp only [Act.put, qa]
             apply tk 21 (v := _) rfl (Or.inl ⟨by kernel_rfl, ?hv⟩) hH0 ?_
             case hv => intro w' hS; have z0 := HCA.out w' hS; have z1 := HC1.out w' hS; have z2 := (HC.out w' hS).2.1; have z3 := (HC.out w' hS).2.2; have z4 := HEQ.out w'; go_simp; try exact rfl
             simp only [Act.put, qa]
             refine wpAnyH_done (by kernel_rfl) ?_ _
             refine NoPanic.normal ?_
             go_wp2_with fail
             go_meet
             case rel => exact ⟨_, cut_q hA (of_decide_eq_true HQI.out.symm) HKP.out, rfl, HB14.out.drew⟩
           · have hk1 : r.k1 = kp := by rw [HKP.out, hsd]; rfl
             subst hsd
             rw [hk1] at HC
             refine wp_region_noPanic ?_
             refine wp_region_held_drew (S := (fun v => Below W1.heap.size W1 v)) (by kernel_rfl) hS0 (fun hH0 => ?_)
             apply tk 0 (v := _) rfl (Or.inl ⟨by kernel_rfl, ?hv⟩) hH0 ?_
             case hv => intro w' hS; have z0 := HCA.out w' hS; have z1 := HC1.out w' hS; have z2 := (HC.out w' hS).2.1; have z3 := (HC.out w' hS).2.2; have z4 := HEQ.out w'; go_simp; try exact rfl
             simp only [Act.put, qa]
             apply tk 1 (v := _) rfl (Or.inl ⟨by kernel_rfl, ?hv⟩) hH0 ?_
             case hv => intro w' hS; have z0 := HCA.out w' hS; have z1 := HC1.out w' hS; have z2 := (HC.out w' hS).2.1; have z3 := (HC.out w' hS).2.2; have z4 := HEQ.out w'; go_simp; try exact rfl
             simp only [Act.put, qa]
             apply tk 2 (v := _) rfl (Or.inl ⟨by kernel_rfl, ?hv⟩) hH0 ?_
             case hv => intro w' hS; have z0 := HCA.out w' hS; have z1 := HC1.out w' hS; have z2 := (HC.out w' hS).2.1; have z3 := (HC.out w' hS).2.2; have z4 := HEQ.out w'; go_simp; try exact rfl
             simp only [Act.put, qa]
             apply tk 3 (v := _) rfl (Or.inl ⟨by kernel_rfl, ?hv⟩) hH0 ?_
             case hv => intro w' hS; have z0 := HCA.out w' hS; have z1 := HC1.out w' hS; have z2 := (HC.out w' hS).2.1; have z3 := (HC.out w' hS).2.2; have z4 := HEQ.out w'; go_simp; try exact rfl
             simp only [Act.put, qa]
             apply tk 4 (v := _) rfl (Or.inl ⟨by kernel_rfl, ?hv⟩) hH0 ?_
             case hv => intro w' hS; have z0 := HCA.out w' hS; have z1 := HC1.out w' hS; have z2 := (HC.out w' hS).2.1; have z3 := (HC.out w' hS).2.2; have z4 := HEQ.out w'; go_simp; try exact rfl
             simp only [Act.put, qa]
             apply tk 5 (v := _) rfl (Or.inl ⟨by kernel_rfl, ?hv⟩) hH0 ?_
             case hv => intro w' hS; have z0 := HCA.out w' hS; have z1 := HC1.out w' hS; have z2 := (HC.out w' hS).2.1; have z3 := (HC.out w' hS).2.2; have z4 := HEQ.out w'; go_simp; try exact rfl
             simp only [Act.put, qa]
             refine tk 6 (v := (.agg IDC.toArray)) rfl (yieldsIf_load_mid (by kernel_rfl) 38 (.tmp 76) rfl (b0 + 1) 2 rfl IDC _ (fun w' h => (HX.out _ h).2) Tryd.underlying38 rfl SZI.out) hH0 ?_
             simp only [Act.put, qa]
             refine tk 7 (v := (.agg ZB.toArray)) rfl (yieldsIf_build (by kernel_rfl) 38 #[] rfl #[] (by kernel_rfl) _ (fun w' _ => HBZ.out w')) hH0 ?_
             simp only [Act.put, qa]
             apply tk 8 (v := _) rfl (Or.inl ⟨by kernel_rfl, ?hv⟩) hH0 ?_
             case hv => intro w' hS; have z0 := HCA.out w' hS; have z1 := HC1.out w' hS; have z2 := (HC.out w' hS).2.1; have z3 := (HC.out w' hS).2.2; have z4 := HEQ.out w'; go_simp; try exact rfl
             simp only [Act.put, qa]
             apply tk 9 (v := _) rfl (Or.inl ⟨by kernel_rfl, ?hv⟩) hH0 ?_
             case hv => intro w' hS; have z0 := HCA.out w' hS; have z1 := HC1.out w' hS; have z2 := (HC.out w' hS).2.1; have z3 := (HC.out w' hS).2.2; have z4 := HEQ.out w'; go_simp; try exact rfl
             simp only [Act.put, qa]
             apply tk 10 (v := _) rfl (Or.inl ⟨by kernel_rfl, ?hv⟩) hH0 ?_
             case hv => intro w' hS; have z0 := HCA.out w' hS; have z1 := HC1.out w' hS; have z2 := (HC.out w' hS).2.1; have z3 := (HC.out w' hS).2.2; have z4 := HEQ.out w'; go_simp; try exact rfl
             simp only [Act.put, qa]
             apply tk 11 (v := _) rfl (Or.inl ⟨by kernel_rfl, ?hv⟩) hH0 ?_
             case hv => intro w' hS; have z0 := HCA.out w' hS; have z1 := HC1.out w' hS; have z2 := (HC.out w' hS).2.1; have z3 := (HC.out w' hS).2.2; have z4 := HEQ.out w'; go_simp; try exact rfl
             simp only [Act.put, qa]
             apply tk 12 (v := _) rfl (Or.inl ⟨by kernel_rfl, ?hv⟩) hH0 ?_
             case hv => intro w' hS; have z0 := HCA.out w' hS; have z1 := HC1.out w' hS; have z2 := (HC.out w' hS).2.1; have z3 := (HC.out w' hS).2.2; have z4 := HEQ.out w'; go_simp; try exact rfl
             simp only [Act.put, qa]
             apply tk 13 (v := _) rfl (Or.inl ⟨by kernel_rfl, ?hv⟩) hH0 ?_
             case hv => intro w' hS; have z0 := HCA.out w' hS; have z1 := HC1.out w' hS; have z2 := (HC.out w' hS).2.1; have z3 := (HC.out w' hS).2.2; have z4 := HEQ.out w'; go_simp; try exact rfl
             simp only [Act.put, qa]
             apply tk 14 (v := _) rfl (Or.inl ⟨by kernel_rfl, ?hv⟩) hH0 ?_
             case hv => intro w' hS; have z0 := HCA.out w' hS; have z1 := HC1.out w' hS; have z2 := (HC.out w' hS).2.1; have z3 := (HC.out w' hS).2.2; have z4 := HEQ.out w'; go_simp; try exact rfl
             simp only [Act.put, qa]
             apply tk 15 (v := _) rfl (Or.inl ⟨by kernel_rfl, ?hv⟩) hH0 ?_
             case hv => intro w' hS; have z0 := HCA.out w' hS; have z1 := HC1.out w' hS; have z2 := (HC.out w' hS).2.1; have z3 := (HC.out w' hS).2.2; have z4 := HEQ.out w'; go_simp; try exact rfl
             simp only [Act.put, qa]
             apply tk 16 (v := _) rfl (Or.inl ⟨by kernel_rfl, ?hv⟩) hH0 ?_
             case hv => intro w' hS; have z0 := HCA.out w' hS; have z1 := HC1.out w' hS; have z2 := (HC.out w' hS).2.1; have z3 := (HC.out w' hS).2.2; have z4 := HEQ.out w'; go_simp; try exact rfl
             simp only [Act.put, qa]
             apply tk 17 (v := _) rfl (Or.inl ⟨by kernel_rfl, ?hv⟩) hH0 ?_
             case hv => intro w' hS; have z0 := HCA.out w' hS; have z1 := HC1.out w' hS; have z2 := (HC.out w' hS).2.1; have z3 := (HC.out w' hS).2.2; have z4 := HEQ.out w'; go_simp; try exact rfl
             simp only [Act.put, qa]
             apply tk 18 (v := _) rfl (Or.inl ⟨by kernel_rfl, ?hv⟩) hH0 ?_
             case hv => intro w' hS; have z0 := HCA.out w' hS; have z1 := HC1.out w' hS; have z2 := (HC.out w' hS).2.1; have z3 := (HC.out w' hS).2.2; have z4 := HEQ.out w'; go_simp; try exact rfl
             simp only [Act.put, qa]
             apply tk 19 (v := _) rfl (Or.inl ⟨by kernel_rfl, ?hv⟩) hH0 ?_
             case hv => intro w' hS; have z0 := HCA.out w' hS; have z1 := HC1.out w' hS; have z2 := (HC.out w' hS).2.1; have z3 := (HC.out w' hS).2.2; have z4 := HEQ.out w'; go_simp; try exact rfl
             simp only [Act.put, qa]
             apply tk 20 (v := _) rfl (Or.inl ⟨by kernel_rfl, ?hv⟩) hH0 ?_
             case hv => intro w' hS; have z0 := HCA.out w' hS; have z1 := HC1.out w' hS; have z2 := (HC.out w' hS).2.1; have z3 := (HC.out w' hS).2.2; have z4 := HEQ.out w'; go_simp; try exact rfl
             simp only [Act.put, qa]
             apply tk 21 (v := _) rfl (Or.inl ⟨by kernel_rfl, ?hv⟩) hH0 ?_
             case hv => intro w' hS; have z0 := HCA.out w' hS; have z1 := HC1.out w' hS; have z2 := (HC.out w' hS).2.1; have z3 := (HC.out w' hS).2.2; have z4 := HEQ.out w'; go_simp; try exact rfl
             simp only [Act.put, qa]
             refine wpAnyH_done (by kernel_rfl) ?_ _
             refine NoPanic.normal ?_
             go_wp2_with fail
             go_meet
             case rel => exact ⟨_, cut_q hA (of_decide_eq_true HQI.out.symm) HKP.out, rfl, HB14.out.drew⟩
     case rest =>
     obtain ⟨q, hq, rfl, hb15⟩ := hcut
     have HB15 := Lib.hid hb15
     have HQ := Lib.hid hq
     clear hb15 hq HB14 hS0
     cases q with
     | true =>
       have HE := Lib.hid (show offRE r o = 51 by rw [HE2.out, if_pos (of_decide_eq_true HQ.out.symm)])
       have HB9 := Lib.hid (HRB.out _ HE.out (by decide))
       obtain ⟨hz3, hs3, hr3, hb3⟩ := HEND.out wc L r (HR.out.below (HB1.out.trans (HB15.out.mono HB1.out.size))) (HB15.out)
       have HZ3 := Lib.hid hz3
       have HF1 := Lib.hid hs3
       have HF2 := Lib.hid (And.intro hr3 hb3)
       have HI7 := Lib.hid (HX.out wc (HB15.out)).1
       clear hz3 hs3 hr3 hb3
       go_wp2_with (first
         | (refine wpList_load_mid rfl 31 (.tmp 2) rfl b0 0 rfl L _ HI7.out Tryd.underlying31 rfl SZB.out ?_)
         | (refine wpList_store_row rfl 31 (.tmp 4) (.tmp 93) rfl (b0 + 2) L.toArray rfl rfl 31 _ HZ3.out SZA.out SZ4.out HONE.out ?_))
       refine bodyPost_ret (results_cell_tmp rfl _ _ (b0 + 2) 31 L.toArray (0, 0) _ rfl rfl HF1.out Tryd.underlying31 SZA.out) rfl ?_
       exact ⟨⟨L, by rw [HE.out]; rfl, by rw [HB9.out]; exact HF2.out.1⟩, by rw [← HBQ.out]; exact HF2.out.2⟩
     | false =>
       have hcn := of_decide_eq_false HQ.out.symm
       have HE := Lib.hid (show offRE r o = 0 by rw [HE2.out, if_neg hcn])
       have HBK := Lib.hid (HRG.out HE.out)
       have hle : xa ≤ gs := by
         rcases Nat.lt_or_ge gs xa with h | h
         · exact absurd (Or.inl h) hcn
         · exact h
       have hsub : IntKind.u64.wrap ((gs : Int) - (xa : Int)) = ((gs - xa : Nat) : Int) := by have := HGL.out; rw [IntKind.wrap_u64]; omega
       have hc1r : wc.cell? ⟨b0 + 1, 1, none⟩ = some (.int .i64 xf) := HC1.out wc HB15.out
       have hcar : wc.cell? ⟨b0 + 1, 34, none⟩ = some (.int .u64 (xa : Int)) := HCA.out wc HB15.out
       have HI17 := Lib.hid (HX.out wc HB15.out)
       clear hcn
       go_wp2_with (first
         | (refine wpList_load_mid rfl 31 (.tmp 2) rfl b0 0 rfl L _ HI17.out.1 Tryd.underlying31 rfl SZB.out ?_)
         | (refine wpList_load_mid rfl 38 (.tmp 97) rfl (b0 + 1) 2 rfl IDC _ HI17.out.2 Tryd.underlying38 rfl SZI.out ?_))
       refine (HSET.out wc (HB1.out.trans (HB15.out.mono HB1.out.size))).mono ?_
       rintro _ w17 ⟨⟨L', rfl, hr17⟩, hb17⟩
       have hbb := HB15.out.trans (hb17.mono HB15.out.size)
       have hh0 := H1.out.below hbb H1.out.lt
       have hh1 := H2.out.below hbb H2.out.lt
       have hh2 := H3.out.below hbb H3.out.lt
       have hkk : Kept (fun j => j = b0) w17 (w17.setRow b0 L'.toArray) := kept_setRow _ _
       have hbw17 := HB1.out.trans (hbb.mono HB1.out.size)
       have HH0 := Lib.hid hh0
       have HS0 := Lib.hid (show Has (w17.setRow b0 L'.toArray) b0 31 L'.toArray from hh0.setRow)
       have HS1 := Lib.hid (hh1.kept hkk (fun e => by have e' : b0 + 1 = b0 := e; omega))
       have HS2 := Lib.hid (hh2.kept hkk (fun e => by have e' : b0 + 2 = b0 := e; omega))
       have HR18 := Lib.hid (rb_far1 hh0 hkk hr17)
       have HBW := Lib.hid (show Below w.heap.size w (w17.setRow b0 L'.toArray) from hbw17.trans (hkk.below hbw17.size (fun j e => by have e' : j = b0 := e; rw [e', HBQ.out]; exact Nat.le_refl _)))
       have SZL' := Lib.hid (show (Tryd.prog.info? 31).map (·.size) = some L'.toArray.size by rw [List.size_toArray]; exact size_rb hr17.len)
       have SZLL := Lib.hid (show L.toArray.size = L'.toArray.size by rw [List.size_toArray, List.size_toArray, hr17.len, HR.out.len])
       have HONE' := Lib.hid hr17.one
       clear hr17 hb17 hbb hh0 hh1 hh2 hkk hbw17 hc1r hcar HI17
       go_upto_region 18 with (refine wpList_store_row rfl 31 (.tmp 2) (.tmp 103) rfl b0 L'.toArray rfl rfl 31 _ HH0.out SZL'.out SZLL.out HONE'.out ?_)
       generalize w17.setRow b0 L'.toArray = W18 at HS0 HS1 HS2 HR18 HBW ⊢
       obtain ⟨A', n', c', B', m', d', hL', hrows', hoffs', hmd', hn', hm'⟩ := HR18.out.ex
       have hm2 : m' ≤ 200 := by rw [← hoffs'.rows.len]; have := HM2.out; rw [← HLEN.out] at this; exact this
       have HLL' := Lib.hid hL'
       have HOF' := Lib.hid hoffs'.rows
       have HC18 := Lib.hid (show ∀ v, Below W18.heap.size W18 v → v.cell? ⟨b0, 1, none⟩ = some (.slice B' m' d') from fun v hv => (HS0.out.below hv HS0.out.lt).cell_is (by rw [HLL'.out]; rfl))
       have HX18 := Lib.hid (show ∀ v, Below W18.heap.size W18 v → v.rangeAt (b0 + 1) 0 LO from fun v hv => (HS1.out.below hv HS1.out.lt).row0)
       have LLO := Lib.hid (show LO.length = 68 by rw [ELO.out]; exact Off.length o HOK.out)
       have SZLO := Lib.hid (show (Tryd.prog.info? 52).map (·.size) = some LO.length by rw [LLO.out]; kernel_rfl)
       have HZQ := Lib.hid (show (Value.agg ZI).cells.size = 68 from HZI.out)
       obtain ⟨ii, hii⟩ : ∃ ii, Tryd.prog.info? 52 = some ii ∧ ii.zero = some (.agg ZI) ∧ ii.size = 68 := by
         obtain ⟨ii, q1, q2, q3, -⟩ := info_parts HINF.out
         exact ⟨ii, q1, q2, q3⟩
       have HII := Lib.hid hii
       have HO1 := Lib.hid (show ∀ y ∈ r.offers, ∀ u ∈ y.cells, u.oneCell' = true from fun y _ => off_one y)
       have HO2 := Lib.hid (show ∀ y ∈ [o], ∀ u ∈ y.cells, u.oneCell' = true from fun y _ => off_one y)
       have HROW1 := Lib.hid (show ∀ (v : World) (g : Nat), Has v g 52 LO.toArray → RowsAt Off.cells 68 v (some ⟨g, 0, none⟩) 1 [o] from fun v g hv => by
         rw [ELO.out] at hv
         exact rows_has (xs := [o]) (by simpa using hv) (fun x hx => by rw [List.mem_singleton.1 hx]; exact Off.length o HOK.out))
       have HST := Lib.hid (show ∀ (wx : World) (oa : Option Addr) (oc : Nat), Below W18.heap.size W18 wx → wx.ownsRow W18.heap.size 52 68 (.slice oa (m' + 1) oc) (m' + 1) (r.offers.flatMap Off.cells ++ [o].flatMap Off.cells) → FQ w b0 (b0 + 1) (b0 + 2) 52 [.slice A' n' c', .slice oa (m' + 1) oc, .int .u64 (r.k0 : Int), .int .u64 (r.k1 : Int)] LO { r with has := setR r.has xf o.id (gs - xa), offers := r.offers ++ [o] } (wx.setCell ⟨b0, 1, none⟩ (.slice oa (m' + 1) oc)) from fun wx oa oc hb ho => by
         rw [← List.flatMap_append] at ho
         have hr9 := HR18.out
         have h19 := HS0.out
         rw [HLL'.out] at hr9 h19
         refine fq_store hr9 h19 HS1.out HS2.out rfl (by omega) (by omega) HBW.out (by rw [HBQ.out]; exact Nat.le_refl _) hb ho (by rw [List.length_append, HOF'.out.len]; rfl) (fun y hy => ?_) (by omega)
         rcases List.mem_append.1 hy with hy | hy
         · exact HOFF.out y hy
         · rw [List.mem_singleton.1 hy]; exact HOK.out)
       clear hL' hrows' hoffs' hmd' hn' hm' hii hsub hle
       have hB : Below W18.heap.size W18 W18.drew := (Below.refl _ _).drew
       have hS0 : W18.drew.rangeAt (b0 + 1) 0 LO := HX18.out _ hB
       try simp only [Act.put, qa]
       go_cut [] from 104 (fun wx => ∃ oa oc, FQ w b0 (b0 + 1) (b0 + 2) 52 [.slice A' n' c', .slice oa (m' + 1) oc, .int .u64 (r.k0 : Int), .int .u64 (r.k1 : Int)] LO { r with has := setR r.has xf o.id (gs - xa), offers := r.offers ++ [o] } wx)
       case first =>
         refine wp_region_noPanic ?_
         refine wp_region_held_drew (S := (fun v => v.rangeAt (b0 + 1) 0 LO)) (by kernel_rfl) hS0 (fun hH0 => ?_)
         apply tk 1 (v := _) rfl (Or.inl ⟨by kernel_rfl, ?hv⟩) hH0 ?_
         case hv => intro w' hS; go_simp; try exact rfl
         simp only [Act.put, qa]
         refine tk 4 (v := (.agg LO.toArray)) rfl (yieldsIf_load_mid (by kernel_rfl) 52 (.tmp 3) rfl (b0 + 1) 0 rfl LO _ (fun w' h => h) Tryd.underlying52 rfl SZLO.out) hH0 ?_
         simp only [Act.put, qa]
         refine wpAnyH_ready (rs := [0, 2, 5]) (by kernel_rfl) (by simp) ?_
         refine AllReadyH.cons rfl (fun KK hKK => ?_) (AllReadyH.cons rfl (fun KK hKK => ?_) (AllReadyH.cons rfl (fun KK hKK => ?_) AllReadyH.nil))
         · go_simp
           obtain ⟨x0, hx0⟩ : ∃ y, y = W18.drew.alloc (.cells #[] 52) := ⟨_, rfl⟩
           have hnx0 : Below W18.drew.heap.size W18.drew x0 := by rw [hx0]; exact (Below.refl _ _).alloc (Nat.le_refl _) _
           try replace hb1_ := hb1
           try replace hb1 := hb1.below hnx0 hb1.lt
           have hown : x0.ownsRow W18.heap.size 52 68 (.slice (some ⟨W18.drew.heap.size, 0, none⟩) 0 0) 0 [] := by rw [hx0]; exact own_empty hB.size _ _
           try have hne := ne_new hb1_
           replace hB : Below W18.heap.size W18 x0 := hB.trans (hnx0.mono hB.size)
           have hsx0 := HX18.out _ hB
           first | rw [← hx0] | (change KK _ (W18.drew.alloc (.cells #[] 52)); rw [← hx0])
           clear hx0 hnx0
           refine Shut.out hKK _ _ hsx0 (fun hH1 => ?_)
           clear hKK KK
           try simp only [Act.put, qa]
           refine wpAnyH_ready (rs := [2, 5]) (by kernel_rfl) (by simp) ?_
           refine AllReadyH.cons rfl (fun KK hKK => ?_) (AllReadyH.cons rfl (fun KK hKK => ?_) AllReadyH.nil)
           · have hz1 : x0.cell? ⟨b0, 1, none⟩ = some (.slice B' m' d') := HC18.out _ hB
             go_simp
             clear hz1
             refine Shut.out hKK _ _ hH1 (fun hH2 => ?_)
             clear hKK KK
             try simp only [Act.put, qa]
             refine wpAnyH_ready (rs := [3, 5]) (by kernel_rfl) (by simp) ?_
             refine AllReadyH.cons rfl (fun KK hKK => ?_) (AllReadyH.cons rfl (fun KK hKK => ?_) AllReadyH.nil)
             · refine step_append_rows (cl := Off.cells) rfl (.tmp 104) (.tmp 106) 29 rfl W18.heap.size 52 (.agg ZI) 96 Tryd.underlying29 HINF.out HZQ.out (by decide) _ 0 [] rfl hown B' m' d' _ rfl (HOF'.out.below hB) HO1.out (by unfold maxLen; omega) (by omega) hB.size ?_
               intro oa3 oc3 x3 hown3 hgr3
               replace hB := hB.grown hgr3 hB.size (own_blk hown)
               try replace hb1 := hb1.grown hgr3 (fun e => hne _ e.symm rfl)
               clear hown hgr3
               rw [Nat.zero_add] at hown3
               rw [Nat.zero_add]
               rw [List.nil_append] at hown3
               have hown := hown3
               have hs3 := HX18.out _ hB
               clear hown3
               refine Shut.out hKK _ _ hs3 (fun hH3 => ?_)
               clear hKK KK
               try simp only [Act.put, qa]
               refine wpAnyH_ready (rs := [5]) (by kernel_rfl) (by simp) ?_
               refine AllReadyH.cons rfl (fun KK hKK => ?_) AllReadyH.nil
               refine step_build1 rfl 29 52 (.tmp 108) rfl ii (.agg ZI) Tryd.underlying29 HII.out.1 HII.out.2.1 LO (by rw [HII.out.2.2, LLO.out]) (by rw [LLO.out]; exact HZQ.out) (by rw [LLO.out]; decide) (by rw [LLO.out]; decide) rfl ?_
               obtain ⟨x5, hx5⟩ : ∃ y, y = x3.alloc (.cells LO.toArray 52) := ⟨_, rfl⟩
               have hnx5 : Below x3.heap.size x3 x5 := by rw [hx5]; exact (Below.refl _ _).alloc (Nat.le_refl _) _
               try replace hown_ := hown
               try replace hown := own_kept hown (Kept.of_below (S := fun _ => False) hnx5) (fun _ _ e => e)
               have hb1 : Has x5 x3.heap.size 52 LO.toArray := by rw [hx5]; exact Has.new x3 _ _
               try have hne := fun k e => Nat.ne_of_lt (own_lt hown_ k e)
               replace hB : Below W18.heap.size W18 x5 := hB.trans (hnx5.mono hB.size)
               have hsx5 := HX18.out _ hB
               first | rw [← hx5] | (change KK _ (x3.alloc (.cells LO.toArray 52)); rw [← hx5])
               clear hx5 hnx5
               refine Shut.out hKK _ _ hsx5 (fun hH4 => ?_)
               clear hKK KK
               try simp only [Act.put, qa]
               refine wpAnyH_ready (rs := [6]) (by kernel_rfl) (by simp) ?_
               refine AllReadyH.cons rfl (fun KK hKK => ?_) AllReadyH.nil
               refine step_append_rows (cl := Off.cells) rfl (.tmp 107) (.tmp 109) 29 rfl W18.heap.size 52 (.agg ZI) 96 Tryd.underlying29 HINF.out HZQ.out (by decide) _ m' _ rfl hown _ 1 1 [o] rfl (HROW1.out _ _ hb1) HO2.out (by unfold maxLen; omega) (by omega) hB.size ?_
               intro oa6 oc6 x6 hown6 hgr6
               replace hB := hB.grown hgr6 hB.size (own_blk hown)
               have hs6 := HX18.out _ hB
               clear hown hgr6
               refine Shut.out hKK _ _ hs6 (fun hH5 => ?_)
               clear hKK KK
               try simp only [Act.put, qa]
               apply tk 7 (v := _) rfl (Or.inl ⟨by kernel_rfl, ?hv⟩) hH5 ?_
               case hv => intro w' hS; go_simp; try exact rfl
               simp only [Act.put, qa]
               refine wpAnyH_ready (rs := [8]) (by kernel_rfl) (by simp) ?_
               refine AllReadyH.cons rfl (fun KK hKK => ?_) AllReadyH.nil
               have hfin := HST.out _ oa6 oc6 hB hown6
               have hz1 : x6.cell? ⟨b0, 1, none⟩ = some (.slice B' m' d') := HC18.out _ hB
               have hz2 : x6.frozen? ⟨b0, 1, none⟩ = false := (HS0.out.below hB HS0.out.lt).free 1
               go_simp
               obtain ⟨xb, hxb⟩ : ∃ y, y = x6.setCell ⟨b0, 1, none⟩ (.slice oa6 (m' + 1) oc6) := ⟨_, rfl⟩
               rw [← hxb] at hfin
               change KK _ (x6.setCell ⟨b0, 1, none⟩ (.slice oa6 (m' + 1) oc6))
               rw [← hxb]
               have hsb := hfin.2.1.row0
               clear hxb hz1 hz2 hown6 hB
               refine Shut.out hKK _ _ hsb (fun hH6 => ?_)
               clear hKK KK
               try simp only [Act.put, qa]
               refine wpAnyH_done (by kernel_rfl) ?_ _
               refine NoPanic.normal ?_
               have HF := Lib.hid hfin
               clear hfin
               go_wp2_with fail
               go_meet
               case rel => exact ⟨_, _, HF.out⟩
             · refine step_build1 rfl 29 52 (.tmp 108) rfl ii (.agg ZI) Tryd.underlying29 HII.out.1 HII.out.2.1 LO (by rw [HII.out.2.2, LLO.out]) (by rw [LLO.out]; exact HZQ.out) (by rw [LLO.out]; decide) (by rw [LLO.out]; decide) rfl ?_
               obtain ⟨x5, hx5⟩ : ∃ y, y = x0.alloc (.cells LO.toArray 52) := ⟨_, rfl⟩
               have hnx5 : Below x0.heap.size x0 x5 := by rw [hx5]; exact (Below.refl _ _).alloc (Nat.le_refl _) _
               try replace hown_ := hown
               try replace hown := own_kept hown (Kept.of_below (S := fun _ => False) hnx5) (fun _ _ e => e)
               have hb1 : Has x5 x0.heap.size 52 LO.toArray := by rw [hx5]; exact Has.new x0 _ _
               try have hne := fun k e => Nat.ne_of_lt (own_lt hown_ k e)
               replace hB : Below W18.heap.size W18 x5 := hB.trans (hnx5.mono hB.size)
               have hsx5 := HX18.out _ hB
               first | rw [← hx5] | (change KK _ (x0.alloc (.cells LO.toArray 52)); rw [← hx5])
               clear hx5 hnx5
               refine Shut.out hKK _ _ hsx5 (fun hH3 => ?_)
               clear hKK KK
               try simp only [Act.put, qa]
               refine wpAnyH_ready (rs := [3]) (by kernel_rfl) (by simp) ?_
               refine AllReadyH.cons rfl (fun KK hKK => ?_) AllReadyH.nil
               refine step_append_rows (cl := Off.cells) rfl (.tmp 104) (.tmp 106) 29 rfl W18.heap.size 52 (.agg ZI) 96 Tryd.underlying29 HINF.out HZQ.out (by decide) _ 0 [] rfl hown B' m' d' _ rfl (HOF'.out.below hB) HO1.out (by unfold maxLen; omega) (by omega) hB.size ?_
               intro oa3 oc3 x3 hown3 hgr3
               replace hB := hB.grown hgr3 hB.size (own_blk hown)
               try replace hb1 := hb1.grown hgr3 (fun e => hne _ e.symm rfl)
               clear hown hgr3
               rw [Nat.zero_add] at hown3
               rw [Nat.zero_add]
               rw [List.nil_append] at hown3
               have hown := hown3
               have hs3 := HX18.out _ hB
               clear hown3
               refine Shut.out hKK _ _ hs3 (fun hH4 => ?_)
               clear hKK KK
               try simp only [Act.put, qa]
               refine wpAnyH_ready (rs := [6]) (by kernel_rfl) (by simp) ?_
               refine AllReadyH.cons rfl (fun KK hKK => ?_) AllReadyH.nil
               refine step_append_rows (cl := Off.cells) rfl (.tmp 107) (.tmp 109) 29 rfl W18.heap.size 52 (.agg ZI) 96 Tryd.underlying29 HINF.out HZQ.out (by decide) _ m' _ rfl hown _ 1 1 [o] rfl (HROW1.out _ _ hb1) HO2.out (by unfold maxLen; omega) (by omega) hB.size ?_
               intro oa6 oc6 x6 hown6 hgr6
               replace hB := hB.grown hgr6 hB.size (own_blk hown)
               have hs6 := HX18.out _ hB
               clear hown hgr6
               refine Shut.out hKK _ _ hs6 (fun hH5 => ?_)
               clear hKK KK
               try simp only [Act.put, qa]
               apply tk 7 (v := _) rfl (Or.inl ⟨by kernel_rfl, ?hv⟩) hH5 ?_
               case hv => intro w' hS; go_simp; try exact rfl
               simp only [Act.put, qa]
               refine wpAnyH_ready (rs := [8]) (by kernel_rfl) (by simp) ?_
               refine AllReadyH.cons rfl (fun KK hKK => ?_) AllReadyH.nil
               have hfin := HST.out _ oa6 oc6 hB hown6
               have hz1 : x6.cell? ⟨b0, 1, none⟩ = some (.slice B' m' d') := HC18.out _ hB
               have hz2 : x6.frozen? ⟨b0, 1, none⟩ = false := (HS0.out.below hB HS0.out.lt).free 1
               go_simp
               obtain ⟨xb, hxb⟩ : ∃ y, y = x6.setCell ⟨b0, 1, none⟩ (.slice oa6 (m' + 1) oc6) := ⟨_, rfl⟩
               rw [← hxb] at hfin
               change KK _ (x6.setCell ⟨b0, 1, none⟩ (.slice oa6 (m' + 1) oc6))
               rw [← hxb]
               have hsb := hfin.2.1.row0
               clear hxb hz1 hz2 hown6 hB
               refine Shut.out hKK _ _ hsb (fun hH6 => ?_)
               clear hKK KK
               try simp only [Act.put, qa]
               refine wpAnyH_done (by kernel_rfl) ?_ _
               refine NoPanic.normal ?_
               have HF := Lib.hid hfin
               clear hfin
               go_wp2_with fail
               go_meet
               case rel => exact ⟨_, _, HF.out⟩
           · refine step_build1 rfl 29 52 (.tmp 108) rfl ii (.agg ZI) Tryd.underlying29 HII.out.1 HII.out.2.1 LO (by rw [HII.out.2.2, LLO.out]) (by rw [LLO.out]; exact HZQ.out) (by rw [LLO.out]; decide) (by rw [LLO.out]; decide) rfl ?_
             obtain ⟨x5, hx5⟩ : ∃ y, y = x0.alloc (.cells LO.toArray 52) := ⟨_, rfl⟩
             have hnx5 : Below x0.heap.size x0 x5 := by rw [hx5]; exact (Below.refl _ _).alloc (Nat.le_refl _) _
             try replace hown_ := hown
             try replace hown := own_kept hown (Kept.of_below (S := fun _ => False) hnx5) (fun _ _ e => e)
             have hb1 : Has x5 x0.heap.size 52 LO.toArray := by rw [hx5]; exact Has.new x0 _ _
             try have hne := fun k e => Nat.ne_of_lt (own_lt hown_ k e)
             replace hB : Below W18.heap.size W18 x5 := hB.trans (hnx5.mono hB.size)
             have hsx5 := HX18.out _ hB
             first | rw [← hx5] | (change KK _ (x0.alloc (.cells LO.toArray 52)); rw [← hx5])
             clear hx5 hnx5
             refine Shut.out hKK _ _ hsx5 (fun hH2 => ?_)
             clear hKK KK
             try simp only [Act.put, qa]
             refine wpAnyH_ready (rs := [2]) (by kernel_rfl) (by simp) ?_
             refine AllReadyH.cons rfl (fun KK hKK => ?_) AllReadyH.nil
             have hz1 : x5.cell? ⟨b0, 1, none⟩ = some (.slice B' m' d') := HC18.out _ hB
             go_simp
             clear hz1
             refine Shut.out hKK _ _ hH2 (fun hH3 => ?_)
             clear hKK KK
             try simp only [Act.put, qa]
             refine wpAnyH_ready (rs := [3]) (by kernel_rfl) (by simp) ?_
             refine AllReadyH.cons rfl (fun KK hKK => ?_) AllReadyH.nil
             refine step_append_rows (cl := Off.cells) rfl (.tmp 104) (.tmp 106) 29 rfl W18.heap.size 52 (.agg ZI) 96 Tryd.underlying29 HINF.out HZQ.out (by decide) _ 0 [] rfl hown B' m' d' _ rfl (HOF'.out.below hB) HO1.out (by unfold maxLen; omega) (by omega) hB.size ?_
             intro oa3 oc3 x3 hown3 hgr3
             replace hB := hB.grown hgr3 hB.size (own_blk hown)
             try replace hb1 := hb1.grown hgr3 (fun e => hne _ e.symm rfl)
             clear hown hgr3
             rw [Nat.zero_add] at hown3
             rw [Nat.zero_add]
             rw [List.nil_append] at hown3
             have hown := hown3
             have hs3 := HX18.out _ hB
             clear hown3
             refine Shut.out hKK _ _ hs3 (fun hH4 => ?_)
             clear hKK KK
             try simp only [Act.put, qa]
             refine wpAnyH_ready (rs := [6]) (by kernel_rfl) (by simp) ?_
             refine AllReadyH.cons rfl (fun KK hKK => ?_) AllReadyH.nil
             refine step_append_rows (cl := Off.cells) rfl (.tmp 107) (.tmp 109) 29 rfl W18.heap.size 52 (.agg ZI) 96 Tryd.underlying29 HINF.out HZQ.out (by decide) _ m' _ rfl hown _ 1 1 [o] rfl (HROW1.out _ _ hb1) HO2.out (by unfold maxLen; omega) (by omega) hB.size ?_
             intro oa6 oc6 x6 hown6 hgr6
             replace hB := hB.grown hgr6 hB.size (own_blk hown)
             have hs6 := HX18.out _ hB
             clear hown hgr6
             refine Shut.out hKK _ _ hs6 (fun hH5 => ?_)
             clear hKK KK
             try simp only [Act.put, qa]
             apply tk 7 (v := _) rfl (Or.inl ⟨by kernel_rfl, ?hv⟩) hH5 ?_
             case hv => intro w' hS; go_simp; try exact rfl
             simp only [Act.put, qa]
             refine wpAnyH_ready (rs := [8]) (by kernel_rfl) (by simp) ?_
             refine AllReadyH.cons rfl (fun KK hKK => ?_) AllReadyH.nil
             have hfin := HST.out _ oa6 oc6 hB hown6
             have hz1 : x6.cell? ⟨b0, 1, none⟩ = some (.slice B' m' d') := HC18.out _ hB
             have hz2 : x6.frozen? ⟨b0, 1, none⟩ = false := (HS0.out.below hB HS0.out.lt).free 1
             go_simp
             obtain ⟨xb, hxb⟩ : ∃ y, y = x6.setCell ⟨b0, 1, none⟩ (.slice oa6 (m' + 1) oc6) := ⟨_, rfl⟩
             rw [← hxb] at hfin
             change KK _ (x6.setCell ⟨b0, 1, none⟩ (.slice oa6 (m' + 1) oc6))
             rw [← hxb]
             have hsb := hfin.2.1.row0
             clear hxb hz1 hz2 hown6 hB
             refine Shut.out hKK _ _ hsb (fun hH6 => ?_)
             clear hKK KK
             try simp only [Act.put, qa]
             refine wpAnyH_done (by kernel_rfl) ?_ _
             refine NoPanic.normal ?_
             have HF := Lib.hid hfin
             clear hfin
             go_wp2_with fail
             go_meet
             case rel => exact ⟨_, _, HF.out⟩
         · have hz1 : W18.drew.cell? ⟨b0, 1, none⟩ = some (.slice B' m' d') := HC18.out _ hB
           go_simp
           clear hz1
           refine Shut.out hKK _ _ hH0 (fun hH1 => ?_)
           clear hKK KK
           try simp only [Act.put, qa]
           refine wpAnyH_ready (rs := [0, 5]) (by kernel_rfl) (by simp) ?_
           refine AllReadyH.cons rfl (fun KK hKK => ?_) (AllReadyH.cons rfl (fun KK hKK => ?_) AllReadyH.nil)
           · go_simp
             obtain ⟨x0, hx0⟩ : ∃ y, y = W18.drew.alloc (.cells #[] 52) := ⟨_, rfl⟩
             have hnx0 : Below W18.drew.heap.size W18.drew x0 := by rw [hx0]; exact (Below.refl _ _).alloc (Nat.le_refl _) _
             try replace hb1_ := hb1
             try replace hb1 := hb1.below hnx0 hb1.lt
             have hown : x0.ownsRow W18.heap.size 52 68 (.slice (some ⟨W18.drew.heap.size, 0, none⟩) 0 0) 0 [] := by rw [hx0]; exact own_empty hB.size _ _
             try have hne := ne_new hb1_
             replace hB : Below W18.heap.size W18 x0 := hB.trans (hnx0.mono hB.size)
             have hsx0 := HX18.out _ hB
             first | rw [← hx0] | (change KK _ (W18.drew.alloc (.cells #[] 52)); rw [← hx0])
             clear hx0 hnx0
             refine Shut.out hKK _ _ hsx0 (fun hH2 => ?_)
             clear hKK KK
             try simp only [Act.put, qa]
             refine wpAnyH_ready (rs := [3, 5]) (by kernel_rfl) (by simp) ?_
             refine AllReadyH.cons rfl (fun KK hKK => ?_) (AllReadyH.cons rfl (fun KK hKK => ?_) AllReadyH.nil)
             · refine step_append_rows (cl := Off.cells) rfl (.tmp 104) (.tmp 106) 29 rfl W18.heap.size 52 (.agg ZI) 96 Tryd.underlying29 HINF.out HZQ.out (by decide) _ 0 [] rfl hown B' m' d' _ rfl (HOF'.out.below hB) HO1.out (by unfold maxLen; omega) (by omega) hB.size ?_
               intro oa3 oc3 x3 hown3 hgr3
               replace hB := hB.grown hgr3 hB.size (own_blk hown)
               try replace hb1 := hb1.grown hgr3 (fun e => hne _ e.symm rfl)
               clear hown hgr3
               rw [Nat.zero_add] at hown3
               rw [Nat.zero_add]
               rw [List.nil_append] at hown3
               have hown := hown3
               have hs3 := HX18.out _ hB
               clear hown3
               refine Shut.out hKK _ _ hs3 (fun hH3 => ?_)
               clear hKK KK
               try simp only [Act.put, qa]
               refine wpAnyH_ready (rs := [5]) (by kernel_rfl) (by simp) ?_
               refine AllReadyH.cons rfl (fun KK hKK => ?_) AllReadyH.nil
               refine step_build1 rfl 29 52 (.tmp 108) rfl ii (.agg ZI) Tryd.underlying29 HII.out.1 HII.out.2.1 LO (by rw [HII.out.2.2, LLO.out]) (by rw [LLO.out]; exact HZQ.out) (by rw [LLO.out]; decide) (by rw [LLO.out]; decide) rfl ?_
               obtain ⟨x5, hx5⟩ : ∃ y, y = x3.alloc (.cells LO.toArray 52) := ⟨_, rfl⟩
               have hnx5 : Below x3.heap.size x3 x5 := by rw [hx5]; exact (Below.refl _ _).alloc (Nat.le_refl _) _
               try replace hown_ := hown
               try replace hown := own_kept hown (Kept.of_below (S := fun _ => False) hnx5) (fun _ _ e => e)
               have hb1 : Has x5 x3.heap.size 52 LO.toArray := by rw [hx5]; exact Has.new x3 _ _
               try have hne := fun k e => Nat.ne_of_lt (own_lt hown_ k e)
               replace hB : Below W18.heap.size W18 x5 := hB.trans (hnx5.mono hB.size)
               have hsx5 := HX18.out _ hB
               first | rw [← hx5] | (change KK _ (x3.alloc (.cells LO.toArray 52)); rw [← hx5])
               clear hx5 hnx5
               refine Shut.out hKK _ _ hsx5 (fun hH4 => ?_)
               clear hKK KK
               try simp only [Act.put, qa]
               refine wpAnyH_ready (rs := [6]) (by kernel_rfl) (by simp) ?_
               refine AllReadyH.cons rfl (fun KK hKK => ?_) AllReadyH.nil
               refine step_append_rows (cl := Off.cells) rfl (.tmp 107) (.tmp 109) 29 rfl W18.heap.size 52 (.agg ZI) 96 Tryd.underlying29 HINF.out HZQ.out (by decide) _ m' _ rfl hown _ 1 1 [o] rfl (HROW1.out _ _ hb1) HO2.out (by unfold maxLen; omega) (by omega) hB.size ?_
               intro oa6 oc6 x6 hown6 hgr6
               replace hB := hB.grown hgr6 hB.size (own_blk hown)
               have hs6 := HX18.out _ hB
               clear hown hgr6
               refine Shut.out hKK _ _ hs6 (fun hH5 => ?_)
               clear hKK KK
               try simp only [Act.put, qa]
               apply tk 7 (v := _) rfl (Or.inl ⟨by kernel_rfl, ?hv⟩) hH5 ?_
               case hv => intro w' hS; go_simp; try exact rfl
               simp only [Act.put, qa]
               refine wpAnyH_ready (rs := [8]) (by kernel_rfl) (by simp) ?_
               refine AllReadyH.cons rfl (fun KK hKK => ?_) AllReadyH.nil
               have hfin := HST.out _ oa6 oc6 hB hown6
               have hz1 : x6.cell? ⟨b0, 1, none⟩ = some (.slice B' m' d') := HC18.out _ hB
               have hz2 : x6.frozen? ⟨b0, 1, none⟩ = false := (HS0.out.below hB HS0.out.lt).free 1
               go_simp
               obtain ⟨xb, hxb⟩ : ∃ y, y = x6.setCell ⟨b0, 1, none⟩ (.slice oa6 (m' + 1) oc6) := ⟨_, rfl⟩
               rw [← hxb] at hfin
               change KK _ (x6.setCell ⟨b0, 1, none⟩ (.slice oa6 (m' + 1) oc6))
               rw [← hxb]
               have hsb := hfin.2.1.row0
               clear hxb hz1 hz2 hown6 hB
               refine Shut.out hKK _ _ hsb (fun hH6 => ?_)
               clear hKK KK
               try simp only [Act.put, qa]
               refine wpAnyH_done (by kernel_rfl) ?_ _
               refine NoPanic.normal ?_
               have HF := Lib.hid hfin
               clear hfin
               go_wp2_with fail
               go_meet
               case rel => exact ⟨_, _, HF.out⟩
             · refine step_build1 rfl 29 52 (.tmp 108) rfl ii (.agg ZI) Tryd.underlying29 HII.out.1 HII.out.2.1 LO (by rw [HII.out.2.2, LLO.out]) (by rw [LLO.out]; exact HZQ.out) (by rw [LLO.out]; decide) (by rw [LLO.out]; decide) rfl ?_
               obtain ⟨x5, hx5⟩ : ∃ y, y = x0.alloc (.cells LO.toArray 52) := ⟨_, rfl⟩
               have hnx5 : Below x0.heap.size x0 x5 := by rw [hx5]; exact (Below.refl _ _).alloc (Nat.le_refl _) _
               try replace hown_ := hown
               try replace hown := own_kept hown (Kept.of_below (S := fun _ => False) hnx5) (fun _ _ e => e)
               have hb1 : Has x5 x0.heap.size 52 LO.toArray := by rw [hx5]; exact Has.new x0 _ _
               try have hne := fun k e => Nat.ne_of_lt (own_lt hown_ k e)
               replace hB : Below W18.heap.size W18 x5 := hB.trans (hnx5.mono hB.size)
               have hsx5 := HX18.out _ hB
               first | rw [← hx5] | (change KK _ (x0.alloc (.cells LO.toArray 52)); rw [← hx5])
               clear hx5 hnx5
               refine Shut.out hKK _ _ hsx5 (fun hH3 => ?_)
               clear hKK KK
               try simp only [Act.put, qa]
               refine wpAnyH_ready (rs := [3]) (by kernel_rfl) (by simp) ?_
               refine AllReadyH.cons rfl (fun KK hKK => ?_) AllReadyH.nil
               refine step_append_rows (cl := Off.cells) rfl (.tmp 104) (.tmp 106) 29 rfl W18.heap.size 52 (.agg ZI) 96 Tryd.underlying29 HINF.out HZQ.out (by decide) _ 0 [] rfl hown B' m' d' _ rfl (HOF'.out.below hB) HO1.out (by unfold maxLen; omega) (by omega) hB.size ?_
               intro oa3 oc3 x3 hown3 hgr3
               replace hB := hB.grown hgr3 hB.size (own_blk hown)
               try replace hb1 := hb1.grown hgr3 (fun e => hne _ e.symm rfl)
               clear hown hgr3
               rw [Nat.zero_add] at hown3
               rw [Nat.zero_add]
               rw [List.nil_append] at hown3
               have hown := hown3
               have hs3 := HX18.out _ hB
               clear hown3
               refine Shut.out hKK _ _ hs3 (fun hH4 => ?_)
               clear hKK KK
               try simp only [Act.put, qa]
               refine wpAnyH_ready (rs := [6]) (by kernel_rfl) (by simp) ?_
               refine AllReadyH.cons rfl (fun KK hKK => ?_) AllReadyH.nil
               refine step_append_rows (cl := Off.cells) rfl (.tmp 107) (.tmp 109) 29 rfl W18.heap.size 52 (.agg ZI) 96 Tryd.underlying29 HINF.out HZQ.out (by decide) _ m' _ rfl hown _ 1 1 [o] rfl (HROW1.out _ _ hb1) HO2.out (by unfold maxLen; omega) (by omega) hB.size ?_
               intro oa6 oc6 x6 hown6 hgr6
               replace hB := hB.grown hgr6 hB.size (own_blk hown)
               have hs6 := HX18.out _ hB
               clear hown hgr6
               refine Shut.out hKK _ _ hs6 (fun hH5 => ?_)
               clear hKK KK
               try simp only [Act.put, qa]
               apply tk 7 (v := _) rfl (Or.inl ⟨by kernel_rfl, ?hv⟩) hH5 ?_
               case hv => intro w' hS; go_simp; try exact rfl
               simp only [Act.put, qa]
               refine wpAnyH_ready (rs := [8]) (by kernel_rfl) (by simp) ?_
               refine AllReadyH.cons rfl (fun KK hKK => ?_) AllReadyH.nil
               have hfin := HST.out _ oa6 oc6 hB hown6
               have hz1 : x6.cell? ⟨b0, 1, none⟩ = some (.slice B' m' d') := HC18.out _ hB
               have hz2 : x6.frozen? ⟨b0, 1, none⟩ = false := (HS0.out.below hB HS0.out.lt).free 1
               go_simp
               obtain ⟨xb, hxb⟩ : ∃ y, y = x6.setCell ⟨b0, 1, none⟩ (.slice oa6 (m' + 1) oc6) := ⟨_, rfl⟩
               rw [← hxb] at hfin
               change KK _ (x6.setCell ⟨b0, 1, none⟩ (.slice oa6 (m' + 1) oc6))
               rw [← hxb]
               have hsb := hfin.2.1.row0
               clear hxb hz1 hz2 hown6 hB
               refine Shut.out hKK _ _ hsb (fun hH6 => ?_)
               clear hKK KK
               try simp only [Act.put, qa]
               refine wpAnyH_done (by kernel_rfl) ?_ _
               refine NoPanic.normal ?_
               have HF := Lib.hid hfin
               clear hfin
               go_wp2_with fail
               go_meet
               case rel => exact ⟨_, _, HF.out⟩
           · refine step_build1 rfl 29 52 (.tmp 108) rfl ii (.agg ZI) Tryd.underlying29 HII.out.1 HII.out.2.1 LO (by rw [HII.out.2.2, LLO.out]) (by rw [LLO.out]; exact HZQ.out) (by rw [LLO.out]; decide) (by rw [LLO.out]; decide) rfl ?_
             obtain ⟨x5, hx5⟩ : ∃ y, y = W18.drew.alloc (.cells LO.toArray 52) := ⟨_, rfl⟩
             have hnx5 : Below W18.drew.heap.size W18.drew x5 := by rw [hx5]; exact (Below.refl _ _).alloc (Nat.le_refl _) _
             try replace hown_ := hown
             try replace hown := own_kept hown (Kept.of_below (S := fun _ => False) hnx5) (fun _ _ e => e)
             have hb1 : Has x5 W18.drew.heap.size 52 LO.toArray := by rw [hx5]; exact Has.new W18.drew _ _
             try have hne := fun k e => Nat.ne_of_lt (own_lt hown_ k e)
             replace hB : Below W18.heap.size W18 x5 := hB.trans (hnx5.mono hB.size)
             have hsx5 := HX18.out _ hB
             first | rw [← hx5] | (change KK _ (W18.drew.alloc (.cells LO.toArray 52)); rw [← hx5])
             clear hx5 hnx5
             refine Shut.out hKK _ _ hsx5 (fun hH2 => ?_)
             clear hKK KK
             try simp only [Act.put, qa]
             refine wpAnyH_ready (rs := [0]) (by kernel_rfl) (by simp) ?_
             refine AllReadyH.cons rfl (fun KK hKK => ?_) AllReadyH.nil
             go_simp
             obtain ⟨x0, hx0⟩ : ∃ y, y = x5.alloc (.cells #[] 52) := ⟨_, rfl⟩
             have hnx0 : Below x5.heap.size x5 x0 := by rw [hx0]; exact (Below.refl _ _).alloc (Nat.le_refl _) _
             try replace hb1_ := hb1
             try replace hb1 := hb1.below hnx0 hb1.lt
             have hown : x0.ownsRow W18.heap.size 52 68 (.slice (some ⟨x5.heap.size, 0, none⟩) 0 0) 0 [] := by rw [hx0]; exact own_empty hB.size _ _
             try have hne := ne_new hb1_
             replace hB : Below W18.heap.size W18 x0 := hB.trans (hnx0.mono hB.size)
             have hsx0 := HX18.out _ hB
             first | rw [← hx0] | (change KK _ (x5.alloc (.cells #[] 52)); rw [← hx0])
             clear hx0 hnx0
             refine Shut.out hKK _ _ hsx0 (fun hH3 => ?_)
             clear hKK KK
             try simp only [Act.put, qa]
             refine wpAnyH_ready (rs := [3]) (by kernel_rfl) (by simp) ?_
             refine AllReadyH.cons rfl (fun KK hKK => ?_) AllReadyH.nil
             refine step_append_rows (cl := Off.cells) rfl (.tmp 104) (.tmp 106) 29 rfl W18.heap.size 52 (.agg ZI) 96 Tryd.underlying29 HINF.out HZQ.out (by decide) _ 0 [] rfl hown B' m' d' _ rfl (HOF'.out.below hB) HO1.out (by unfold maxLen; omega) (by omega) hB.size ?_
             intro oa3 oc3 x3 hown3 hgr3
             replace hB := hB.grown hgr3 hB.size (own_blk hown)
             try replace hb1 := hb1.grown hgr3 (fun e => hne _ e.symm rfl)
             clear hown hgr3
             rw [Nat.zero_add] at hown3
             rw [Nat.zero_add]
             rw [List.nil_append] at hown3
             have hown := hown3
             have hs3 := HX18.out _ hB
             clear hown3
             refine Shut.out hKK _ _ hs3 (fun hH4 => ?_)
             clear hKK KK
             try simp only [Act.put, qa]
             refine wpAnyH_ready (rs := [6]) (by kernel_rfl) (by simp) ?_
             refine AllReadyH.cons rfl (fun KK hKK => ?_) AllReadyH.nil
             refine step_append_rows (cl := Off.cells) rfl (.tmp 107) (.tmp 109) 29 rfl W18.heap.size 52 (.agg ZI) 96 Tryd.underlying29 HINF.out HZQ.out (by decide) _ m' _ rfl hown _ 1 1 [o] rfl (HROW1.out _ _ hb1) HO2.out (by unfold maxLen; omega) (by omega) hB.size ?_
             intro oa6 oc6 x6 hown6 hgr6
             replace hB := hB.grown hgr6 hB.size (own_blk hown)
             have hs6 := HX18.out _ hB
             clear hown hgr6
             refine Shut.out hKK _ _ hs6 (fun hH5 => ?_)
             clear hKK KK
             try simp only [Act.put, qa]
             apply tk 7 (v := _) rfl (Or.inl ⟨by kernel_rfl, ?hv⟩) hH5 ?_
             case hv => intro w' hS; go_simp; try exact rfl
             simp only [Act.put, qa]
             refine wpAnyH_ready (rs := [8]) (by kernel_rfl) (by simp) ?_
             refine AllReadyH.cons rfl (fun KK hKK => ?_) AllReadyH.nil
             have hfin := HST.out _ oa6 oc6 hB hown6
             have hz1 : x6.cell? ⟨b0, 1, none⟩ = some (.slice B' m' d') := HC18.out _ hB
             have hz2 : x6.frozen? ⟨b0, 1, none⟩ = false := (HS0.out.below hB HS0.out.lt).free 1
             go_simp
             obtain ⟨xb, hxb⟩ : ∃ y, y = x6.setCell ⟨b0, 1, none⟩ (.slice oa6 (m' + 1) oc6) := ⟨_, rfl⟩
             rw [← hxb] at hfin
             change KK _ (x6.setCell ⟨b0, 1, none⟩ (.slice oa6 (m' + 1) oc6))
             rw [← hxb]
             have hsb := hfin.2.1.row0
             clear hxb hz1 hz2 hown6 hB
             refine Shut.out hKK _ _ hsb (fun hH6 => ?_)
             clear hKK KK
             try simp only [Act.put, qa]
             refine wpAnyH_done (by kernel_rfl) ?_ _
             refine NoPanic.normal ?_
             have HF := Lib.hid hfin
             clear hfin
             go_wp2_with fail
             go_meet
             case rel => exact ⟨_, _, HF.out⟩
         · refine step_build1 rfl 29 52 (.tmp 108) rfl ii (.agg ZI) Tryd.underlying29 HII.out.1 HII.out.2.1 LO (by rw [HII.out.2.2, LLO.out]) (by rw [LLO.out]; exact HZQ.out) (by rw [LLO.out]; decide) (by rw [LLO.out]; decide) rfl ?_
           obtain ⟨x5, hx5⟩ : ∃ y, y = W18.drew.alloc (.cells LO.toArray 52) := ⟨_, rfl⟩
           have hnx5 : Below W18.drew.heap.size W18.drew x5 := by rw [hx5]; exact (Below.refl _ _).alloc (Nat.le_refl _) _
           try replace hown_ := hown
           try replace hown := own_kept hown (Kept.of_below (S := fun _ => False) hnx5) (fun _ _ e => e)
           have hb1 : Has x5 W18.drew.heap.size 52 LO.toArray := by rw [hx5]; exact Has.new W18.drew _ _
           try have hne := fun k e => Nat.ne_of_lt (own_lt hown_ k e)
           replace hB : Below W18.heap.size W18 x5 := hB.trans (hnx5.mono hB.size)
           have hsx5 := HX18.out _ hB
           first | rw [← hx5] | (change KK _ (W18.drew.alloc (.cells LO.toArray 52)); rw [← hx5])
           clear hx5 hnx5
           refine Shut.out hKK _ _ hsx5 (fun hH1 => ?_)
           clear hKK KK
           try simp only [Act.put, qa]
           refine wpAnyH_ready (rs := [0, 2]) (by kernel_rfl) (by simp) ?_
           refine AllReadyH.cons rfl (fun KK hKK => ?_) (AllReadyH.cons rfl (fun KK hKK => ?_) AllReadyH.nil)
           · go_simp
             obtain ⟨x0, hx0⟩ : ∃ y, y = x5.alloc (.cells #[] 52) := ⟨_, rfl⟩
             have hnx0 : Below x5.heap.size x5 x0 := by rw [hx0]; exact (Below.refl _ _).alloc (Nat.le_refl _) _
             try replace hb1_ := hb1
             try replace hb1 := hb1.below hnx0 hb1.lt
             have hown : x0.ownsRow W18.heap.size 52 68 (.slice (some ⟨x5.heap.size, 0, none⟩) 0 0) 0 [] := by rw [hx0]; exact own_empty hB.size _ _
             try have hne := ne_new hb1_
             replace hB : Below W18.heap.size W18 x0 := hB.trans (hnx0.mono hB.size)
             have hsx0 := HX18.out _ hB
             first | rw [← hx0] | (change KK _ (x5.alloc (.cells #[] 52)); rw [← hx0])
             clear hx0 hnx0
             refine Shut.out hKK _ _ hsx0 (fun hH2 => ?_)
             clear hKK KK
             try simp only [Act.put, qa]
             refine wpAnyH_ready (rs := [2]) (by kernel_rfl) (by simp) ?_
             refine AllReadyH.cons rfl (fun KK hKK => ?_) AllReadyH.nil
             have hz1 : x0.cell? ⟨b0, 1, none⟩ = some (.slice B' m' d') := HC18.out _ hB
             go_simp
             clear hz1
             refine Shut.out hKK _ _ hH2 (fun hH3 => ?_)
             clear hKK KK
             try simp only [Act.put, qa]
             refine wpAnyH_ready (rs := [3]) (by kernel_rfl) (by simp) ?_
             refine AllReadyH.cons rfl (fun KK hKK => ?_) AllReadyH.nil
             refine step_append_rows (cl := Off.cells) rfl (.tmp 104) (.tmp 106) 29 rfl W18.heap.size 52 (.agg ZI) 96 Tryd.underlying29 HINF.out HZQ.out (by decide) _ 0 [] rfl hown B' m' d' _ rfl (HOF'.out.below hB) HO1.out (by unfold maxLen; omega) (by omega) hB.size ?_
             intro oa3 oc3 x3 hown3 hgr3
             replace hB := hB.grown hgr3 hB.size (own_blk hown)
             try replace hb1 := hb1.grown hgr3 (fun e => hne _ e.symm rfl)
             clear hown hgr3
             rw [Nat.zero_add] at hown3
             rw [Nat.zero_add]
             rw [List.nil_append] at hown3
             have hown := hown3
             have hs3 := HX18.out _ hB
             clear hown3
             refine Shut.out hKK _ _ hs3 (fun hH4 => ?_)
             clear hKK KK
             try simp only [Act.put, qa]
             refine wpAnyH_ready (rs := [6]) (by kernel_rfl) (by simp) ?_
             refine AllReadyH.cons rfl (fun KK hKK => ?_) AllReadyH.nil
             refine step_append_rows (cl := Off.cells) rfl (.tmp 107) (.tmp 109) 29 rfl W18.heap.size 52 (.agg ZI) 96 Tryd.underlying29 HINF.out HZQ.out (by decide) _ m' _ rfl hown _ 1 1 [o] rfl (HROW1.out _ _ hb1) HO2.out (by unfold maxLen; omega) (by omega) hB.size ?_
             intro oa6 oc6 x6 hown6 hgr6
             replace hB := hB.grown hgr6 hB.size (own_blk hown)
             have hs6 := HX18.out _ hB
             clear hown hgr6
             refine Shut.out hKK _ _ hs6 (fun hH5 => ?_)
             clear hKK KK
             try simp only [Act.put, qa]
             apply tk 7 (v := _) rfl (Or.inl ⟨by kernel_rfl, ?hv⟩) hH5 ?_
             case hv => intro w' hS; go_simp; try exact rfl
             simp only [Act.put, qa]
             refine wpAnyH_ready (rs := [8]) (by kernel_rfl) (by simp) ?_
             refine AllReadyH.cons rfl (fun KK hKK => ?_) AllReadyH.nil
             have hfin := HST.out _ oa6 oc6 hB hown6
             have hz1 : x6.cell? ⟨b0, 1, none⟩ = some (.slice B' m' d') := HC18.out _ hB
             have hz2 : x6.frozen? ⟨b0, 1, none⟩ = false := (HS0.out.below hB HS0.out.lt).free 1
             go_simp
             obtain ⟨xb, hxb⟩ : ∃ y, y = x6.setCell ⟨b0, 1, none⟩ (.slice oa6 (m' + 1) oc6) := ⟨_, rfl⟩
             rw [← hxb] at hfin
             change KK _ (x6.setCell ⟨b0, 1, none⟩ (.slice oa6 (m' + 1) oc6))
             rw [← hxb]
             have hsb := hfin.2.1.row0
             clear hxb hz1 hz2 hown6 hB
             refine Shut.out hKK _ _ hsb (fun hH6 => ?_)
             clear hKK KK
             try simp only [Act.put, qa]
             refine wpAnyH_done (by kernel_rfl) ?_ _
             refine NoPanic.normal ?_
             have HF := Lib.hid hfin
             clear hfin
             go_wp2_with fail
             go_meet
             case rel => exact ⟨_, _, HF.out⟩
           · have hz1 : x5.cell? ⟨b0, 1, none⟩ = some (.slice B' m' d') := HC18.out _ hB
             go_simp
             clear hz1
             refine Shut.out hKK _ _ hH1 (fun hH2 => ?_)
             clear hKK KK
             try simp only [Act.put, qa]
             refine wpAnyH_ready (rs := [0]) (by kernel_rfl) (by simp) ?_
             refine AllReadyH.cons rfl (fun KK hKK => ?_) AllReadyH.nil
             go_simp
             obtain ⟨x0, hx0⟩ : ∃ y, y = x5.alloc (.cells #[] 52) := ⟨_, rfl⟩
             have hnx0 : Below x5.heap.size x5 x0 := by rw [hx0]; exact (Below.refl _ _).alloc (Nat.le_refl _) _
             try replace hb1_ := hb1
             try replace hb1 := hb1.below hnx0 hb1.lt
             have hown : x0.ownsRow W18.heap.size 52 68 (.slice (some ⟨x5.heap.size, 0, none⟩) 0 0) 0 [] := by rw [hx0]; exact own_empty hB.size _ _
             try have hne := ne_new hb1_
             replace hB : Below W18.heap.size W18 x0 := hB.trans (hnx0.mono hB.size)
             have hsx0 := HX18.out _ hB
             first | rw [← hx0] | (change KK _ (x5.alloc (.cells #[] 52)); rw [← hx0])
             clear hx0 hnx0
             refine Shut.out hKK _ _ hsx0 (fun hH3 => ?_)
             clear hKK KK
             try simp only [Act.put, qa]
             refine wpAnyH_ready (rs := [3]) (by kernel_rfl) (by simp) ?_
             refine AllReadyH.cons rfl (fun KK hKK => ?_) AllReadyH.nil
             refine step_append_rows (cl := Off.cells) rfl (.tmp 104) (.tmp 106) 29 rfl W18.heap.size 52 (.agg ZI) 96 Tryd.underlying29 HINF.out HZQ.out (by decide) _ 0 [] rfl hown B' m' d' _ rfl (HOF'.out.below hB) HO1.out (by unfold maxLen; omega) (by omega) hB.size ?_
             intro oa3 oc3 x3 hown3 hgr3
             replace hB := hB.grown hgr3 hB.size (own_blk hown)
             try replace hb1 := hb1.grown hgr3 (fun e => hne _ e.symm rfl)
             clear hown hgr3
             rw [Nat.zero_add] at hown3
             rw [Nat.zero_add]
             rw [List.nil_append] at hown3
             have hown := hown3
             have hs3 := HX18.out _ hB
             clear hown3
             refine Shut.out hKK _ _ hs3 (fun hH4 => ?_)
             clear hKK KK
             try simp only [Act.put, qa]
             refine wpAnyH_ready (rs := [6]) (by kernel_rfl) (by simp) ?_
             refine AllReadyH.cons rfl (fun KK hKK => ?_) AllReadyH.nil
             refine step_append_rows (cl := Off.cells) rfl (.tmp 107) (.tmp 109) 29 rfl W18.heap.size 52 (.agg ZI) 96 Tryd.underlying29 HINF.out HZQ.out (by decide) _ m' _ rfl hown _ 1 1 [o] rfl (HROW1.out _ _ hb1) HO2.out (by unfold maxLen; omega) (by omega) hB.size ?_
             intro oa6 oc6 x6 hown6 hgr6
             replace hB := hB.grown hgr6 hB.size (own_blk hown)
             have hs6 := HX18.out _ hB
             clear hown hgr6
             refine Shut.out hKK _ _ hs6 (fun hH5 => ?_)
             clear hKK KK
             try simp only [Act.put, qa]
             apply tk 7 (v := _) rfl (Or.inl ⟨by kernel_rfl, ?hv⟩) hH5 ?_
             case hv => intro w' hS; go_simp; try exact rfl
             simp only [Act.put, qa]
             refine wpAnyH_ready (rs := [8]) (by kernel_rfl) (by simp) ?_
             refine AllReadyH.cons rfl (fun KK hKK => ?_) AllReadyH.nil
             have hfin := HST.out _ oa6 oc6 hB hown6
             have hz1 : x6.cell? ⟨b0, 1, none⟩ = some (.slice B' m' d') := HC18.out _ hB
             have hz2 : x6.frozen? ⟨b0, 1, none⟩ = false := (HS0.out.below hB HS0.out.lt).free 1
             go_simp
             obtain ⟨xb, hxb⟩ : ∃ y, y = x6.setCell ⟨b0, 1, none⟩ (.slice oa6 (m' + 1) oc6) := ⟨_, rfl⟩
             rw [← hxb] at hfin
             change KK _ (x6.setCell ⟨b0, 1, none⟩ (.slice oa6 (m' + 1) oc6))
             rw [← hxb]
             have hsb := hfin.2.1.row0
             clear hxb hz1 hz2 hown6 hB
             refine Shut.out hKK _ _ hsb (fun hH6 => ?_)
             clear hKK KK
             try simp only [Act.put, qa]
             refine wpAnyH_done (by kernel_rfl) ?_ _
             refine NoPanic.normal ?_
             have HF := Lib.hid hfin
             clear hfin
             go_wp2_with fail
             go_meet
             case rel => exact ⟨_, _, HF.out⟩
       case rest =>
       clear hB hS0
       obtain ⟨W19, hW19⟩ : ∃ y, y = wc := ⟨_, rfl⟩
       obtain ⟨oa, oc, hfq⟩ := hcut
       obtain ⟨L3, hL3⟩ : ∃ y : List Value, y = [.slice A' n' c', .slice oa (m' + 1) oc, .int .u64 (r.k0 : Int), .int .u64 (r.k1 : Int)] := ⟨_, rfl⟩
       rw [← hL3] at hfq
       obtain ⟨Z9, hz9, hzs9, hset9, hr9, hb9⟩ := hfq.row (by rw [HBQ.out]; omega) hfq.1.2
       have HI9 := Lib.hid hfq.1.1.row0
       have HL3 := Lib.hid (show L3.length = 4 by rw [hL3]; rfl)
       have SZ3 := Lib.hid (size_rb HL3.out)
       have SZ3A := Lib.hid (show (Tryd.prog.info? 31).map (·.size) = some L3.toArray.size by rw [List.size_toArray]; exact SZ3.out)
       have HZ9 := Lib.hid hz9
       have HZS9 := Lib.hid hzs9
       have HF1 := Lib.hid hset9
       have HF2 := Lib.hid (And.intro hr9 hb9)
       have HON3 := Lib.hid hfq.1.2.one
       clear hz9 hzs9 hset9 hr9 hb9 hfq hL3
       go_wp2_with (first
         | (refine wpList_load_mid rfl 31 (.tmp 2) rfl b0 0 rfl L3 _ HI9.out Tryd.underlying31 rfl SZ3.out ?_)
         | (refine wpList_store_row rfl 31 (.tmp 4) (.tmp 112) rfl (b0 + 2) L3.toArray rfl rfl 31 _ HZ9.out SZ3A.out HZS9.out HON3.out ?_))
       refine bodyPost_ret (results_cell_tmp rfl _ _ (b0 + 2) 31 L3.toArray (0, 0) _ rfl rfl HF1.out Tryd.underlying31 SZ3A.out) rfl ?_
       exact ⟨⟨L3, by rw [HE.out]; rfl, by rw [HBK.out]; exact HF2.out.1⟩, HF2.out.2⟩
end Go.Proofs.YtcekammjpghjnaaDoor

