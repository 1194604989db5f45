/- The reference's book: an offer taken back. -/
import Derived.Test.YtcekammjpghjnaaDoorWs
import Derived.Test.YtcekammjpghjnaaDoorURg6
import Derived.Test.YtcekammjpghjnaaDoorUBook18
import Derived.Test.YtcekammjpghjnaaDoorUBook20
namespace Go.Proofs.YtcekammjpghjnaaDoor
set_option linter.unusedVariables false
set_option linter.unusedSimpArgs false
open Go.ChangeShapes Go.WideShapes Go.ChangeAt Go.RowKit Go.Maps

def giveR (r : RB) (frm no s : Int) : RB := match r.offers[(findI r.offers frm no).toNat]? with
 | none => r
 | some o => withoutR r (findI r.offers frm no).toNat s o
def backRE (r : RB) (frm no : Int) : Int := if findI r.offers frm no < 0 then 5 else 0
def backRB (r : RB) (frm no : Int) : RB := if findI r.offers frm no < 0 then r else giveR r frm no frm
set_option maxRecDepth 100000 in
set_option maxHeartbeats 4000000 in
theorem rbBack_is (w : World) (L : List Value) (r : RB) (hr : RbAt w L r) (hcap : r.offers.length ≤ 200) (hcah : r.has.length ≤ 99999) (frm no : Int) (hfit : ∀ o ∈ r.offers, o.frm = frm → getR r.has frm o.id + o.am < 18446744073709551616) :
   Calls Tryd.prog 14 #[.agg L.toArray, .int .i64 frm, .int .i64 no] w fun e w' => (∃ L', e = .returned (.tuple #[.agg L'.toArray, .int .i64 (backRE r frm no)]) ∧ RbAt w' L' (backRB r frm no)) ∧ Below w.heap.size w w' := by
 have hzb := zero_rb
 obtain ⟨W1, hW1, h1, h2, hb1⟩ := boxes_without w L #[.slice none 0 0, .slice none 0 0, .int .u64 0, .int .u64 0]
 have HR := Lib.hid hr
 have HB1 := Lib.hid hb1
 have EW := Lib.hid hW1
 have H1 := Lib.hid h1
 have H2 := Lib.hid h2
 have HONE := Lib.hid hr.one
 have SZB := Lib.hid (size_rb hr.len)
 have SZA := Lib.hid (show (Tryd.prog.info? 31).map (·.size) = some L.toArray.size by rw [List.size_toArray]; exact SZB.out)
 have SZ4 := Lib.hid (show (#[.slice none 0 0, .slice none 0 0, .int .u64 0, .int .u64 0] : Array Value).size = L.toArray.size by show 4 = _; rw [List.size_toArray, hr.len])
 obtain ⟨fi, hfi⟩ : ∃ y, y = findI r.offers frm no := ⟨_, rfl⟩
 have HFI := Lib.hid hfi
 have HFIND := Lib.hid (show ∀ v, Below w.heap.size w v → Calls Tryd.prog 33 #[.agg L.toArray, .int .i64 frm, .int .i64 no] v fun e w' => e = .returned (.int .i64 fi) ∧ Below v.heap.size v w' from fun v hv => by rw [hfi]; exact rbFind_is v L r (hr.below hv) frm no)
 have HEND := Lib.hid (show ∀ (wx : World) (LX : List Value) (r' : RB), RbAt wx LX r' → Below W1.heap.size W1 wx → Has wx (w.heap.size + 1) 31 #[.slice none 0 0, .slice none 0 0, .int .u64 0, .int .u64 0] ∧ Has (wx.setRow (w.heap.size + 1) LX.toArray) (w.heap.size + 1) 31 LX.toArray ∧ RbAt (wx.setRow (w.heap.size + 1) LX.toArray) LX r' ∧ Below w.heap.size w (wx.setRow (w.heap.size + 1) LX.toArray) from fun wx LX r' hx hb => rb_end HB1.out H2.out (by omega) hx hb)
 have HX := Lib.hid (show ∀ v, Below W1.heap.size W1 v → v.rangeAt w.heap.size 0 L from fun v hv => (H1.out.below hv H1.out.lt).row0)
 have HCASE := Lib.hid (show fi < 0 ∨ ∃ (k : Nat) (o : Off), r.offers[k]? = some o ∧ fi = k ∧ giveR r frm no frm = withoutR r k frm o ∧ ∀ v, Below w.heap.size w v → Calls Tryd.prog 38 #[.agg L.toArray, .int .i64 (k : Int), .int .i64 frm] v fun e w' => (∃ L', e = .returned (.agg L'.toArray) ∧ RbAt w' L' (withoutR r k frm o)) ∧ Below v.heap.size v w' from by
   rcases find_cases r.offers frm no with h | ⟨k, o, ho, h⟩
   · exact .inl (by rw [hfi, h]; decide)
   · obtain ⟨o2, ho2, hf2, -⟩ := findI_hit h
     rw [ho] at ho2
     cases ho2
     refine .inr ⟨k, o, ho, by rw [hfi, h], by unfold giveR; rw [h, Int.toNat_natCast, ho], fun v hv => rbWithout_is v L r (hr.below hv) hcap hcah k o ho frm (hfit o (List.mem_of_getElem? ho) hf2)⟩)
 clear hr hb1 hW1 h1 h2 hcap hcah hfit hfi
 go_enter Tryd.func14, Tryd.ntmps14
 go_upto_region 1 with (fail)
 rw [← EW.out]
 obtain ⟨b0, hb0⟩ : ∃ y, y = w.heap.size := ⟨_, rfl⟩
 rw [← hb0] at H1 H2 HX HEND ⊢
 have HBQ := Lib.hid hb0
 clear hb0 EW
 have HI0 := Lib.hid (HX.out W1 (Below.refl _ _))
 go_wp2_with (refine wpList_load_mid rfl 31 (.tmp 3) rfl b0 0 rfl L _ HI0.out Tryd.underlying31 rfl SZB.out ?_)
 refine (HFIND.out W1 HB1.out).mono ?_
 rintro _ w8 ⟨rfl, hb8⟩
 have HB8 := Lib.hid hb8
 have HI8 := Lib.hid (HX.out w8 hb8)
 clear hb8 HI0 HFIND
 by_cases hneg : fi < 0
 · have HE := Lib.hid (show backRE r frm no = 5 ∧ backRB r frm no = r by unfold backRE backRB; rw [← HFI.out, if_pos hneg, if_pos hneg]; exact ⟨rfl, rfl⟩)
   obtain ⟨hz3, hs3, hr3, hb3⟩ := HEND.out w8 L r (HR.out.below (HB1.out.trans (HB8.out.mono HB1.out.size))) HB8.out
   have HZ3 := Lib.hid hz3
   have HF1 := Lib.hid hs3
   have HF2 := Lib.hid (And.intro hr3 hb3)
   clear hz3 hs3 hr3 hb3
   go_wp2_with (first
     | (refine wpList_load_mid rfl 31 (.tmp 3) rfl b0 0 rfl L _ HI8.out Tryd.underlying31 rfl SZB.out ?_)
     | (refine wpList_store_row rfl 31 (.tmp 6) (.tmp 15) rfl (b0 + 1) L.toArray rfl rfl 31 _ HZ3.out SZA.out SZ4.out HONE.out ?_))
   refine bodyPost_ret (results_cell_tmp rfl _ _ (b0 + 1) 31 L.toArray (0, 0) _ rfl rfl HF1.out Tryd.underlying31 SZA.out) rfl ?_
   exact ⟨⟨L, by rw [HE.out.1]; rfl, by rw [HE.out.2]; exact HF2.out.1⟩, by rw [← HBQ.out]; exact HF2.out.2⟩
 · obtain ⟨k, o, ho, hk, hgive, hw⟩ := HCASE.out.resolve_left hneg
   have HE := Lib.hid (show backRE r frm no = 0 ∧ backRB r frm no = withoutR r k frm o by unfold backRE backRB; rw [← HFI.out, if_neg hneg, if_neg hneg]; exact ⟨rfl, hgive⟩)
   have HW := Lib.hid hw
   subst hk
   clear ho hgive hw HCASE HFI
   have hneg' : ¬ (k : Int) < 0 := hneg
   go_wp2_with (refine wpList_load_mid rfl 31 (.tmp 3) rfl b0 0 rfl L _ HI8.out Tryd.underlying31 rfl SZB.out ?_)
   refine (HW.out w8 (HB1.out.trans (HB8.out.mono HB1.out.size))).mono ?_
   rintro _ w9 ⟨⟨L', rfl, hr9⟩, hb9⟩
   have hb19 := HB8.out.trans (hb9.mono HB8.out.size)
   obtain ⟨hz3, hs3, hr3, hb3⟩ := HEND.out w9 L' _ hr9 hb19
   have HZ3 := Lib.hid hz3
   have HF1 := Lib.hid hs3
   have HF2 := Lib.hid (And.intro hr3 hb3)
   have SZA' := Lib.hid (show (Tryd.prog.info? 31).map (·.size) = some L'.toArray.size by rw [List.size_toArray]; exact size_rb hr9.len)
   have SZ4' := Lib.hid (show (#[.slice none 0 0, .slice none 0 0, .int .u64 0, .int .u64 0] : Array Value).size = L'.toArray.size by show 4 = _; rw [List.size_toArray, hr9.len])
   have HONE' := Lib.hid hr9.one
   clear hz3 hs3 hr3 hb3 hr9 hb9 hb19
   go_wp2_with (refine wpList_store_row rfl 31 (.tmp 6) (.tmp 19) rfl (b0 + 1) L'.toArray rfl rfl 31 _ HZ3.out SZA'.out SZ4'.out HONE'.out ?_)
   refine bodyPost_ret (results_cell_tmp rfl _ _ (b0 + 1) 31 L'.toArray (0, 0) _ rfl rfl HF1.out Tryd.underlying31 SZA'.out) rfl ?_
   exact ⟨⟨L', by rw [HE.out.1]; rfl, by rw [HE.out.2]; exact HF2.out.1⟩, by rw [← HBQ.out]; exact HF2.out.2⟩
end Go.Proofs.YtcekammjpghjnaaDoor

