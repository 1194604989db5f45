/- The reference's book: without an offer. -/
import Derived.Test.YtcekammjpghjnaaDoorWs
import Derived.Test.YtcekammjpghjnaaDoorURg5
namespace Go.Proofs.YtcekammjpghjnaaDoor
set_option linter.unusedVariables false
set_option linter.unusedSimpArgs false
open Go.ChangeShapes Go.WideShapes Go.ChangeAt Go.RowKit Go.Maps

theorem boxes_without (w : World) (LB : List Value) (Z : Array Value) : ∃ W1, W1 = (((w.alloc (.cells LB.toArray 31))).alloc (.cells Z 31)) ∧
   Has W1 (w.heap.size) 31 LB.toArray ∧ Has W1 (w.heap.size + 1) 31 Z ∧ Below w.heap.size w W1 := by
 refine ⟨_, rfl, ?_, ?_, ?_⟩
 · have := Has.new w 31 LB.toArray
   exact (this).alloc _
 · have := Has.new (w.alloc (.cells LB.toArray 31)) 31 Z
   exact (by simpa using this : Has _ (w.heap.size + 1) _ _)
 · exact ((Below.refl _ _).alloc (Nat.le_refl _) _).alloc (by simp) _
def offAd (b o d i : Nat) : Addr := if d - (i + 1) = 0 then ⟨b, o, none⟩ else ⟨b, o + (i + 1) * 68, none⟩
theorem off_lo (b o m d i : Nat) (hi : i < m) (hd : m ≤ d) (v : World) : (Instr.slice 29 (.slice (some ⟨b, o, none⟩) m d) none (some (.int .i64 (i : Int))) none).run Tryd.prog v = .ok (.slice (some ⟨b, o, none⟩) i d) v := by
 have hu : Tryd.prog.underlying 29 = some (.slice (Tryd.prog.elem 29)) := by kernel_rfl
 have he : Tryd.prog.elem 29 = 52 := by kernel_rfl
 have hz : ∀ w, (sizeOf 52).run Tryd.prog w = .ok 68 w := fun w => by kernel_rfl
 rw [run_slice_h v 29 _ m d hu .i64 (i : Int) (by omega) (by omega), he, hz]
 simp only [Result.andThen, sliced, Int.toNat_natCast, Nat.zero_mul, Nat.sub_zero]
 rw [if_neg (by omega), Option.map_some, Addr.add_mid]
 rfl
theorem off_hi (b o m d i : Nat) (hi : i < m) (hd : m ≤ d) (v : World) : (Instr.slice 29 (.slice (some ⟨b, o, none⟩) m d) (some (.int .i64 ((i + 1 : Nat) : Int))) none none).run Tryd.prog v = .ok (.slice (some (offAd b o d i)) (m - (i + 1)) (d - (i + 1))) v := by
 have hu : Tryd.prog.underlying 29 = some (.slice (Tryd.prog.elem 29)) := by kernel_rfl
 have he : Tryd.prog.elem 29 = 52 := by kernel_rfl
 have hz : ∀ w, (sizeOf 52).run Tryd.prog w = .ok 68 w := fun w => by kernel_rfl
 rw [run_slice_l v 29 _ m d hu .i64 ((i + 1 : Nat) : Int) (by omega) (by omega), he, hz]
 have e2 : (((i + 1 : Nat) : Int)).toNat = i + 1 := by omega
 simp only [Result.andThen, sliced, e2, offAd]
 by_cases e3 : d - (i + 1) = 0
 · rw [if_pos e3, if_pos (show d = i + 1 by omega)]
 · rw [if_neg e3, if_neg (show ¬ d = i + 1 by omega), Option.map_some, Addr.add_mid]
theorem off_parts {w : World} {b o m d i : Nat} {xs : List Off} (h : RowsAt Off.cells 68 w (some ⟨b, o, none⟩) m xs) (hi : i < m) (hd : m ≤ d) : RowsAt Off.cells 68 w (some ⟨b, o, none⟩) i (xs.take i) ∧ RowsAt Off.cells 68 w (some (offAd b o d i)) (m - (i + 1)) (xs.drop (i + 1)) := by
 refine ⟨⟨by rw [List.length_take, h.len]; omega, fun x hx => h.sz x (List.mem_of_mem_take hx), fun _ => ?_⟩, ⟨by rw [List.length_drop, h.len], fun x hx => h.sz x (List.mem_of_mem_drop hx), fun hp => ?_⟩⟩
 · obtain ⟨b2, o2, e, hb, hr⟩ := h.at_ (by omega)
   refine ⟨b2, o2, e, hb, fun j x hx => hr j x ?_⟩
   have hj := (List.getElem?_eq_some_iff.1 hx).1
   rw [List.length_take] at hj
   rw [List.getElem?_take_of_lt (by omega)] at hx
   exact hx
 · obtain ⟨b2, o2, e, hb, hr⟩ := h.at_ (by omega)
   injection e with e
   injection e with e3 e4
   subst e3 e4
   refine ⟨b, o + (i + 1) * 68, by unfold offAd; rw [if_neg (by omega)], hb, fun j x hx => ?_⟩
   rw [List.getElem?_drop] at hx
   have := hr (i + 1 + j) x hx
   rw [show o + (i + 1) * 68 + j * 68 = o + (i + 1 + j) * 68 by omega]
   exact this
def FQ (w : World) (b0 g q : Nat) (t : TypeId) (L LI : List Value) (r : RB) (v : World) : Prop := (Has v b0 31 L.toArray ∧ RbAt v L r) ∧ Has v g t LI.toArray ∧ Below w.heap.size w v ∧ ∃ Z, Z.size = 4 ∧ Has v q 31 Z
theorem FQ.below {w v v' : World} {b0 g q : Nat} {t : TypeId} {L LI : List Value} {r : RB} (h : FQ w b0 g q t L LI r v) (hb : Below v.heap.size v v') : FQ w b0 g q t L LI r v' := by
 obtain ⟨⟨h1, h1r⟩, h2, h3, Z, hz, h4⟩ := h
 exact ⟨⟨h1.below hb h1.lt, h1r.below hb⟩, h2.below hb h2.lt, h3.trans (hb.mono h3.size), Z, hz, h4.below hb h4.lt⟩
theorem FQ.set {w v : World} {b0 g q : Nat} {t : TypeId} {L LI L' : List Value} {r r' : RB} (h : FQ w b0 g q t L LI r v) (hw : w.heap.size ≤ q) (h0 : b0 ≠ q) (hg : g ≠ q) (hr : RbAt v L' r') : FQ w b0 g q t L LI r (v.setCells q 0 L') ∧ Has (v.setCells q 0 L') q 31 L'.toArray ∧ RbAt (v.setCells q 0 L') L' r' := by
 obtain ⟨⟨h1, h1r⟩, h2, h3, Z, hz, h4⟩ := h
 obtain ⟨q1, q2, q3⟩ := rset_box h3 h4 hw h3.size (by rw [hz, hr.len])
 refine ⟨⟨⟨h1.kept q3 (fun e => h0 e), rb_far1 h4 q3 h1r⟩, h2.kept q3 (fun e => hg e), q1, L'.toArray, by rw [List.size_toArray]; exact hr.len, q2⟩, q2, rb_far1 h4 q3 hr⟩
theorem own_le {w : World} {base n size c : Nat} {e : TypeId} {a : Option Addr} {xs : List Value} (h : w.ownsRow base e size (.slice a n c) n xs) : n ≤ c := by
 rcases h.2 with ⟨e1, e2⟩ | ⟨g, cap, cur, e1, _, _, hle, _⟩
 · rw [e2]; exact Nat.zero_le _
 · injection e1 with _ _ e3
   rw [e3]; exact hle
theorem fq_store {w W9 wx : World} {b0 g q n2 : Nat} {t : TypeId} {A : Option Addr} {n c : Nat} {B : Option Addr} {m d : Nat} {LI : List Value} {r : RB} {os : List Off} {oa : Option Addr} {oc : Nat} {Z : Array Value}
  (hr : RbAt W9 [.slice A n c, .slice B m d, .int .u64 (r.k0 : Int), .int .u64 (r.k1 : Int)] r) (h0 : Has W9 b0 31 #[.slice A n c, .slice B m d, .int .u64 (r.k0 : Int), .int .u64 (r.k1 : Int)]) (hg : Has W9 g t LI.toArray) (hq : Has W9 q 31 Z) (hZ : Z.size = 4) (hbq : b0 ≠ q) (hbg : g ≠ b0) (hw : Below w.heap.size w W9) (hw0 : w.heap.size ≤ b0)
  (hb : Below W9.heap.size W9 wx) (hown : wx.ownsRow W9.heap.size 52 68 (.slice oa n2 oc) n2 (os.flatMap Off.cells)) (hl : os.length = n2) (hos : ∀ o ∈ os, o.ok) (h63 : n2 ≤ 100000) :
  FQ w b0 g q t [.slice A n c, .slice oa n2 oc, .int .u64 (r.k0 : Int), .int .u64 (r.k1 : Int)] LI { r with offers := os } (wx.setCell ⟨b0, 1, none⟩ (.slice oa n2 oc)) := by
 have h0x := h0.below hb h0.lt
 have hk : Kept (fun j => j = b0) wx (wx.setCell ⟨b0, 1, none⟩ (.slice oa n2 oc)) := (Kept.refl (fun j => j = b0) wx).set (p := ⟨b0, 1, none⟩) (.inl rfl) _
 have hset : Has (wx.setCell ⟨b0, 1, none⟩ (.slice oa n2 oc)) b0 31 #[.slice A n c, .slice oa n2 oc, .int .u64 (r.k0 : Int), .int .u64 (r.k1 : Int)] := h0x.set 1 _
 have hbw := hw.trans (hb.mono hw.size)
 obtain ⟨A2, n3, c2, B2, m2, d2, e, h1, h2, h3, h4, h5⟩ := (hr.below hb).ex
 injection e with e1 e
 injection e1 with e1 e2 e3
 subst e1 e2 e3
 have h1' : RowsT 107 HsT.cells 34 (wx.setCell ⟨b0, 1, none⟩ (.slice oa n2 oc)) A n r.has := h1.far hk (fun j cs hh ee => hh.ne h0x (by decide) ee)
 have hro : RowsT 52 Off.cells 68 (wx.setCell ⟨b0, 1, none⟩ (.slice oa n2 oc)) oa n2 os := own_rowsT (own_kept hown hk (fun j e ee => by have h1 := own_blk hown j e; have h2 := h0.lt; omega)) hl (fun o ho => Off.length o (hos o ho))
 refine ⟨⟨hset, ⟨⟨A, n, c, oa, n2, oc, rfl, h1', hro, own_le hown, h4, h63⟩, hr.ok, hos⟩⟩, (hg.below hb hg.lt).kept hk (fun e => hbg e), hbw.trans (hk.below hbw.size (fun j e => by have e' : j = b0 := e; omega)), Z, hZ, (hq.below hb hq.lt).kept hk (fun e => hbq (Eq.symm e))⟩

def withoutR (r : RB) (i : Nat) (s : Int) (o : Off) : RB := { r with has := setR r.has s o.id (getR r.has s o.id + o.am), offers := r.offers.take i ++ r.offers.drop (i + 1) }
set_option maxRecDepth 100000 in
set_option maxHeartbeats 4000000 in
theorem rbWithout_is (w : World) (L : List Value) (r : RB) (hr : RbAt w L r) (hcap : r.offers.length ≤ 200) (hcah : r.has.length ≤ 99999) (i : Nat) (x : Off) (hx : r.offers[i]? = some x) (s : Int) (hfit : getR r.has s x.id + x.am < 18446744073709551616) :
  Calls Tryd.prog 38 #[.agg L.toArray, .int .i64 (i : Int), .int .i64 s] w fun e w' => (∃ L', e = .returned (.agg L'.toArray) ∧ RbAt w' L' (withoutR r i s x)) ∧ Below w.heap.size w w' := by
 have hzb := zero_rb
 obtain ⟨Z, hz, hzs, hzn⟩ := zero_ro
 obtain ⟨ZI, hinf, hzi⟩ := info_ro
 obtain ⟨A, n, c, B, m, d, hL, hrows, hoffs, hmd, hn, hm⟩ := hr.ex
 have hi : i < m := by have := (List.getElem?_eq_some_iff.1 hx).1; rw [hoffs.rows.len] at this; exact this
 have hm200 : m ≤ 200 := by rw [← hoffs.rows.len]; exact hcap
 obtain ⟨W1, hW1, h1, h2, hb1⟩ := boxes_without w L #[.slice none 0 0, .slice none 0 0, .int .u64 0, .int .u64 0]
 have hc0 : W1.cell? ⟨w.heap.size, 1, none⟩ = some (.slice B m d) := h1.cell_is (by rw [hL]; rfl)
 have hxok := hr.off x (List.mem_of_getElem? hx)
 have HR := Lib.hid hr
 have HOFF := Lib.hid hr.off
 have HROW := Lib.hid (hoffs.rows.below hb1)
 have HB1 := Lib.hid hb1
 have EW := Lib.hid hW1
 have H1 := Lib.hid h1
 have H2 := Lib.hid h2
 have HZS := Lib.hid hzs
 have HINF := Lib.hid hinf
 have HZI := Lib.hid hzi
 have HLL := Lib.hid hL
 have HCH := Lib.hid hcah
 have HFIT := Lib.hid hfit
 have HBND := Lib.hid (And.intro hmd (And.intro hn hm200))
 have SZB := Lib.hid (show (Tryd.prog.info? 31).map (·.size) = some 4 by kernel_rfl)
 obtain ⟨sb, so, hA1, hA2, hrr⟩ := (hoffs.rows.below hb1).at_ (by omega)
 subst hA1
 obtain ⟨XC, hXC⟩ : ∃ L, L = x.cells := ⟨_, rfl⟩
 have hrw := hrr i x hx
 rw [← hXC] at hrw
 have LXC := Lib.hid (show XC.length = 68 by rw [hXC]; exact Off.length x hxok)
 have HRW := Lib.hid hrw
 have SZ1 := Lib.hid (show (Tryd.prog.info? 52).map (·.size) = some XC.length by rw [LXC.out]; kernel_rfl)
 have SZA := Lib.hid (show (Tryd.prog.info? 52).map (·.size) = some XC.toArray.size by rw [List.size_toArray]; exact SZ1.out)
 have HZZ := Lib.hid (show Z.size = XC.toArray.size by rw [HZS.out, List.size_toArray, LXC.out])
 have HONE := Lib.hid (show XC.toArray.all (·.oneCell') = true by rw [hXC]; exact all_oneCell_toArray (off_one x))
 have HNW := Lib.hid (show ∀ C, Has ((W1.alloc (.cells Z 52)).setRow W1.heap.size C) W1.heap.size 52 C ∧ Below W1.heap.size W1 ((W1.alloc (.cells Z 52)).setRow W1.heap.size C) from fun C => by
  rw [World.setRow_alloc_new]
  exact ⟨Has.new W1 _ _, (Below.refl _ _).alloc (Nat.le_refl _) _⟩)
 have HXOK := Lib.hid hxok
 have EXC := Lib.hid hXC
 have hat := at_ro sb so m d i hi
 have HI := Lib.hid hi
 have HX := Lib.hid hx
 have hi' : (i : Int) < (m : Int) := by omega
 have HGE := Lib.hid (show w.heap.size + 1 < W1.heap.size from h2.lt)
 clear hr hL hrows hoffs hb1 hW1 hzs h1 h2 hinf hzi hcap hcah hfit hmd hn hm hm200 hrr hA2 hrw hXC hxok hx
 go_enter Tryd.func38, Tryd.ntmps38
 go_upto_region 1 with (fail)
 rw [← EW.out]
 obtain ⟨b0, hb0⟩ : ∃ y, y = w.heap.size := ⟨_, rfl⟩
 rw [← hb0] at hc0 H1 H2 HGE ⊢
 have HBQ := Lib.hid hb0
 clear hb0 EW
 go_upto_region 2 with (first
  | (refine wpList_load_mid rfl 52 (.tmp 11) rfl sb (so + i * 68) rfl XC _ HRW.out Tryd.underlying52 rfl SZ1.out ?_)
  | (refine wpList_store_row rfl 52 (.tmp 7) (.tmp 12) rfl W1.heap.size XC.toArray rfl rfl 52 Z (heap_alloc_new W1 _) SZA.out HZZ.out HONE.out ?_))
 obtain ⟨h3, hk3⟩ := HNW.out XC.toArray
 clear HNW hat hc0
 generalize (W1.alloc (.cells Z 52)).setRow W1.heap.size XC.toArray = W9 at h3 hk3 ⊢
 obtain ⟨G, hG⟩ : ∃ y, y = W1.heap.size := ⟨_, rfl⟩
 rw [← hG] at h3 HGE ⊢
 have HB9 := Lib.hid hk3
 have H3 := Lib.hid h3
 clear hk3 h3 hG
 have H19 := Lib.hid (H1.out.below HB9.out H1.out.lt)
 have H29 := Lib.hid (H2.out.below HB9.out H2.out.lt)
 have HR9 := Lib.hid ((HR.out.below HB1.out).below HB9.out)
 have HC := Lib.hid (show ∀ v, Below W9.heap.size W9 v → v.cell? ⟨b0, 1, none⟩ = some (.slice (some ⟨sb, so, none⟩) m d) from fun v hv => (H19.out.below hv H19.out.lt).cell_is (by rw [HLL.out]; rfl))
 have hmb : m ≤ 200 := HBND.out.2.2
 have HLO := Lib.hid (fun v => off_lo sb so m d i HI.out HBND.out.1 v)
 have HHI := Lib.hid (show ∀ v, (Instr.slice 29 (.slice (some ⟨sb, so, none⟩) m d) (some (.int .i64 ((i : Int) + 1))) none none).run Tryd.prog v = .ok (.slice (some (offAd sb so d i)) (m - (i + 1)) (d - (i + 1))) v from fun v => off_hi sb so m d i HI.out HBND.out.1 v)
 have HPART := Lib.hid (show ∀ v, Below W9.heap.size W9 v → RowsAt Off.cells 68 v (some ⟨sb, so, none⟩) i (r.offers.take i) ∧ RowsAt Off.cells 68 v (some (offAd sb so d i)) (m - (i + 1)) (r.offers.drop (i + 1)) from fun v hv => off_parts ((HROW.out.below HB9.out).below hv) HI.out HBND.out.1)
 have HO1 := Lib.hid (show ∀ y ∈ r.offers.take i, ∀ u ∈ y.cells, u.oneCell' = true from fun y _ => off_one y)
 have HO2 := Lib.hid (show ∀ y ∈ r.offers.drop (i + 1), ∀ u ∈ y.cells, u.oneCell' = true from fun y _ => off_one y)
 have hS0 : Below W9.heap.size W9 W9.drew := (Below.refl _ _).drew
 have HST := Lib.hid (show ∀ (wx : World) (n2 : Nat) (oa : Option Addr) (oc : Nat), n2 = i + (m - (i + 1)) → Below W9.heap.size W9 wx → wx.ownsRow W9.heap.size 52 68 (.slice oa n2 oc) n2 ((r.offers.take i).flatMap Off.cells ++ (r.offers.drop (i + 1)).flatMap Off.cells) → FQ w b0 G (b0 + 1) 52 [.slice A n c, .slice oa n2 oc, .int .u64 (r.k0 : Int), .int .u64 (r.k1 : Int)] XC { r with offers := r.offers.take i ++ r.offers.drop (i + 1) } (wx.setCell ⟨b0, 1, none⟩ (.slice oa n2 oc)) from fun wx n2 oa oc e hb ho => by
  have hlen := (HROW.out).len
  rw [← List.flatMap_append] at ho
  have hr9 := HR9.out
  have h19 := H19.out
  rw [HLL.out] at hr9 h19
  have hge := HGE.out
  refine fq_store hr9 h19 H3.out H29.out rfl (by omega) (by omega) (HB1.out.trans (HB9.out.mono HB1.out.size)) (by rw [HBQ.out]; exact Nat.le_refl _) hb ho (by rw [List.length_append, List.length_take, List.length_drop, hlen, e]; have := HI.out; omega) (fun o hh => ?_) (by have := HI.out; omega)
  rcases List.mem_append.1 hh with hh | hh
  · exact HOFF.out o (List.mem_of_mem_take hh)
  · exact HOFF.out o (List.mem_of_mem_drop hh))
 have hwi : IntKind.i64.wrap ((i : Int) + 1) = (i : Int) + 1 := by rw [IntKind.wrap_i64]; omega
 have htn : ((i : Int) + 1).toNat = i + 1 := by omega
 have hle1 : (i : Int) + 1 ≤ (m : Int) := by omega
 have hge1 : (0 : Int) ≤ (i : Int) + 1 := by omega
 have HAD := Lib.hid (show (if d = i + 1 then some ⟨sb, so, none⟩ else some ⟨sb, so + (i + 1) * 68, none⟩ : Option Addr) = some (offAd sb so d i) by
  unfold offAd
  have := HBND.out.1
  by_cases e : d = i + 1
  · rw [if_pos e, if_pos (by omega)]
  · rw [if_neg e, if_neg (by omega)])
 have HZQ := Lib.hid (show (Value.agg ZI).cells.size = 68 from HZI.out)
 obtain ⟨AD2, hAD2⟩ : ∃ y : Option Addr, y = some (offAd sb so d i) := ⟨_, rfl⟩
 have HAD2 := Lib.hid (show (if d = i + 1 then some ⟨sb, so, none⟩ else some ⟨sb, so + (i + 1) * 68, none⟩ : Option Addr) = AD2 by rw [hAD2]; exact HAD.out)
 have HPA := Lib.hid hAD2
 clear hS0 hAD2
 try simp only [Act.put, qa]
 go_cut [] from 13 (fun wx => ∃ n2 oa oc, FQ w b0 G (b0 + 1) 52 [.slice A n c, .slice oa n2 oc, .int .u64 (r.k0 : Int), .int .u64 (r.k1 : Int)] XC { r with offers := r.offers.take i ++ r.offers.drop (i + 1) } wx)
 case first =>
  have hB : Below W9.heap.size W9 W9.drew := (Below.refl _ _).drew
  refine wp_region_noPanic ?_
  refine wp_region_held_drew (S := (fun _ => True)) (by kernel_rfl) trivial (fun hH0 => ?_)
  apply tk 1 (v := _) rfl (Or.inl ⟨by kernel_rfl, ?hv⟩) hH0 ?_
  case hv => intro w' hS; have z1 := HLO.out w'; go_simp; try exact rfl
  simp only [Act.put, qa]
  apply tk 3 (v := _) rfl (Or.inl ⟨by kernel_rfl, ?hv⟩) hH0 ?_
  case hv => intro w' hS; have z1 := HLO.out w'; go_simp; try exact rfl
  simp only [Act.put, qa]
  apply tk 6 (v := _) rfl (Or.inl ⟨by kernel_rfl, ?hv⟩) hH0 ?_
  case hv => intro w' hS; have z1 := HLO.out w'; go_simp; try exact rfl
  simp only [Act.put, qa]
  apply tk 8 (v := _) rfl (Or.inl ⟨by kernel_rfl, ?hv⟩) hH0 ?_
  case hv => intro w' hS; have z1 := HLO.out w'; go_simp; try exact rfl
  simp only [Act.put, qa]
  apply tk 9 (v := _) rfl (Or.inl ⟨by kernel_rfl, ?hv⟩) hH0 ?_
  case hv => intro w' hS; have z1 := HLO.out w'; go_simp; try exact rfl
  simp only [Act.put, qa]
  refine wpAnyH_ready (rs := [0, 2, 7]) (by kernel_rfl) (by simp) ?_
  refine AllReadyH.cons rfl (fun KK hKK => ?_) (AllReadyH.cons rfl (fun KK hKK => ?_) (AllReadyH.cons rfl (fun KK hKK => ?_) AllReadyH.nil))
  · go_simp
    obtain ⟨x0, hx0⟩ : ∃ y, y = W9.drew.alloc (.cells #[] 52) := ⟨_, rfl⟩
    have hnx0 : Below W9.drew.heap.size W9.drew x0 := by rw [hx0]; exact (Below.refl _ _).alloc (Nat.le_refl _) _
    have hown : x0.ownsRow W9.heap.size 52 68 (.slice (some ⟨W9.drew.heap.size, 0, none⟩) 0 0) 0 [] := by rw [hx0]; exact own_empty hB.size _ _
    replace hB : Below W9.heap.size W9 x0 := hB.trans (hnx0.mono hB.size)
    first | rw [← hx0] | (change KK _ (W9.drew.alloc (.cells #[] 52)); rw [← hx0])
    clear hx0 hnx0
    refine Shut.out hKK _ _ trivial (fun hH1 => ?_)
    clear hKK KK
    try simp only [Act.put, qa]
    refine wpAnyH_ready (rs := [2, 7]) (by kernel_rfl) (by simp) ?_
    refine AllReadyH.cons rfl (fun KK hKK => ?_) (AllReadyH.cons rfl (fun KK hKK => ?_) AllReadyH.nil)
    · have hz1 : x0.cell? ⟨b0, 1, none⟩ = some (.slice (some ⟨sb, so, none⟩) m d) := HC.out _ hB
      go_simp
      clear hz1
      refine Shut.out hKK _ _ trivial (fun hH2 => ?_)
      clear hKK KK
      try simp only [Act.put, qa]
      apply tk 4 (v := _) rfl (Or.inl ⟨by kernel_rfl, ?hv⟩) hH2 ?_
      case hv => intro w' hS; have z1 := HLO.out w'; go_simp; try exact rfl
      simp only [Act.put, qa]
      refine wpAnyH_ready (rs := [5, 7]) (by kernel_rfl) (by simp) ?_
      refine AllReadyH.cons rfl (fun KK hKK => ?_) (AllReadyH.cons rfl (fun KK hKK => ?_) AllReadyH.nil)
      · refine step_append_rows (cl := Off.cells) rfl (.tmp 13) (.tmp 17) 29 rfl W9.heap.size 52 (.agg ZI) 96 Tryd.underlying29 HINF.out HZQ.out (by decide) _ 0 [] rfl hown _ i d _ rfl (HPART.out _ hB).1 HO1.out (by unfold maxLen; omega) (by omega) hB.size ?_
        intro oa5 oc5 x5 hown5 hgr5
        replace hB := hB.grown hgr5 hB.size (own_blk hown)
        clear hown hgr5
        rw [Nat.zero_add] at hown5
        rw [Nat.zero_add]
        rw [List.nil_append] at hown5
        have hown := hown5
        clear hown5
        refine Shut.out hKK _ _ trivial (fun hH3 => ?_)
        clear hKK KK
        try simp only [Act.put, qa]
        refine wpAnyH_ready (rs := [7]) (by kernel_rfl) (by simp) ?_
        refine AllReadyH.cons rfl (fun KK hKK => ?_) AllReadyH.nil
        have hz1 : x5.cell? ⟨b0, 1, none⟩ = some (.slice (some ⟨sb, so, none⟩) m d) := HC.out _ hB
        go_simp
        clear hz1
        refine Shut.out hKK _ _ trivial (fun hH4 => ?_)
        clear hKK KK
        try simp only [Act.put, qa]
        refine tk 10 (v := (.slice AD2 (m - (i + 1)) (d - (i + 1)))) rfl (Or.inl ⟨by kernel_rfl, by intro w' hS; have z1 := HLO.out w'; go_simp; exact HAD2.out⟩) hH4 ?_
        simp only [Act.put, qa]
        refine wpAnyH_ready (rs := [11]) (by kernel_rfl) (by simp) ?_
        refine AllReadyH.cons rfl (fun KK hKK => ?_) AllReadyH.nil
        refine step_append_rows (cl := Off.cells) rfl (.tmp 18) (.tmp 23) 29 rfl W9.heap.size 52 (.agg ZI) 96 Tryd.underlying29 HINF.out HZQ.out (by decide) _ i _ rfl hown _ (m - (i + 1)) (d - (i + 1)) _ rfl (by rw [HPA.out]; exact (HPART.out _ hB).2) HO2.out (by unfold maxLen; omega) (by omega) hB.size ?_
        intro oa11 oc11 x11 hown11 hgr11
        replace hB := hB.grown hgr11 hB.size (own_blk hown)
        clear hown hgr11
        refine Shut.out hKK _ _ trivial (fun hH5 => ?_)
        clear hKK KK
        try simp only [Act.put, qa]
        apply tk 12 (v := _) rfl (Or.inl ⟨by kernel_rfl, ?hv⟩) hH5 ?_
        case hv => intro w' hS; have z1 := HLO.out w'; go_simp; try exact rfl
        simp only [Act.put, qa]
        refine wpAnyH_ready (rs := [13]) (by kernel_rfl) (by simp) ?_
        refine AllReadyH.cons rfl (fun KK hKK => ?_) AllReadyH.nil
        have hfin := HST.out _ _ oa11 oc11 rfl hB hown11
        have hz1 : x11.cell? ⟨b0, 1, none⟩ = some (.slice (some ⟨sb, so, none⟩) m d) := HC.out _ hB
        have hz2 : x11.frozen? ⟨b0, 1, none⟩ = false := (H19.out.below hB H19.out.lt).free 1
        go_simp
        obtain ⟨xb, hxb⟩ : ∃ y, y = x11.setCell ⟨b0, 1, none⟩ (.slice oa11 (i + (m - (i + 1))) oc11) := ⟨_, rfl⟩
        rw [← hxb] at hfin
        change KK _ (x11.setCell ⟨b0, 1, none⟩ (.slice oa11 (i + (m - (i + 1))) oc11))
        rw [← hxb]
        clear hxb hz1 hz2 hown11 hB
        refine Shut.out hKK _ _ trivial (fun hH6 => ?_)
        clear hKK KK
        try simp only [Act.put, qa]
        refine wpAnyH_done (by kernel_rfl) ?_ _
        refine NoPanic.normal ?_
        have HF := Lib.hid hfin
        clear hfin
        go_wp2_with fail
        go_meet
        case rel => exact ⟨_, _, _, HF.out⟩
      · have hz1 : x0.cell? ⟨b0, 1, none⟩ = some (.slice (some ⟨sb, so, none⟩) m d) := HC.out _ hB
        go_simp
        clear hz1
        refine Shut.out hKK _ _ trivial (fun hH3 => ?_)
        clear hKK KK
        try simp only [Act.put, qa]
        refine tk 10 (v := (.slice AD2 (m - (i + 1)) (d - (i + 1)))) rfl (Or.inl ⟨by kernel_rfl, by intro w' hS; have z1 := HLO.out w'; go_simp; exact HAD2.out⟩) hH3 ?_
        simp only [Act.put, qa]
        refine wpAnyH_ready (rs := [5]) (by kernel_rfl) (by simp) ?_
        refine AllReadyH.cons rfl (fun KK hKK => ?_) AllReadyH.nil
        refine step_append_rows (cl := Off.cells) rfl (.tmp 13) (.tmp 17) 29 rfl W9.heap.size 52 (.agg ZI) 96 Tryd.underlying29 HINF.out HZQ.out (by decide) _ 0 [] rfl hown _ i d _ rfl (HPART.out _ hB).1 HO1.out (by unfold maxLen; omega) (by omega) hB.size ?_
        intro oa5 oc5 x5 hown5 hgr5
        replace hB := hB.grown hgr5 hB.size (own_blk hown)
        clear hown hgr5
        rw [Nat.zero_add] at hown5
        rw [Nat.zero_add]
        rw [List.nil_append] at hown5
        have hown := hown5
        clear hown5
        refine Shut.out hKK _ _ trivial (fun hH4 => ?_)
        clear hKK KK
        try simp only [Act.put, qa]
        refine wpAnyH_ready (rs := [11]) (by kernel_rfl) (by simp) ?_
        refine AllReadyH.cons rfl (fun KK hKK => ?_) AllReadyH.nil
        refine step_append_rows (cl := Off.cells) rfl (.tmp 18) (.tmp 23) 29 rfl W9.heap.size 52 (.agg ZI) 96 Tryd.underlying29 HINF.out HZQ.out (by decide) _ i _ rfl hown _ (m - (i + 1)) (d - (i + 1)) _ rfl (by rw [HPA.out]; exact (HPART.out _ hB).2) HO2.out (by unfold maxLen; omega) (by omega) hB.size ?_
        intro oa11 oc11 x11 hown11 hgr11
        replace hB := hB.grown hgr11 hB.size (own_blk hown)
        clear hown hgr11
        refine Shut.out hKK _ _ trivial (fun hH5 => ?_)
        clear hKK KK
        try simp only [Act.put, qa]
        apply tk 12 (v := _) rfl (Or.inl ⟨by kernel_rfl, ?hv⟩) hH5 ?_
        case hv => intro w' hS; have z1 := HLO.out w'; go_simp; try exact rfl
        simp only [Act.put, qa]
        refine wpAnyH_ready (rs := [13]) (by kernel_rfl) (by simp) ?_
        refine AllReadyH.cons rfl (fun KK hKK => ?_) AllReadyH.nil
        have hfin := HST.out _ _ oa11 oc11 rfl hB hown11
        have hz1 : x11.cell? ⟨b0, 1, none⟩ = some (.slice (some ⟨sb, so, none⟩) m d) := HC.out _ hB
        have hz2 : x11.frozen? ⟨b0, 1, none⟩ = false := (H19.out.below hB H19.out.lt).free 1
        go_simp
        obtain ⟨xb, hxb⟩ : ∃ y, y = x11.setCell ⟨b0, 1, none⟩ (.slice oa11 (i + (m - (i + 1))) oc11) := ⟨_, rfl⟩
        rw [← hxb] at hfin
        change KK _ (x11.setCell ⟨b0, 1, none⟩ (.slice oa11 (i + (m - (i + 1))) oc11))
        rw [← hxb]
        clear hxb hz1 hz2 hown11 hB
        refine Shut.out hKK _ _ trivial (fun hH6 => ?_)
        clear hKK KK
        try simp only [Act.put, qa]
        refine wpAnyH_done (by kernel_rfl) ?_ _
        refine NoPanic.normal ?_
        have HF := Lib.hid hfin
        clear hfin
        go_wp2_with fail
        go_meet
        case rel => exact ⟨_, _, _, HF.out⟩
    · have hz1 : x0.cell? ⟨b0, 1, none⟩ = some (.slice (some ⟨sb, so, none⟩) m d) := HC.out _ hB
      go_simp
      clear hz1
      refine Shut.out hKK _ _ trivial (fun hH2 => ?_)
      clear hKK KK
      try simp only [Act.put, qa]
      refine tk 10 (v := (.slice AD2 (m - (i + 1)) (d - (i + 1)))) rfl (Or.inl ⟨by kernel_rfl, by intro w' hS; have z1 := HLO.out w'; go_simp; exact HAD2.out⟩) hH2 ?_
      simp only [Act.put, qa]
      refine wpAnyH_ready (rs := [2]) (by kernel_rfl) (by simp) ?_
      refine AllReadyH.cons rfl (fun KK hKK => ?_) AllReadyH.nil
      have hz1 : x0.cell? ⟨b0, 1, none⟩ = some (.slice (some ⟨sb, so, none⟩) m d) := HC.out _ hB
      go_simp
      clear hz1
      refine Shut.out hKK _ _ trivial (fun hH3 => ?_)
      clear hKK KK
      try simp only [Act.put, qa]
      apply tk 4 (v := _) rfl (Or.inl ⟨by kernel_rfl, ?hv⟩) hH3 ?_
      case hv => intro w' hS; have z1 := HLO.out w'; go_simp; try exact rfl
      simp only [Act.put, qa]
      refine wpAnyH_ready (rs := [5]) (by kernel_rfl) (by simp) ?_
      refine AllReadyH.cons rfl (fun KK hKK => ?_) AllReadyH.nil
      refine step_append_rows (cl := Off.cells) rfl (.tmp 13) (.tmp 17) 29 rfl W9.heap.size 52 (.agg ZI) 96 Tryd.underlying29 HINF.out HZQ.out (by decide) _ 0 [] rfl hown _ i d _ rfl (HPART.out _ hB).1 HO1.out (by unfold maxLen; omega) (by omega) hB.size ?_
      intro oa5 oc5 x5 hown5 hgr5
      replace hB := hB.grown hgr5 hB.size (own_blk hown)
      clear hown hgr5
      rw [Nat.zero_add] at hown5
      rw [Nat.zero_add]
      rw [List.nil_append] at hown5
      have hown := hown5
      clear hown5
      refine Shut.out hKK _ _ trivial (fun hH4 => ?_)
      clear hKK KK
      try simp only [Act.put, qa]
      refine wpAnyH_ready (rs := [11]) (by kernel_rfl) (by simp) ?_
      refine AllReadyH.cons rfl (fun KK hKK => ?_) AllReadyH.nil
      refine step_append_rows (cl := Off.cells) rfl (.tmp 18) (.tmp 23) 29 rfl W9.heap.size 52 (.agg ZI) 96 Tryd.underlying29 HINF.out HZQ.out (by decide) _ i _ rfl hown _ (m - (i + 1)) (d - (i + 1)) _ rfl (by rw [HPA.out]; exact (HPART.out _ hB).2) HO2.out (by unfold maxLen; omega) (by omega) hB.size ?_
      intro oa11 oc11 x11 hown11 hgr11
      replace hB := hB.grown hgr11 hB.size (own_blk hown)
      clear hown hgr11
      refine Shut.out hKK _ _ trivial (fun hH5 => ?_)
      clear hKK KK
      try simp only [Act.put, qa]
      apply tk 12 (v := _) rfl (Or.inl ⟨by kernel_rfl, ?hv⟩) hH5 ?_
      case hv => intro w' hS; have z1 := HLO.out w'; go_simp; try exact rfl
      simp only [Act.put, qa]
      refine wpAnyH_ready (rs := [13]) (by kernel_rfl) (by simp) ?_
      refine AllReadyH.cons rfl (fun KK hKK => ?_) AllReadyH.nil
      have hfin := HST.out _ _ oa11 oc11 rfl hB hown11
      have hz1 : x11.cell? ⟨b0, 1, none⟩ = some (.slice (some ⟨sb, so, none⟩) m d) := HC.out _ hB
      have hz2 : x11.frozen? ⟨b0, 1, none⟩ = false := (H19.out.below hB H19.out.lt).free 1
      go_simp
      obtain ⟨xb, hxb⟩ : ∃ y, y = x11.setCell ⟨b0, 1, none⟩ (.slice oa11 (i + (m - (i + 1))) oc11) := ⟨_, rfl⟩
      rw [← hxb] at hfin
      change KK _ (x11.setCell ⟨b0, 1, none⟩ (.slice oa11 (i + (m - (i + 1))) oc11))
      rw [← hxb]
      clear hxb hz1 hz2 hown11 hB
      refine Shut.out hKK _ _ trivial (fun hH6 => ?_)
      clear hKK KK
      try simp only [Act.put, qa]
      refine wpAnyH_done (by kernel_rfl) ?_ _
      refine NoPanic.normal ?_
      have HF := Lib.hid hfin
      clear hfin
      go_wp2_with fail
      go_meet
      case rel => exact ⟨_, _, _, HF.out⟩
  · have hz1 : W9.drew.cell? ⟨b0, 1, none⟩ = some (.slice (some ⟨sb, so, none⟩) m d) := HC.out _ hB
    go_simp
    clear hz1
    refine Shut.out hKK _ _ trivial (fun hH1 => ?_)
    clear hKK KK
    try simp only [Act.put, qa]
    apply tk 4 (v := _) rfl (Or.inl ⟨by kernel_rfl, ?hv⟩) hH1 ?_
    case hv => intro w' hS; have z1 := HLO.out w'; go_simp; try exact rfl
    simp only [Act.put, qa]
    refine wpAnyH_ready (rs := [0, 7]) (by kernel_rfl) (by simp) ?_
    refine AllReadyH.cons rfl (fun KK hKK => ?_) (AllReadyH.cons rfl (fun KK hKK => ?_) AllReadyH.nil)
    · go_simp
      obtain ⟨x0, hx0⟩ : ∃ y, y = W9.drew.alloc (.cells #[] 52) := ⟨_, rfl⟩
      have hnx0 : Below W9.drew.heap.size W9.drew x0 := by rw [hx0]; exact (Below.refl _ _).alloc (Nat.le_refl _) _
      have hown : x0.ownsRow W9.heap.size 52 68 (.slice (some ⟨W9.drew.heap.size, 0, none⟩) 0 0) 0 [] := by rw [hx0]; exact own_empty hB.size _ _
      replace hB : Below W9.heap.size W9 x0 := hB.trans (hnx0.mono hB.size)
      first | rw [← hx0] | (change KK _ (W9.drew.alloc (.cells #[] 52)); rw [← hx0])
      clear hx0 hnx0
      refine Shut.out hKK _ _ trivial (fun hH2 => ?_)
      clear hKK KK
      try simp only [Act.put, qa]
      refine wpAnyH_ready (rs := [5, 7]) (by kernel_rfl) (by simp) ?_
      refine AllReadyH.cons rfl (fun KK hKK => ?_) (AllReadyH.cons rfl (fun KK hKK => ?_) AllReadyH.nil)
      · refine step_append_rows (cl := Off.cells) rfl (.tmp 13) (.tmp 17) 29 rfl W9.heap.size 52 (.agg ZI) 96 Tryd.underlying29 HINF.out HZQ.out (by decide) _ 0 [] rfl hown _ i d _ rfl (HPART.out _ hB).1 HO1.out (by unfold maxLen; omega) (by omega) hB.size ?_
        intro oa5 oc5 x5 hown5 hgr5
        replace hB := hB.grown hgr5 hB.size (own_blk hown)
        clear hown hgr5
        rw [Nat.zero_add] at hown5
        rw [Nat.zero_add]
        rw [List.nil_append] at hown5
        have hown := hown5
        clear hown5
        refine Shut.out hKK _ _ trivial (fun hH3 => ?_)
        clear hKK KK
        try simp only [Act.put, qa]
        refine wpAnyH_ready (rs := [7]) (by kernel_rfl) (by simp) ?_
        refine AllReadyH.cons rfl (fun KK hKK => ?_) AllReadyH.nil
        have hz1 : x5.cell? ⟨b0, 1, none⟩ = some (.slice (some ⟨sb, so, none⟩) m d) := HC.out _ hB
        go_simp
        clear hz1
        refine Shut.out hKK _ _ trivial (fun hH4 => ?_)
        clear hKK KK
        try simp only [Act.put, qa]
        refine tk 10 (v := (.slice AD2 (m - (i + 1)) (d - (i + 1)))) rfl (Or.inl ⟨by kernel_rfl, by intro w' hS; have z1 := HLO.out w'; go_simp; exact HAD2.out⟩) hH4 ?_
        simp only [Act.put, qa]
        refine wpAnyH_ready (rs := [11]) (by kernel_rfl) (by simp) ?_
        refine AllReadyH.cons rfl (fun KK hKK => ?_) AllReadyH.nil
        refine step_append_rows (cl := Off.cells) rfl (.tmp 18) (.tmp 23) 29 rfl W9.heap.size 52 (.agg ZI) 96 Tryd.underlying29 HINF.out HZQ.out (by decide) _ i _ rfl hown _ (m - (i + 1)) (d - (i + 1)) _ rfl (by rw [HPA.out]; exact (HPART.out _ hB).2) HO2.out (by unfold maxLen; omega) (by omega) hB.size ?_
        intro oa11 oc11 x11 hown11 hgr11
        replace hB := hB.grown hgr11 hB.size (own_blk hown)
        clear hown hgr11
        refine Shut.out hKK _ _ trivial (fun hH5 => ?_)
        clear hKK KK
        try simp only [Act.put, qa]
        apply tk 12 (v := _) rfl (Or.inl ⟨by kernel_rfl, ?hv⟩) hH5 ?_
        case hv => intro w' hS; have z1 := HLO.out w'; go_simp; try exact rfl
        simp only [Act.put, qa]
        refine wpAnyH_ready (rs := [13]) (by kernel_rfl) (by simp) ?_
        refine AllReadyH.cons rfl (fun KK hKK => ?_) AllReadyH.nil
        have hfin := HST.out _ _ oa11 oc11 rfl hB hown11
        have hz1 : x11.cell? ⟨b0, 1, none⟩ = some (.slice (some ⟨sb, so, none⟩) m d) := HC.out _ hB
        have hz2 : x11.frozen? ⟨b0, 1, none⟩ = false := (H19.out.below hB H19.out.lt).free 1
        go_simp
        obtain ⟨xb, hxb⟩ : ∃ y, y = x11.setCell ⟨b0, 1, none⟩ (.slice oa11 (i + (m - (i + 1))) oc11) := ⟨_, rfl⟩
        rw [← hxb] at hfin
        change KK _ (x11.setCell ⟨b0, 1, none⟩ (.slice oa11 (i + (m - (i + 1))) oc11))
        rw [← hxb]
        clear hxb hz1 hz2 hown11 hB
        refine Shut.out hKK _ _ trivial (fun hH6 => ?_)
        clear hKK KK
        try simp only [Act.put, qa]
        refine wpAnyH_done (by kernel_rfl) ?_ _
        refine NoPanic.normal ?_
        have HF := Lib.hid hfin
        clear hfin
        go_wp2_with fail
        go_meet
        case rel => exact ⟨_, _, _, HF.out⟩
      · have hz1 : x0.cell? ⟨b0, 1, none⟩ = some (.slice (some ⟨sb, so, none⟩) m d) := HC.out _ hB
        go_simp
        clear hz1
        refine Shut.out hKK _ _ trivial (fun hH3 => ?_)
        clear hKK KK
        try simp only [Act.put, qa]
        refine tk 10 (v := (.slice AD2 (m - (i + 1)) (d - (i + 1)))) rfl (Or.inl ⟨by kernel_rfl, by intro w' hS; have z1 := HLO.out w'; go_simp; exact HAD2.out⟩) hH3 ?_
        simp only [Act.put, qa]
        refine wpAnyH_ready (rs := [5]) (by kernel_rfl) (by simp) ?_
        refine AllReadyH.cons rfl (fun KK hKK => ?_) AllReadyH.nil
        refine step_append_rows (cl := Off.cells) rfl (.tmp 13) (.tmp 17) 29 rfl W9.heap.size 52 (.agg ZI) 96 Tryd.underlying29 HINF.out HZQ.out (by decide) _ 0 [] rfl hown _ i d _ rfl (HPART.out _ hB).1 HO1.out (by unfold maxLen; omega) (by omega) hB.size ?_
        intro oa5 oc5 x5 hown5 hgr5
        replace hB := hB.grown hgr5 hB.size (own_blk hown)
        clear hown hgr5
        rw [Nat.zero_add] at hown5
        rw [Nat.zero_add]
        rw [List.nil_append] at hown5
        have hown := hown5
        clear hown5
        refine Shut.out hKK _ _ trivial (fun hH4 => ?_)
        clear hKK KK
        try simp only [Act.put, qa]
        refine wpAnyH_ready (rs := [11]) (by kernel_rfl) (by simp) ?_
        refine AllReadyH.cons rfl (fun KK hKK => ?_) AllReadyH.nil
        refine step_append_rows (cl := Off.cells) rfl (.tmp 18) (.tmp 23) 29 rfl W9.heap.size 52 (.agg ZI) 96 Tryd.underlying29 HINF.out HZQ.out (by decide) _ i _ rfl hown _ (m - (i + 1)) (d - (i + 1)) _ rfl (by rw [HPA.out]; exact (HPART.out _ hB).2) HO2.out (by unfold maxLen; omega) (by omega) hB.size ?_
        intro oa11 oc11 x11 hown11 hgr11
        replace hB := hB.grown hgr11 hB.size (own_blk hown)
        clear hown hgr11
        refine Shut.out hKK _ _ trivial (fun hH5 => ?_)
        clear hKK KK
        try simp only [Act.put, qa]
        apply tk 12 (v := _) rfl (Or.inl ⟨by kernel_rfl, ?hv⟩) hH5 ?_
        case hv => intro w' hS; have z1 := HLO.out w'; go_simp; try exact rfl
        simp only [Act.put, qa]
        refine wpAnyH_ready (rs := [13]) (by kernel_rfl) (by simp) ?_
        refine AllReadyH.cons rfl (fun KK hKK => ?_) AllReadyH.nil
        have hfin := HST.out _ _ oa11 oc11 rfl hB hown11
        have hz1 : x11.cell? ⟨b0, 1, none⟩ = some (.slice (some ⟨sb, so, none⟩) m d) := HC.out _ hB
        have hz2 : x11.frozen? ⟨b0, 1, none⟩ = false := (H19.out.below hB H19.out.lt).free 1
        go_simp
        obtain ⟨xb, hxb⟩ : ∃ y, y = x11.setCell ⟨b0, 1, none⟩ (.slice oa11 (i + (m - (i + 1))) oc11) := ⟨_, rfl⟩
        rw [← hxb] at hfin
        change KK _ (x11.setCell ⟨b0, 1, none⟩ (.slice oa11 (i + (m - (i + 1))) oc11))
        rw [← hxb]
        clear hxb hz1 hz2 hown11 hB
        refine Shut.out hKK _ _ trivial (fun hH6 => ?_)
        clear hKK KK
        try simp only [Act.put, qa]
        refine wpAnyH_done (by kernel_rfl) ?_ _
        refine NoPanic.normal ?_
        have HF := Lib.hid hfin
        clear hfin
        go_wp2_with fail
        go_meet
        case rel => exact ⟨_, _, _, HF.out⟩
    · have hz1 : W9.drew.cell? ⟨b0, 1, none⟩ = some (.slice (some ⟨sb, so, none⟩) m d) := HC.out _ hB
      go_simp
      clear hz1
      refine Shut.out hKK _ _ trivial (fun hH2 => ?_)
      clear hKK KK
      try simp only [Act.put, qa]
      refine tk 10 (v := (.slice AD2 (m - (i + 1)) (d - (i + 1)))) rfl (Or.inl ⟨by kernel_rfl, by intro w' hS; have z1 := HLO.out w'; go_simp; exact HAD2.out⟩) hH2 ?_
      simp only [Act.put, qa]
      refine wpAnyH_ready (rs := [0]) (by kernel_rfl) (by simp) ?_
      refine AllReadyH.cons rfl (fun KK hKK => ?_) AllReadyH.nil
      go_simp
      obtain ⟨x0, hx0⟩ : ∃ y, y = W9.drew.alloc (.cells #[] 52) := ⟨_, rfl⟩
      have hnx0 : Below W9.drew.heap.size W9.drew x0 := by rw [hx0]; exact (Below.refl _ _).alloc (Nat.le_refl _) _
      have hown : x0.ownsRow W9.heap.size 52 68 (.slice (some ⟨W9.drew.heap.size, 0, none⟩) 0 0) 0 [] := by rw [hx0]; exact own_empty hB.size _ _
      replace hB : Below W9.heap.size W9 x0 := hB.trans (hnx0.mono hB.size)
      first | rw [← hx0] | (change KK _ (W9.drew.alloc (.cells #[] 52)); rw [← hx0])
      clear hx0 hnx0
      refine Shut.out hKK _ _ trivial (fun hH3 => ?_)
      clear hKK KK
      try simp only [Act.put, qa]
      refine wpAnyH_ready (rs := [5]) (by kernel_rfl) (by simp) ?_
      refine AllReadyH.cons rfl (fun KK hKK => ?_) AllReadyH.nil
      refine step_append_rows (cl := Off.cells) rfl (.tmp 13) (.tmp 17) 29 rfl W9.heap.size 52 (.agg ZI) 96 Tryd.underlying29 HINF.out HZQ.out (by decide) _ 0 [] rfl hown _ i d _ rfl (HPART.out _ hB).1 HO1.out (by unfold maxLen; omega) (by omega) hB.size ?_
      intro oa5 oc5 x5 hown5 hgr5
      replace hB := hB.grown hgr5 hB.size (own_blk hown)
      clear hown hgr5
      rw [Nat.zero_add] at hown5
      rw [Nat.zero_add]
      rw [List.nil_append] at hown5
      have hown := hown5
      clear hown5
      refine Shut.out hKK _ _ trivial (fun hH4 => ?_)
      clear hKK KK
      try simp only [Act.put, qa]
      refine wpAnyH_ready (rs := [11]) (by kernel_rfl) (by simp) ?_
      refine AllReadyH.cons rfl (fun KK hKK => ?_) AllReadyH.nil
      refine step_append_rows (cl := Off.cells) rfl (.tmp 18) (.tmp 23) 29 rfl W9.heap.size 52 (.agg ZI) 96 Tryd.underlying29 HINF.out HZQ.out (by decide) _ i _ rfl hown _ (m - (i + 1)) (d - (i + 1)) _ rfl (by rw [HPA.out]; exact (HPART.out _ hB).2) HO2.out (by unfold maxLen; omega) (by omega) hB.size ?_
      intro oa11 oc11 x11 hown11 hgr11
      replace hB := hB.grown hgr11 hB.size (own_blk hown)
      clear hown hgr11
      refine Shut.out hKK _ _ trivial (fun hH5 => ?_)
      clear hKK KK
      try simp only [Act.put, qa]
      apply tk 12 (v := _) rfl (Or.inl ⟨by kernel_rfl, ?hv⟩) hH5 ?_
      case hv => intro w' hS; have z1 := HLO.out w'; go_simp; try exact rfl
      simp only [Act.put, qa]
      refine wpAnyH_ready (rs := [13]) (by kernel_rfl) (by simp) ?_
      refine AllReadyH.cons rfl (fun KK hKK => ?_) AllReadyH.nil
      have hfin := HST.out _ _ oa11 oc11 rfl hB hown11
      have hz1 : x11.cell? ⟨b0, 1, none⟩ = some (.slice (some ⟨sb, so, none⟩) m d) := HC.out _ hB
      have hz2 : x11.frozen? ⟨b0, 1, none⟩ = false := (H19.out.below hB H19.out.lt).free 1
      go_simp
      obtain ⟨xb, hxb⟩ : ∃ y, y = x11.setCell ⟨b0, 1, none⟩ (.slice oa11 (i + (m - (i + 1))) oc11) := ⟨_, rfl⟩
      rw [← hxb] at hfin
      change KK _ (x11.setCell ⟨b0, 1, none⟩ (.slice oa11 (i + (m - (i + 1))) oc11))
      rw [← hxb]
      clear hxb hz1 hz2 hown11 hB
      refine Shut.out hKK _ _ trivial (fun hH6 => ?_)
      clear hKK KK
      try simp only [Act.put, qa]
      refine wpAnyH_done (by kernel_rfl) ?_ _
      refine NoPanic.normal ?_
      have HF := Lib.hid hfin
      clear hfin
      go_wp2_with fail
      go_meet
      case rel => exact ⟨_, _, _, HF.out⟩
  · have hz1 : W9.drew.cell? ⟨b0, 1, none⟩ = some (.slice (some ⟨sb, so, none⟩) m d) := HC.out _ hB
    go_simp
    clear hz1
    refine Shut.out hKK _ _ trivial (fun hH1 => ?_)
    clear hKK KK
    try simp only [Act.put, qa]
    refine tk 10 (v := (.slice AD2 (m - (i + 1)) (d - (i + 1)))) rfl (Or.inl ⟨by kernel_rfl, by intro w' hS; have z1 := HLO.out w'; go_simp; exact HAD2.out⟩) hH1 ?_
    simp only [Act.put, qa]
    refine wpAnyH_ready (rs := [0, 2]) (by kernel_rfl) (by simp) ?_
    refine AllReadyH.cons rfl (fun KK hKK => ?_) (AllReadyH.cons rfl (fun KK hKK => ?_) AllReadyH.nil)
    · go_simp
      obtain ⟨x0, hx0⟩ : ∃ y, y = W9.drew.alloc (.cells #[] 52) := ⟨_, rfl⟩
      have hnx0 : Below W9.drew.heap.size W9.drew x0 := by rw [hx0]; exact (Below.refl _ _).alloc (Nat.le_refl _) _
      have hown : x0.ownsRow W9.heap.size 52 68 (.slice (some ⟨W9.drew.heap.size, 0, none⟩) 0 0) 0 [] := by rw [hx0]; exact own_empty hB.size _ _
      replace hB : Below W9.heap.size W9 x0 := hB.trans (hnx0.mono hB.size)
      first | rw [← hx0] | (change KK _ (W9.drew.alloc (.cells #[] 52)); rw [← hx0])
      clear hx0 hnx0
      refine Shut.out hKK _ _ trivial (fun hH2 => ?_)
      clear hKK KK
      try simp only [Act.put, qa]
      refine wpAnyH_ready (rs := [2]) (by kernel_rfl) (by simp) ?_
      refine AllReadyH.cons rfl (fun KK hKK => ?_) AllReadyH.nil
      have hz1 : x0.cell? ⟨b0, 1, none⟩ = some (.slice (some ⟨sb, so, none⟩) m d) := HC.out _ hB
      go_simp
      clear hz1
      refine Shut.out hKK _ _ trivial (fun hH3 => ?_)
      clear hKK KK
      try simp only [Act.put, qa]
      apply tk 4 (v := _) rfl (Or.inl ⟨by kernel_rfl, ?hv⟩) hH3 ?_
      case hv => intro w' hS; have z1 := HLO.out w'; go_simp; try exact rfl
      simp only [Act.put, qa]
      refine wpAnyH_ready (rs := [5]) (by kernel_rfl) (by simp) ?_
      refine AllReadyH.cons rfl (fun KK hKK => ?_) AllReadyH.nil
      refine step_append_rows (cl := Off.cells) rfl (.tmp 13) (.tmp 17) 29 rfl W9.heap.size 52 (.agg ZI) 96 Tryd.underlying29 HINF.out HZQ.out (by decide) _ 0 [] rfl hown _ i d _ rfl (HPART.out _ hB).1 HO1.out (by unfold maxLen; omega) (by omega) hB.size ?_
      intro oa5 oc5 x5 hown5 hgr5
      replace hB := hB.grown hgr5 hB.size (own_blk hown)
      clear hown hgr5
      rw [Nat.zero_add] at hown5
      rw [Nat.zero_add]
      rw [List.nil_append] at hown5
      have hown := hown5
      clear hown5
      refine Shut.out hKK _ _ trivial (fun hH4 => ?_)
      clear hKK KK
      try simp only [Act.put, qa]
      refine wpAnyH_ready (rs := [11]) (by kernel_rfl) (by simp) ?_
      refine AllReadyH.cons rfl (fun KK hKK => ?_) AllReadyH.nil
      refine step_append_rows (cl := Off.cells) rfl (.tmp 18) (.tmp 23) 29 rfl W9.heap.size 52 (.agg ZI) 96 Tryd.underlying29 HINF.out HZQ.out (by decide) _ i _ rfl hown _ (m - (i + 1)) (d - (i + 1)) _ rfl (by rw [HPA.out]; exact (HPART.out _ hB).2) HO2.out (by unfold maxLen; omega) (by omega) hB.size ?_
      intro oa11 oc11 x11 hown11 hgr11
      replace hB := hB.grown hgr11 hB.size (own_blk hown)
      clear hown hgr11
      refine Shut.out hKK _ _ trivial (fun hH5 => ?_)
      clear hKK KK
      try simp only [Act.put, qa]
      apply tk 12 (v := _) rfl (Or.inl ⟨by kernel_rfl, ?hv⟩) hH5 ?_
      case hv => intro w' hS; have z1 := HLO.out w'; go_simp; try exact rfl
      simp only [Act.put, qa]
      refine wpAnyH_ready (rs := [13]) (by kernel_rfl) (by simp) ?_
      refine AllReadyH.cons rfl (fun KK hKK => ?_) AllReadyH.nil
      have hfin := HST.out _ _ oa11 oc11 rfl hB hown11
      have hz1 : x11.cell? ⟨b0, 1, none⟩ = some (.slice (some ⟨sb, so, none⟩) m d) := HC.out _ hB
      have hz2 : x11.frozen? ⟨b0, 1, none⟩ = false := (H19.out.below hB H19.out.lt).free 1
      go_simp
      obtain ⟨xb, hxb⟩ : ∃ y, y = x11.setCell ⟨b0, 1, none⟩ (.slice oa11 (i + (m - (i + 1))) oc11) := ⟨_, rfl⟩
      rw [← hxb] at hfin
      change KK _ (x11.setCell ⟨b0, 1, none⟩ (.slice oa11 (i + (m - (i + 1))) oc11))
      rw [← hxb]
      clear hxb hz1 hz2 hown11 hB
      refine Shut.out hKK _ _ trivial (fun hH6 => ?_)
      clear hKK KK
      try simp only [Act.put, qa]
      refine wpAnyH_done (by kernel_rfl) ?_ _
      refine NoPanic.normal ?_
      have HF := Lib.hid hfin
      clear hfin
      go_wp2_with fail
      go_meet
      case rel => exact ⟨_, _, _, HF.out⟩
    · have hz1 : W9.drew.cell? ⟨b0, 1, none⟩ = some (.slice (some ⟨sb, so, none⟩) m d) := HC.out _ hB
      go_simp
      clear hz1
      refine Shut.out hKK _ _ trivial (fun hH2 => ?_)
      clear hKK KK
      try simp only [Act.put, qa]
      apply tk 4 (v := _) rfl (Or.inl ⟨by kernel_rfl, ?hv⟩) hH2 ?_
      case hv => intro w' hS; have z1 := HLO.out w'; go_simp; try exact rfl
      simp only [Act.put, qa]
      refine wpAnyH_ready (rs := [0]) (by kernel_rfl) (by simp) ?_
      refine AllReadyH.cons rfl (fun KK hKK => ?_) AllReadyH.nil
      go_simp
      obtain ⟨x0, hx0⟩ : ∃ y, y = W9.drew.alloc (.cells #[] 52) := ⟨_, rfl⟩
      have hnx0 : Below W9.drew.heap.size W9.drew x0 := by rw [hx0]; exact (Below.refl _ _).alloc (Nat.le_refl _) _
      have hown : x0.ownsRow W9.heap.size 52 68 (.slice (some ⟨W9.drew.heap.size, 0, none⟩) 0 0) 0 [] := by rw [hx0]; exact own_empty hB.size _ _
      replace hB : Below W9.heap.size W9 x0 := hB.trans (hnx0.mono hB.size)
      first | rw [← hx0] | (change KK _ (W9.drew.alloc (.cells #[] 52)); rw [← hx0])
      clear hx0 hnx0
      refine Shut.out hKK _ _ trivial (fun hH3 => ?_)
      clear hKK KK
      try simp only [Act.put, qa]
      refine wpAnyH_ready (rs := [5]) (by kernel_rfl) (by simp) ?_
      refine AllReadyH.cons rfl (fun KK hKK => ?_) AllReadyH.nil
      refine step_append_rows (cl := Off.cells) rfl (.tmp 13) (.tmp 17) 29 rfl W9.heap.size 52 (.agg ZI) 96 Tryd.underlying29 HINF.out HZQ.out (by decide) _ 0 [] rfl hown _ i d _ rfl (HPART.out _ hB).1 HO1.out (by unfold maxLen; omega) (by omega) hB.size ?_
      intro oa5 oc5 x5 hown5 hgr5
      replace hB := hB.grown hgr5 hB.size (own_blk hown)
      clear hown hgr5
      rw [Nat.zero_add] at hown5
      rw [Nat.zero_add]
      rw [List.nil_append] at hown5
      have hown := hown5
      clear hown5
      refine Shut.out hKK _ _ trivial (fun hH4 => ?_)
      clear hKK KK
      try simp only [Act.put, qa]
      refine wpAnyH_ready (rs := [11]) (by kernel_rfl) (by simp) ?_
      refine AllReadyH.cons rfl (fun KK hKK => ?_) AllReadyH.nil
      refine step_append_rows (cl := Off.cells) rfl (.tmp 18) (.tmp 23) 29 rfl W9.heap.size 52 (.agg ZI) 96 Tryd.underlying29 HINF.out HZQ.out (by decide) _ i _ rfl hown _ (m - (i + 1)) (d - (i + 1)) _ rfl (by rw [HPA.out]; exact (HPART.out _ hB).2) HO2.out (by unfold maxLen; omega) (by omega) hB.size ?_
      intro oa11 oc11 x11 hown11 hgr11
      replace hB := hB.grown hgr11 hB.size (own_blk hown)
      clear hown hgr11
      refine Shut.out hKK _ _ trivial (fun hH5 => ?_)
      clear hKK KK
      try simp only [Act.put, qa]
      apply tk 12 (v := _) rfl (Or.inl ⟨by kernel_rfl, ?hv⟩) hH5 ?_
      case hv => intro w' hS; have z1 := HLO.out w'; go_simp; try exact rfl
      simp only [Act.put, qa]
      refine wpAnyH_ready (rs := [13]) (by kernel_rfl) (by simp) ?_
      refine AllReadyH.cons rfl (fun KK hKK => ?_) AllReadyH.nil
      have hfin := HST.out _ _ oa11 oc11 rfl hB hown11
      have hz1 : x11.cell? ⟨b0, 1, none⟩ = some (.slice (some ⟨sb, so, none⟩) m d) := HC.out _ hB
      have hz2 : x11.frozen? ⟨b0, 1, none⟩ = false := (H19.out.below hB H19.out.lt).free 1
      go_simp
      obtain ⟨xb, hxb⟩ : ∃ y, y = x11.setCell ⟨b0, 1, none⟩ (.slice oa11 (i + (m - (i + 1))) oc11) := ⟨_, rfl⟩
      rw [← hxb] at hfin
      change KK _ (x11.setCell ⟨b0, 1, none⟩ (.slice oa11 (i + (m - (i + 1))) oc11))
      rw [← hxb]
      clear hxb hz1 hz2 hown11 hB
      refine Shut.out hKK _ _ trivial (fun hH6 => ?_)
      clear hKK KK
      try simp only [Act.put, qa]
      refine wpAnyH_done (by kernel_rfl) ?_ _
      refine NoPanic.normal ?_
      have HF := Lib.hid hfin
      clear hfin
      go_wp2_with fail
      go_meet
      case rel => exact ⟨_, _, _, HF.out⟩
 case rest =>
 obtain ⟨W3, hW3⟩ : ∃ y, y = wc := ⟨_, rfl⟩
 subst hW3
 obtain ⟨n2, oa, oc, hfq⟩ := hcut
 obtain ⟨L2, hL2⟩ : ∃ y : List Value, y = [.slice A n c, .slice oa n2 oc, .int .u64 (r.k0 : Int), .int .u64 (r.k1 : Int)] := ⟨_, rfl⟩
 obtain ⟨r2, hr2⟩ : ∃ y : RB, y = { r with offers := r.offers.take i ++ r.offers.drop (i + 1) } := ⟨_, rfl⟩
 rw [← hL2, ← hr2] at hfq
 obtain ⟨IDC, hIDC⟩ : ∃ y, y = bcells x.id := ⟨_, rfl⟩
 have LL2 := Lib.hid (show L2.length = 4 by rw [hL2]; rfl)
 have HH2 := Lib.hid (show r2.has = r.has by rw [hr2])
 have HW2 := Lib.hid (show { r2 with has := setR r2.has s x.id (getR r.has s x.id + x.am) } = withoutR r i s x by rw [hr2]; rfl)
 have HG := Lib.hid (show ∀ v, FQ w b0 G (b0 + 1) 52 L2 XC r2 v → Calls Tryd.prog 28 #[.agg L2.toArray, .int .i64 s, .agg IDC.toArray] v fun e w' => e = .returned (.int .u64 (getR r.has s x.id : Int)) ∧ Below v.heap.size v w' from fun v hv => by
  have := rbGet_is v L2 r2 hv.1.2 s x.id HXOK.out.1
  unfold arr at this
  rw [← hIDC, HH2.out] at this
  exact this)
 have HSET := Lib.hid (show ∀ v, FQ w b0 G (b0 + 1) 52 L2 XC r2 v → Calls Tryd.prog 27 #[.agg L2.toArray, .int .i64 s, .agg IDC.toArray, .int .u64 ((getR r.has s x.id + x.am : Nat) : Int)] v fun e w' => (∃ L', e = .returned (.agg L'.toArray) ∧ RbAt w' L' (withoutR r i s x)) ∧ Below v.heap.size v w' from fun v hv => by
  have := rbSet_is v L2 r2 hv.1.2 (by rw [HH2.out]; exact HCH.out) s x.id HXOK.out.1 _ HFIT.out
  unfold arr at this
  rw [← hIDC, HW2.out] at this
  exact this)
 have HAM := Lib.hid (show ∀ v, FQ w b0 G (b0 + 1) 52 L2 XC r2 v → v.cell? ⟨G, 34, none⟩ = some (.int .u64 (x.am : Int)) from fun v hv => hv.2.1.cell_is (by rw [List.getElem?_toArray, EXC.out]; exact (off_cells x HXOK.out).2.2.1))
 have HID := Lib.hid (show ∀ v, FQ w b0 G (b0 + 1) 52 L2 XC r2 v → v.rangeAt G 2 IDC from fun v hv => by
  have := hv.2.1
  rw [EXC.out] at this
  rw [hIDC]
  exact ro_id HXOK.out this)
 have SZI := Lib.hid (show (Tryd.prog.info? 38).map (·.size) = some IDC.length by rw [hIDC, bcells_length, HXOK.out.1.1]; kernel_rfl)
 have SZ2 := Lib.hid (size_rb LL2.out)
 obtain ⟨gs, hgs⟩ : ∃ y, y = getR r.has s x.id := ⟨_, rfl⟩
 obtain ⟨xa, hxa⟩ : ∃ y, y = x.am := ⟨_, rfl⟩
 rw [← hgs] at HG HSET
 rw [← hxa] at HSET HAM
 have hwrp : IntKind.u64.wrap ((gs : Int) + (xa : Int)) = ((gs + xa : Nat) : Int) := by have := HFIT.out; rw [IntKind.wrap_u64]; omega
 have HB0L := Lib.hid (show w.heap.size ≤ b0 + 1 by rw [HBQ.out]; omega)
 have HNE := Lib.hid (show b0 ≠ b0 + 1 ∧ G ≠ b0 + 1 by have := HGE.out; constructor <;> omega)
 have HFQ := Lib.hid hfq
 clear hfq hL2 hr2 hIDC hgs hxa
 go_upto_region 3 with (fail)
 have hS0 : FQ w b0 G (b0 + 1) 52 L2 XC r2 W3.drew := HFQ.out.below ((Below.refl _ _).drew)
 refine wp_region_noPanic ?_
 refine wp_region_held_drew (S := (FQ w b0 G (b0 + 1) 52 L2 XC r2)) (by kernel_rfl) hS0 (fun hH0 => ?_)
 refine tk 0 (v := (.agg L2.toArray)) rfl (yieldsIf_load_mid (by kernel_rfl) 31 (.tmp 3) rfl b0 0 rfl L2 _ (fun w' h => h.1.1.row0) Tryd.underlying31 rfl SZ2.out) hH0 ?_
 simp only [Act.put, qa]
 apply tk 1 (v := _) rfl (Or.inl ⟨by kernel_rfl, ?hv⟩) hH0 ?_
 case hv => intro w' hS; have z0 := HAM.out w' hS; go_simp; try exact rfl
 simp only [Act.put, qa]
 apply tk 2 (v := _) rfl (Or.inl ⟨by kernel_rfl, ?hv⟩) hH0 ?_
 case hv => intro w' hS; have z0 := HAM.out w' hS; go_simp; try exact rfl
 simp only [Act.put, qa]
 refine tk 3 (v := (.agg IDC.toArray)) rfl (yieldsIf_load_mid (by kernel_rfl) 38 (.tmp 28) rfl G 2 rfl IDC _ (fun w' h => (HID.out _ h)) Tryd.underlying38 rfl SZI.out) hH0 ?_
 simp only [Act.put, qa]
 refine tk 4 (v := (.agg L2.toArray)) rfl (yieldsIf_load_mid (by kernel_rfl) 31 (.tmp 3) rfl b0 0 rfl L2 _ (fun w' h => h.1.1.row0) Tryd.underlying31 rfl SZ2.out) hH0 ?_
 simp only [Act.put, qa]
 apply tk 5 (v := _) rfl (Or.inl ⟨by kernel_rfl, ?hv⟩) hH0 ?_
 case hv => intro w' hS; have z0 := HAM.out w' hS; go_simp; try exact rfl
 simp only [Act.put, qa]
 apply tk 6 (v := _) rfl (Or.inl ⟨by kernel_rfl, ?hv⟩) hH0 ?_
 case hv => intro w' hS; have z0 := HAM.out w' hS; go_simp; try exact rfl
 simp only [Act.put, qa]
 refine tk 7 (v := (.agg IDC.toArray)) rfl (yieldsIf_load_mid (by kernel_rfl) 38 (.tmp 32) rfl G 2 rfl IDC _ (fun w' h => (HID.out _ h)) Tryd.underlying38 rfl SZI.out) hH0 ?_
 simp only [Act.put, qa]
 apply tk 9 (v := _) rfl (Or.inl ⟨by kernel_rfl, ?hv⟩) hH0 ?_
 case hv => intro w' hS; have z0 := HAM.out w' hS; go_simp; try exact rfl
 simp only [Act.put, qa]
 apply tk 10 (v := _) rfl (Or.inl ⟨by kernel_rfl, ?hv⟩) hH0 ?_
 case hv => intro w' hS; have z0 := HAM.out w' hS; go_simp; try exact rfl
 simp only [Act.put, qa]
 refine wpAnyH_ready (rs := [8]) (by kernel_rfl) (by simp) ?_
 refine AllReadyH.cons rfl (fun KK hKK => ?_) AllReadyH.nil
 go_simp
 refine (HG.out _ hH0).mono ?_
 rintro _ x8 ⟨rfl, hx8⟩
 have hs8 : FQ w b0 G (b0 + 1) 52 L2 XC r2 x8 := hH0.below hx8
 clear hx8
 refine Shut.out hKK _ _ hs8 (fun hH1 => ?_)
 clear hKK KK
 try simp only [Act.put, qa]
 apply tk 11 (v := _) rfl (Or.inl ⟨by kernel_rfl, ?hv⟩) hH1 ?_
 case hv => intro w' hS; have z0 := HAM.out w' hS; go_simp; try exact rfl
 simp only [Act.put, qa]
 refine wpAnyH_ready (rs := [12]) (by kernel_rfl) (by simp) ?_
 refine AllReadyH.cons rfl (fun KK hKK => ?_) AllReadyH.nil
 go_simp
 refine (HSET.out _ hH1).mono ?_
 rintro _ x12 ⟨⟨L', rfl, hr12⟩, hx12⟩
 have hs12 : FQ w b0 G (b0 + 1) 52 L2 XC r2 x12 := hH1.below hx12
 clear hx12
 refine Shut.out hKK _ _ hs12 (fun hH2 => ?_)
 clear hKK KK
 try simp only [Act.put, qa]
 refine wpAnyH_ready (rs := [13]) (by kernel_rfl) (by simp) ?_
 refine AllReadyH.cons rfl (fun KK hKK => ?_) AllReadyH.nil
 obtain ⟨hq1, hq2, hq3⟩ := hH2.set HB0L.out HNE.out.1 HNE.out.2 hr12
 obtain ⟨Z9, hz9, hz⟩ := hH2.2.2.2
 refine step_store_mid rfl 31 (.tmp 6) (.tmp 38) rfl (b0 + 1) 0 L'.toArray rfl rfl (hz.there 0 _ (by rw [hz9, List.size_toArray, hr12.len]; decide)) (by rw [List.size_toArray]; exact size_rb hr12.len) hr12.one ?_
 obtain ⟨xb, hxb⟩ : ∃ y, y = x12.setCells (b0 + 1) 0 L' := ⟨_, rfl⟩
 rw [← hxb] at hq1 hq2 hq3
 change KK _ (x12.setCells (b0 + 1) 0 L')
 rw [← hxb]
 clear hxb hz hz9
 refine Shut.out hKK _ _ hq1 (fun hH3 => ?_)
 clear hKK KK
 try simp only [Act.put, qa]
 refine wpAnyH_done (by kernel_rfl) ?_ _
 refine NoPanic.normal ?_
 have HF := Lib.hid hq2
 have HFB := Lib.hid hq1
 have HRR := Lib.hid hq3
 clear hq1 hq2 hq3
 go_wp2_with fail
 refine bodyPost_ret (results_cell_row rfl _ _ (b0 + 1) 31 L'.toArray (0, 0) _ rfl HF.out Tryd.underlying31 rfl (by rw [List.size_toArray]; exact size_rb HRR.out.len)) rfl ?_
 exact ⟨⟨L', rfl, HRR.out⟩, HFB.out.2.2.1⟩
end Go.Proofs.YtcekammjpghjnaaDoor

