/- The reference's book: an offer's place; more of an asset. -/
import Derived.Test.YtcekammjpghjnaaDoorWs
import Derived.Test.YtcekammjpghjnaaDoorURg4
import Derived.Test.YtcekammjpghjnaaDoorUBook9
import Derived.Test.YtcekammjpghjnaaDoorUMsum3
namespace Go.Proofs.YtcekammjpghjnaaDoor
set_option linter.unusedVariables false
set_option linter.unusedSimpArgs false
open Go.ChangeShapes Go.WideShapes Go.ChangeAt Go.RowKit Go.Maps

theorem boxes_find (w : World) (LB : List Value) : ∃ W1, W1 = (w.alloc (.cells LB.toArray 31)) ∧
   Has W1 (w.heap.size) 31 LB.toArray ∧ Below w.heap.size w W1 := by
 refine ⟨_, rfl, ?_, ?_⟩
 · have := Has.new w 31 LB.toArray
   exact this
 · exact (Below.refl _ _).alloc (Nat.le_refl _) _

theorem boxes_fund (w : World) (LB LI : List Value) (Z : Array Value) : ∃ W1, W1 = (((((w.alloc (.cells LB.toArray 31))).alloc (.cells LI.toArray 38))).alloc (.cells Z 31)) ∧
   Has W1 (w.heap.size) 31 LB.toArray ∧ Has W1 (w.heap.size + 1) 38 LI.toArray ∧ Has W1 (w.heap.size + 1 + 1) 31 Z ∧ Below w.heap.size w W1 := by
 refine ⟨_, rfl, ?_, ?_, ?_, ?_⟩
 · have := Has.new w 31 LB.toArray
   exact ((this).alloc _).alloc _
 · have := Has.new (w.alloc (.cells LB.toArray 31)) 38 LI.toArray
   exact ((by simpa using this : Has _ (w.heap.size + 1) _ _)).alloc _
 · have := Has.new (((w.alloc (.cells LB.toArray 31))).alloc (.cells LI.toArray 38)) 31 Z
   exact (by simpa using this : Has _ (w.heap.size + 1 + 1) _ _)
 · exact (((Below.refl _ _).alloc (Nat.le_refl _) _).alloc (by simp) _).alloc (by simp; omega) _
set_option maxRecDepth 100000 in
set_option maxHeartbeats 4000000 in
theorem rbFind_is (w : World) (L : List Value) (r : RB) (hr : RbAt w L r) (frm no : Int) :
  Calls Tryd.prog 33 #[.agg L.toArray, .int .i64 frm, .int .i64 no] w fun e w' => e = .returned (.int .i64 (findI r.offers frm no)) ∧ Below w.heap.size w w' := by
 obtain ⟨Z, hz, hzs, hzn⟩ := zero_ro
 obtain ⟨A, n, c, B, m, d, hL, -, hoffs, -, -, hm⟩ := hr.ex
 obtain ⟨W1, hW1, h1, hb1⟩ := boxes_find w L
 have hc0 : W1.cell? ⟨w.heap.size, 1, none⟩ = some (.slice B m d) := h1.cell_is (by rw [hL]; rfl)
 have HR1 := Lib.hid (hoffs.rows.below hb1)
 have HLEN := Lib.hid hoffs.rows.len
 have HOK := Lib.hid hr.off
 have HB1 := Lib.hid hb1
 have EW := Lib.hid hW1
 have HZS := Lib.hid hzs
 have HAT := Lib.hid at_ro
 clear hr hL hoffs hb1 hW1 hzs h1
 go_enter Tryd.func33, Tryd.ntmps33
 go_upto_region 1 with (fail)
 rw [← EW.out]
 obtain ⟨b0, hb0⟩ : ∃ y, y = w.heap.size := ⟨_, rfl⟩
 rw [← hb0] at hc0 ⊢
 clear hb0 EW
 go_wp2_with fail
 clear hc0
 go_loopw [12] (fun iv wr => ∃ k : Nat, iv = .int .i64 (k : Int) ∧ k ≤ m ∧ (∀ j p, j < k → r.offers[j]? = some p → ¬ (p.frm = frm ∧ p.no = no)) ∧ Below W1.heap.size W1 wr) (fun iv _ => m - (intOf iv).toNat)
 case atStart => exact ⟨0, rfl, Nat.zero_le _, fun j p hj => absurd hj (by omega), Below.refl _ _⟩
 case round =>
  obtain ⟨k, rfl, hk, hnone, hbel⟩ := hrel
  have HBE := Lib.hid hbel
  have HNO := Lib.hid hnone
  clear hbel hnone
  by_cases hlt : k < m
  · have hlt' : (k : Int) < (m : Int) := by omega
    obtain ⟨sb, so, hA1, hA2, hrr⟩ := HR1.out.at_ (by omega)
    subst hA1
    obtain ⟨x, hx⟩ : ∃ x, r.offers[k]? = some x := ⟨_, List.getElem?_eq_getElem (by rw [HLEN.out]; exact hlt)⟩
    have hxok := HOK.out x (List.mem_of_getElem? hx)
    have hrw := rangeAt_kept (hrr k x hx) (Kept.of_below (S := fun _ => False) HBE.out) (fun h => h)
    obtain ⟨XC, hXC⟩ : ∃ L, L = x.cells := ⟨_, rfl⟩
    rw [← hXC] at hrw
    have LXC := Lib.hid (show XC.length = 68 by rw [hXC]; exact Off.length x hxok)
    have HRW := Lib.hid hrw
    have SZ1 := Lib.hid (show (Tryd.prog.info? 52).map (·.size) = some XC.length by rw [LXC.out]; kernel_rfl)
    have SZA := Lib.hid (show (Tryd.prog.info? 52).map (·.size) = some XC.toArray.size by rw [List.size_toArray]; exact SZ1.out)
    have HZZ := Lib.hid (show Z.size = XC.toArray.size by rw [HZS.out, List.size_toArray, LXC.out])
    have HONE := Lib.hid (show XC.toArray.all (·.oneCell') = true by rw [hXC]; exact all_oneCell_toArray (off_one x))
    have HNW := Lib.hid (show ∀ C, Has ((wr.alloc (.cells Z 52)).setRow wr.heap.size C) wr.heap.size 52 C ∧ Below wr.heap.size wr ((wr.alloc (.cells Z 52)).setRow wr.heap.size C) from fun C => by
      rw [World.setRow_alloc_new]
      exact ⟨Has.new wr _ _, (Below.refl _ _).alloc (Nat.le_refl _) _⟩)
    have HXOK := Lib.hid hxok
    have EXC := Lib.hid hXC
    have hat := HAT.out sb so m d k hlt
    have HLTK := Lib.hid hlt
    have HX := Lib.hid hx
    have HNO1 := Lib.hid (show ¬ (x.frm = frm ∧ x.no = no) → ∀ j p, j < k + 1 → r.offers[j]? = some p → ¬ (p.frm = frm ∧ p.no = no) from fun h j p hj hp => by
      rcases Nat.lt_or_ge j k with h2 | h2
      · exact HNO.out j p h2 hp
      · obtain rfl : j = k := by omega
        rw [hx] at hp
        cases hp
        exact h)
    clear hrw hxok hx hXC hrr hA2 hlt
    go_upto_region 4 with (first
      | (refine wpList_load_mid rfl 52 (.tmp 15) rfl sb (so + k * 68) rfl XC _ HRW.out Tryd.underlying52 rfl SZ1.out ?_)
      | (refine wpList_store_row rfl 52 (.tmp 8) (.tmp 16) rfl wr.heap.size XC.toArray rfl rfl 52 Z (heap_alloc_new wr _) SZA.out HZZ.out HONE.out ?_))
    obtain ⟨h3, hk3⟩ := HNW.out XC.toArray
    have hb3 := HBE.out.trans (hk3.mono HBE.out.size)
    clear HNW hk3 hat
    generalize (wr.alloc (.cells Z 52)).setRow wr.heap.size XC.toArray = W9 at h3 hb3 ⊢
    generalize wr.heap.size = G at h3 ⊢
    rw [EXC.out] at h3
    have HB3 := Lib.hid hb3
    have cs0 : W9.cell? ⟨G, 0, none⟩ = some (.int .i64 x.no) := h3.cell_is (by rw [List.getElem?_toArray]; exact (off_cells x HXOK.out).1)
    have cs1 : W9.cell? ⟨G, 1, none⟩ = some (.int .i64 x.frm) := h3.cell_is (by rw [List.getElem?_toArray]; exact (off_cells x HXOK.out).2.1)
    have HBF := Lib.hid (HB1.out.trans (hb3.mono HB1.out.size))
    clear h3 hb3
    have HAT1 := Lib.hid (show x.frm = frm ∧ x.no = no → findI r.offers frm no = (k : Int) from fun h => findI_at r.offers frm no k x HX.out h HNO.out)
    obtain ⟨xf, hxf⟩ : ∃ v, v = x.frm := ⟨_, rfl⟩
    obtain ⟨xn, hxn⟩ : ∃ v, v = x.no := ⟨_, rfl⟩
    rw [← hxf] at cs1 HNO1 HAT1
    rw [← hxn] at cs0 HNO1 HAT1
    clear hxf hxn
    by_cases hs : xf = frm
    · have hs' : (xf == frm) = true := by rw [beq_iff_eq]; exact hs
      by_cases hn : xn = no
      · have hn' : (xn == no) = true := by rw [beq_iff_eq]; exact hn
        have HQ := Lib.hid (HAT1.out ⟨hs, hn⟩)
        clear hs hn HNO1 HAT1
        go_wp2_with fail
        go_ret
        exact ⟨by rw [HQ.out]; rfl, HBF.out⟩
      · have hn' : (xn == no) = false := by rw [beq_eq_false_iff_ne]; exact hn
        have HQ := Lib.hid (HNO1.out (fun h => hn h.2))
        clear hs hn HNO1 HAT1
        go_wp2_with fail
        go_roundw
        case rel => exact ⟨k + 1, by go_num, HLTK.out, HQ.out, HB3.out⟩
        case measure => have := HLTK.out; simp [intOf]; omega
    · have hs' : (xf == frm) = false := by rw [beq_eq_false_iff_ne]; exact hs
      have HQ := Lib.hid (HNO1.out (fun h => hs h.1))
      clear hs HNO1 HAT1
      go_wp2_with fail
      go_roundw
      case rel => exact ⟨k + 1, by go_num, HLTK.out, HQ.out, HB3.out⟩
      case measure => have := HLTK.out; simp [intOf]; omega
  · obtain rfl : k = m := by omega
    have hno : ¬ (k : Int) < (k : Int) := by omega
    have HQ := Lib.hid (show findI r.offers frm no = -1 from findI_none _ _ _ (fun o ho hh => by
      obtain ⟨j, hj, e⟩ := List.getElem_of_mem ho
      exact HNO.out j o (by rw [← HLEN.out]; exact hj) (by rw [List.getElem?_eq_getElem hj, e]) hh))
    have HBF := Lib.hid (HB1.out.trans (HBE.out.mono HB1.out.size))
    go_wp2_with fail
    go_ret
    exact ⟨by rw [HQ.out]; rfl, HBF.out⟩

theorem wpList_buildN' {P : Program} {ops : Array Oper} {rest : List Oper} {o : Oper} {a : Act} {w : World} {Q : Exit → Act → World → Prop} (hgd : o.guard = none) (t e : TypeId) (n : Nat) (parts : Array (Nat × Operand)) (hop : o.op = .buildSlice t n parts)
  (z : Value) (k by_ : Nat) (hu : P.underlying t = some (.slice e)) (hinfo : (P.info? e).map (fun i => (i.zero, i.size, i.bytes)) = some (some z, k, by_))
  (xs : List Operand) (hparts : parts.toList = (xs.zipIdx 0).map fun x => (x.2, x.1)) (vs : List Value) (hvs : xs.map a.eval = vs) (hk : ∀ v ∈ vs, v.cells.size = k) (hz : z.cells.size = k) (hn : vs.length = n) (h0 : 0 < n) (hk0 : 0 < k) (h24 : n * k ≤ 16777216)
  (h : wpList P ops Q rest (a.put o.dst (.slice (some ⟨w.heap.size, 0, none⟩) n n)) (w.alloc (.cells (vs.flatMap fun v => v.cells.toList).toArray e))) : wpList P ops Q (o :: rest) a w := by
 refine wpList_plain hgd fun K hK => ?_
 obtain ⟨ie, hie, hz0, hsz, -⟩ := info_parts hinfo
 have hp : 0 < n * k := Nat.mul_pos h0 hk0
 refine wp_buildSlice t e n parts hop (vs.flatMap fun v => v.cells.toList).toArray ie z hu hie hz0 (by rw [hsz]; omega) (by rw [hsz]; omega) ?_ (hK _ _ h)
 have hv : (parts.map fun (i, x) => (i, a.eval x)).toList = (vs.zipIdx 0).map fun x => (x.2, x.1) := by
  rw [Array.toList_map, hparts, ← hvs, List.zipIdx_map, List.map_map, List.map_map]
  rfl
 rw [hv]
 exact Great.fill_whole (s := ie.size) (by omega) vs _ (by rw [hsz]; exact hk) (by simp [hn])
theorem rset_box {W V : World} {B G : Nat} {t : TypeId} {Z : Array Value} {L : List Value} (h : Below B W V) (hz : Has V G t Z) (hG : B ≤ G) (hBW : B ≤ V.heap.size) (hl : Z.size = L.length) : Below B W (V.setCells G 0 L) ∧ Has (V.setCells G 0 L) G t L.toArray ∧ Kept (fun k => k = G) V (V.setCells G 0 L) := by
 obtain ⟨cur', p1, p2, p3, p4⟩ := Has.setCells L 0 V Z hz
 refine ⟨h.trans (p4.below hBW (fun j e => by have e' : j = G := e; omega)), ?_, p4⟩
 have : cur' = L.toArray := by
  apply Array.ext_getElem?
  intro i
  by_cases hi : i < Z.size
  · rw [p3 i hi, if_pos (by omega), Nat.sub_zero, List.getElem?_toArray]
  · rw [Array.getElem?_eq_none (by omega), Array.getElem?_eq_none (by simp; omega)]
 rw [← this]
 exact p1
theorem rb_far1 {W V : World} {G : Nat} {Z : Array Value} {L : List Value} {r : RB} (hz : Has W G 31 Z) (hk : Kept (fun k => k = G) W V) (hr : RbAt W L r) : RbAt V L r := hr.far hk (fun b cs hh e => by
 rcases hh with hh | hh
 · exact hh.ne hz (by decide) e
 · exact hh.ne hz (by decide) e)
def FS (w : World) (b0 : Nat) (L LI : List Value) (v : World) : Prop := Has v b0 31 L.toArray ∧ Has v (b0 + 1) 38 LI.toArray ∧ Below w.heap.size w v ∧ ∃ Z, Z.size = 4 ∧ Has v (b0 + 2) 31 Z
theorem FS.below {w v v' : World} {b0 : Nat} {L LI : List Value} (h : FS w b0 L LI v) (hb : Below v.heap.size v v') : FS w b0 L LI v' := by
 obtain ⟨h1, h2, h3, Z, hz, h4⟩ := h
 exact ⟨h1.below hb h1.lt, h2.below hb h2.lt, h3.trans (hb.mono h3.size), Z, hz, h4.below hb h4.lt⟩
theorem FS.set {w v : World} {b0 : Nat} {L LI L' : List Value} {r : RB} (h : FS w b0 L LI v) (hw : w.heap.size ≤ b0) (hr : RbAt v L' r) : FS w b0 L LI (v.setCells (b0 + 2) 0 L') ∧ Has (v.setCells (b0 + 2) 0 L') (b0 + 2) 31 L'.toArray ∧ RbAt (v.setCells (b0 + 2) 0 L') L' r := by
 obtain ⟨h1, h2, h3, Z, hz, h4⟩ := h
 obtain ⟨q1, q2, q3⟩ := rset_box h3 h4 (by omega) h3.size (by rw [hz, hr.len])
 refine ⟨⟨h1.kept q3 (fun e => by have e' : b0 = b0 + 2 := e; omega), h2.kept q3 (fun e => by have e' : b0 + 1 = b0 + 2 := e; omega), q1, L'.toArray, by rw [List.size_toArray]; exact hr.len, q2⟩, q2, rb_far1 h4 q3 hr⟩
theorem rb_end {w W1 wx : World} {b : Nat} {LX : List Value} {Z : Array Value} {r : RB} (hb1 : Below w.heap.size w W1) (hz : Has W1 b 31 Z) (hle : w.heap.size ≤ b) (hr : RbAt wx LX r) (hb : Below W1.heap.size W1 wx) : Has wx b 31 Z ∧ Has (wx.setRow b LX.toArray) b 31 LX.toArray ∧ RbAt (wx.setRow b LX.toArray) LX r ∧ Below w.heap.size w (wx.setRow b LX.toArray) := by
 have hz2 := hz.below hb hz.lt
 have hk : Kept (fun j => j = b) wx (wx.setRow b LX.toArray) := kept_setRow _ _
 have hb2 := hb1.trans (hb.mono hb1.size)
 exact ⟨hz2, hz2.setRow, rb_far1 hz2 hk hr, hb2.trans (hk.below hb2.size (fun j e => by have e' : j = b := e; omega))⟩
def fundRE (r : RB) (s : Int) (id : List Nat) (n : Nat) : Int := if s < 0 ∨ 1 < s ∨ n = 0 then 1 else if (listR r id).sum + n < 18446744073709551616 then 0 else 10
def fundRB (r : RB) (s : Int) (id : List Nat) (n : Nat) : RB := if fundRE r s id n = 0 then { r with has := setR r.has s id (getR r.has s id + n) } else r
theorem listR_get (r : RB) (s : Int) (id : List Nat) (h : ¬ (s < 0 ∨ 1 < s)) : getR r.has s id ≤ (listR r id).sum := by
 have h2 : s = 0 ∨ s = 1 := by omega
 unfold listR amtTo
 simp only [List.sum_append, List.sum_cons, List.sum_nil]
 rcases h2 with rfl | rfl <;> omega
set_option maxRecDepth 100000 in
set_option maxHeartbeats 4000000 in
theorem rbFund_is (w : World) (L : List Value) (r : RB) (hr : RbAt w L r) (hcap : r.offers.length ≤ 200) (hcah : r.has.length ≤ 99999) (s : Int) (id : List Nat) (hid : IsHash id) (n : Nat) (hn : n < 18446744073709551616) (hsum : (listR r id).sum < 18446744073709551616) :
   Calls Tryd.prog 7 #[.agg L.toArray, .int .i64 s, arr id, .int .u64 (n : Int)] w fun e w' => (∃ L', e = .returned (.tuple #[.agg L'.toArray, .int .i64 (fundRE r s id n)]) ∧ RbAt w' L' (fundRB r s id n)) ∧ Below w.heap.size w w' := by
 have hzb := zero_rb
 obtain ⟨LI, hLI⟩ : ∃ X, X = bcells id := ⟨_, rfl⟩
 have hr0 := hr
 unfold arr
 rw [← hLI]
 obtain ⟨W1, hW1, h1, h2, h3, hb1⟩ := boxes_fund w L LI #[.slice none 0 0, .slice none 0 0, .int .u64 0, .int .u64 0]
 have HR := Lib.hid hr0
 have HB1 := Lib.hid hb1
 have EW := Lib.hid hW1
 have H1 := Lib.hid h1
 have H2 := Lib.hid h2
 have H3 := Lib.hid h3
 have HNN := Lib.hid hn
 have HONE := Lib.hid hr0.one
 have SZI := Lib.hid (show (Tryd.prog.info? 38).map (·.size) = some LI.length by rw [hLI, bcells_length, hid.1]; kernel_rfl)
 have SZB := Lib.hid (size_rb hr.len)
 have SZA := Lib.hid (show (Tryd.prog.info? 31).map (·.size) = some L.toArray.size by rw [List.size_toArray]; exact SZB.out)
 have SZ4 := Lib.hid (show (#[.slice none 0 0, .slice none 0 0, .int .u64 0, .int .u64 0] : Array Value).size = L.toArray.size by show 4 = _; rw [List.size_toArray, hr.len])
 have HTOT := Lib.hid (show ∀ v, Below w.heap.size w v → Calls Tryd.prog 25 #[.agg L.toArray, .agg LI.toArray] v fun e w' => e = .returned (.tuple #[.int .u64 ((listR r id).sum : Int), .bool true]) ∧ Below v.heap.size v w' from fun v hv => by
   have := rbTotal_is v L r (hr0.below hv) hcap id hid
   unfold arr totV at this
   rw [← hLI, if_pos hsum] at this
   exact this)
 have HG := Lib.hid (show ∀ v, Below w.heap.size w v → Calls Tryd.prog 28 #[.agg L.toArray, .int .i64 s, .agg LI.toArray] v fun e w' => e = .returned (.int .u64 (getR r.has s id : Int)) ∧ Below v.heap.size v w' from fun v hv => by
   have := rbGet_is v L r (hr0.below hv) s id hid
   unfold arr at this
   rw [← hLI] at this
   exact this)
 have HSET := Lib.hid (show ∀ (v : World) (am : Nat), am < 18446744073709551616 → Below w.heap.size w v → Calls Tryd.prog 27 #[.agg L.toArray, .int .i64 s, .agg LI.toArray, .int .u64 (am : Int)] v fun e w' => (∃ L', e = .returned (.agg L'.toArray) ∧ RbAt w' L' { r with has := setR r.has s id am }) ∧ Below v.heap.size v w' from fun v am ham hv => by
   have := rbSet_is v L r (hr0.below hv) hcah s id hid am ham
   unfold arr at this
   rw [← hLI] at this
   exact this)
 have HX := Lib.hid (show ∀ v, Below W1.heap.size W1 v → v.rangeAt w.heap.size 0 L ∧ v.rangeAt (w.heap.size + 1) 0 LI from fun v hv => ⟨(H1.out.below hv H1.out.lt).row0, (H2.out.below hv H2.out.lt).row0⟩)
 have HEND := Lib.hid (show ∀ (wx : World) (LX : List Value) (r' : RB), RbAt wx LX r' → Below W1.heap.size W1 wx → Has wx (w.heap.size + 2) 31 #[.slice none 0 0, .slice none 0 0, .int .u64 0, .int .u64 0] ∧ Has (wx.setRow (w.heap.size + 2) LX.toArray) (w.heap.size + 2) 31 LX.toArray ∧ RbAt (wx.setRow (w.heap.size + 2) LX.toArray) LX r' ∧ Below w.heap.size w (wx.setRow (w.heap.size + 2) LX.toArray) from fun wx LX r' hx hb => rb_end HB1.out H3.out (by omega) hx hb)
 have HGE := Lib.hid (show ¬ (s < 0 ∨ 1 < s) → getR r.has s id ≤ (listR r id).sum from listR_get r s id)
 obtain ⟨gs, hgs⟩ : ∃ y, y = getR r.has s id := ⟨_, rfl⟩
 obtain ⟨sm, hsm⟩ : ∃ y, y = (listR r id).sum := ⟨_, rfl⟩
 have HRE := Lib.hid (show fundRE r s id n = if s < 0 ∨ 1 < s ∨ n = 0 then 1 else if sm + n < 18446744073709551616 then 0 else 10 by rw [hsm]; rfl)
 have HRB := Lib.hid (show fundRB r s id n = if fundRE r s id n = 0 then { r with has := setR r.has s id (gs + n) } else r by rw [hgs]; rfl)
 rw [← hgs] at HG HGE
 rw [← hsm] at HTOT HGE hsum
 have HSM := Lib.hid hsum
 clear hr hr0 hb1 hW1 hLI hid h1 h2 h3 hcap hcah hgs hsm hsum hn
 go_enter Tryd.func7, Tryd.ntmps7
 go_upto_region 1 with (fail)
 rw [← EW.out]
 obtain ⟨b0, hb0⟩ : ∃ y, y = w.heap.size := ⟨_, rfl⟩
 rw [← hb0] at H1 H2 H3 HX HEND ⊢
 have HBQ := Lib.hid hb0
 clear hb0 EW
 by_cases hs0 : s < 0
 · have hsd : decide (s < 0) = true := decide_eq_true hs0
   have HE := Lib.hid (show fundRE r s id n = 1 by rw [HRE.out, if_pos (Or.inl hs0)])
   have HB9 := Lib.hid (show fundRB r s id n = r by rw [HRB.out, HE.out]; rfl)
   clear hs0
   obtain ⟨hz3, hs3, hr3, hb3⟩ := HEND.out W1 L r (HR.out.below (HB1.out)) (Below.refl _ _)
   have HZ3 := Lib.hid hz3
   have HF1 := Lib.hid hs3
   have HF2 := Lib.hid (And.intro hr3 hb3)
   have HI0 := Lib.hid (HX.out W1 (Below.refl _ _)).1
   clear hz3 hs3 hr3 hb3
   go_wp2_with (first
      | (refine wpList_load_mid rfl 31 (.tmp 4) rfl b0 0 rfl L _ HI0.out Tryd.underlying31 rfl SZB.out ?_)
      | (refine wpList_store_row rfl 31 (.tmp 8) (.tmp 24) rfl (b0 + 2) L.toArray rfl rfl 31 _ HZ3.out SZA.out SZ4.out HONE.out ?_))
   refine bodyPost_ret (results_cell_tmp rfl _ _ (b0 + 2) 31 L.toArray (0, 0) _ rfl rfl HF1.out Tryd.underlying31 SZA.out) rfl ?_
   exact ⟨⟨L, by rw [HE.out]; rfl, by rw [HB9.out]; exact HF2.out.1⟩, by rw [← HBQ.out]; exact HF2.out.2⟩
 by_cases hs1 : 1 < s
 · have hsd : decide (1 < s) = true := decide_eq_true hs1
   have HE := Lib.hid (show fundRE r s id n = 1 by rw [HRE.out, if_pos (Or.inr (Or.inl hs1))])
   have HB9 := Lib.hid (show fundRB r s id n = r by rw [HRB.out, HE.out]; rfl)
   have hs1' : s > 1 := hs1
   clear hs1
   obtain ⟨hz3, hs3, hr3, hb3⟩ := HEND.out W1 L r (HR.out.below (HB1.out)) (Below.refl _ _)
   have HZ3 := Lib.hid hz3
   have HF1 := Lib.hid hs3
   have HF2 := Lib.hid (And.intro hr3 hb3)
   have HI0 := Lib.hid (HX.out W1 (Below.refl _ _)).1
   clear hz3 hs3 hr3 hb3
   go_wp2_with (first
      | (refine wpList_load_mid rfl 31 (.tmp 4) rfl b0 0 rfl L _ HI0.out Tryd.underlying31 rfl SZB.out ?_)
      | (refine wpList_store_row rfl 31 (.tmp 8) (.tmp 24) rfl (b0 + 2) L.toArray rfl rfl 31 _ HZ3.out SZA.out SZ4.out HONE.out ?_))
   refine bodyPost_ret (results_cell_tmp rfl _ _ (b0 + 2) 31 L.toArray (0, 0) _ rfl rfl HF1.out Tryd.underlying31 SZA.out) rfl ?_
   exact ⟨⟨L, by rw [HE.out]; rfl, by rw [HB9.out]; exact HF2.out.1⟩, by rw [← HBQ.out]; exact HF2.out.2⟩
 by_cases hn0 : n = 0
 · have hnd : (n : Int) = 0 := by omega
   have hs1' : ¬ s > 1 := hs1
   have HE := Lib.hid (show fundRE r s id n = 1 by rw [HRE.out, if_pos (Or.inr (Or.inr hn0))])
   have HB9 := Lib.hid (show fundRB r s id n = r by rw [HRB.out, HE.out]; rfl)
   clear hs1 hn0
   obtain ⟨hz3, hs3, hr3, hb3⟩ := HEND.out W1 L r (HR.out.below (HB1.out)) (Below.refl _ _)
   have HZ3 := Lib.hid hz3
   have HF1 := Lib.hid hs3
   have HF2 := Lib.hid (And.intro hr3 hb3)
   have HI0 := Lib.hid (HX.out W1 (Below.refl _ _)).1
   clear hz3 hs3 hr3 hb3
   go_wp2_with (first
      | (refine wpList_load_mid rfl 31 (.tmp 4) rfl b0 0 rfl L _ HI0.out Tryd.underlying31 rfl SZB.out ?_)
      | (refine wpList_store_row rfl 31 (.tmp 8) (.tmp 24) rfl (b0 + 2) L.toArray rfl rfl 31 _ HZ3.out SZA.out SZ4.out HONE.out ?_))
   refine bodyPost_ret (results_cell_tmp rfl _ _ (b0 + 2) 31 L.toArray (0, 0) _ rfl rfl HF1.out Tryd.underlying31 SZA.out) rfl ?_
   exact ⟨⟨L, by rw [HE.out]; rfl, by rw [HB9.out]; exact HF2.out.1⟩, by rw [← HBQ.out]; exact HF2.out.2⟩
 have hnd : ¬ (n : Int) = 0 := by omega
 have hs1' : ¬ s > 1 := hs1
 have HGOOD := Lib.hid (show fundRE r s id n = if sm + n < 18446744073709551616 then 0 else 10 by rw [HRE.out, if_neg (by omega)])
 have HGE2 := Lib.hid (HGE.out (by omega))
 clear hs1 hn0
 have HI0 := Lib.hid (HX.out W1 (Below.refl _ _))
 go_wp2_with (first
   | (refine wpList_load_mid rfl 31 (.tmp 4) rfl b0 0 rfl L _ HI0.out.1 Tryd.underlying31 rfl SZB.out ?_)
   | (refine wpList_load_mid rfl 38 (.tmp 6) rfl (b0 + 1) 0 rfl LI _ HI0.out.2 Tryd.underlying38 rfl SZI.out ?_))
 refine (HTOT.out W1 HB1.out).mono ?_
 rintro _ w8 ⟨rfl, hb8⟩
 have HB8 := Lib.hid hb8
 clear hb8
 have hb81 : Below W1.heap.size W1 w8 := HB8.out
 have HX8 := Lib.hid (show Has (w8.alloc (.cells #[.int .u64 (sm : Int), .int .u64 (n : Int)] 22)) w8.heap.size 22 #[.int .u64 (sm : Int), .int .u64 (n : Int)] from Has.new _ _ _)
 have HT2 := Lib.hid (show Calls Tryd.prog 26 #[.slice (some ⟨w8.heap.size, 0, none⟩) 2 2] (w8.alloc (.cells #[.int .u64 (sm : Int), .int .u64 (n : Int)] 22)) fun e w' => e = .returned (totalV [sm, n]) ∧ Below W1.heap.size W1 w' from by
   have hown : (w8.alloc (.cells #[.int .u64 (sm : Int), .int .u64 (n : Int)] 22)).ownsRow w8.heap.size 22 1 (.slice (some ⟨w8.heap.size, 0, none⟩) 2 2) 2 ([sm, n].flatMap uC) := by
    rw [uC_flat]
    exact ⟨rfl, .inr ⟨w8.heap.size, 2, #[.int .u64 (sm : Int), .int .u64 (n : Int)], rfl, Nat.le_refl _, HX8.out, by decide, by decide, rfl, rfl⟩⟩
   obtain ⟨hrow, -⟩ := own_rows hown rfl (fun x _ => rfl)
   have hlt : ∀ x ∈ [sm, n], x < 18446744073709551616 := fun x hx => by
    simp only [List.mem_cons, List.not_mem_nil, or_false] at hx
    rcases hx with rfl | rfl
    · exact HSM.out
    · exact HNN.out
   have hal : Below w8.heap.size w8 (w8.alloc (.cells #[.int .u64 (sm : Int), .int .u64 (n : Int)] 22)) := (Below.refl _ _).alloc (Nat.le_refl _) _
   have hb9 := HB8.out.trans (hal.mono HB8.out.size)
   refine (rtotal_is _ (some ⟨w8.heap.size, 0, none⟩) 2 2 [sm, n] hrow hlt (by decide)).mono ?_
   rintro e w' ⟨he, hb⟩
   exact ⟨he, hb9.trans (hb.mono hb9.size)⟩)
 clear hb81
 go_wp2_with (refine wpList_buildN' rfl 79 22 2 _ rfl _ 1 8 Tryd.underlying79 info_u64 [.tmp 32, .tmp 33] rfl [.int .u64 (sm : Int), .int .u64 (n : Int)] rfl (by simp [Value.cells]) rfl rfl (by decide) (by decide) (by decide) ?_)
 refine HT2.out.mono ?_
 rintro _ w9 ⟨rfl, hb9⟩
 have HB9 := Lib.hid hb9
 clear hb9 HT2 HX8 HB8 HTOT
 by_cases hfit : sm + n < 18446744073709551616
 · have ht : totalV [sm, n] = .tuple #[.int .u64 ((sm + n : Nat) : Int), .int .i64 0] := by unfold totalV; rw [if_pos (by simpa using hfit)]; simp
   have HE := Lib.hid (show fundRE r s id n = 0 by rw [HGOOD.out, if_pos hfit])
   have HBK := Lib.hid (show fundRB r s id n = { r with has := setR r.has s id (gs + n) } by rw [HRB.out, if_pos HE.out])
   have hgn : gs + n < 18446744073709551616 := by have := HGE2.out; omega
   have HGN := Lib.hid hgn
   have hwrp : IntKind.u64.wrap ((gs : Int) + (n : Int)) = ((gs + n : Nat) : Int) := by rw [IntKind.wrap_u64]; omega
   rw [ht]
   clear ht hfit hgn
   go_upto_region 7 with (fail)
   have hS0 : FS w b0 L LI w9.drew := by
    have hd := HB9.out.drew
    exact ⟨H1.out.below hd H1.out.lt, H2.out.below hd H2.out.lt, HB1.out.trans (hd.mono HB1.out.size), _, rfl, H3.out.below hd H3.out.lt⟩
   have HB0L := Lib.hid (show w.heap.size ≤ b0 by rw [HBQ.out]; exact Nat.le_refl _)
   refine wp_region_noPanic ?_
   refine wp_region_held_drew (S := (FS w b0 L LI)) (by kernel_rfl) hS0 (fun hH0 => ?_)
   refine tk 0 (v := (.agg L.toArray)) rfl (yieldsIf_load_mid (by kernel_rfl) 31 (.tmp 4) rfl b0 0 rfl L _ (fun w' h => h.1.row0) Tryd.underlying31 rfl SZB.out) hH0 ?_
   simp only [Act.put, qa]
   apply tk 1 (v := _) rfl (Or.inl ⟨by kernel_rfl, ?hv⟩) hH0 ?_
   case hv => intro w' hS; go_simp; try exact rfl
   simp only [Act.put, qa]
   refine tk 2 (v := (.agg LI.toArray)) rfl (yieldsIf_load_mid (by kernel_rfl) 38 (.tmp 6) rfl (b0 + 1) 0 rfl LI _ (fun w' h => h.2.1.row0) Tryd.underlying38 rfl SZI.out) hH0 ?_
   simp only [Act.put, qa]
   refine tk 3 (v := (.agg L.toArray)) rfl (yieldsIf_load_mid (by kernel_rfl) 31 (.tmp 4) rfl b0 0 rfl L _ (fun w' h => h.1.row0) Tryd.underlying31 rfl SZB.out) hH0 ?_
   simp only [Act.put, qa]
   apply tk 4 (v := _) rfl (Or.inl ⟨by kernel_rfl, ?hv⟩) hH0 ?_
   case hv => intro w' hS; go_simp; try exact rfl
   simp only [Act.put, qa]
   refine tk 5 (v := (.agg LI.toArray)) rfl (yieldsIf_load_mid (by kernel_rfl) 38 (.tmp 6) rfl (b0 + 1) 0 rfl LI _ (fun w' h => h.2.1.row0) Tryd.underlying38 rfl SZI.out) hH0 ?_
   simp only [Act.put, qa]
   apply tk 7 (v := _) rfl (Or.inl ⟨by kernel_rfl, ?hv⟩) hH0 ?_
   case hv => intro w' hS; go_simp; try exact rfl
   simp only [Act.put, qa]
   refine wpAnyH_ready (rs := [6]) (by kernel_rfl) (by simp) ?_
   refine AllReadyH.cons rfl (fun KK hKK => ?_) AllReadyH.nil
   go_simp
   refine (HG.out _ hH0.2.2.1).mono ?_
   rintro _ x6 ⟨rfl, hx6⟩
   have hs6 : FS w b0 L LI x6 := hH0.below hx6
   clear hx6
   refine Shut.out hKK _ _ hs6 (fun hH1 => ?_)
   clear hKK KK
   try simp only [Act.put, qa]
   apply tk 8 (v := _) rfl (Or.inl ⟨by kernel_rfl, ?hv⟩) hH1 ?_
   case hv => intro w' hS; go_simp; try exact rfl
   simp only [Act.put, qa]
   refine wpAnyH_ready (rs := [9]) (by kernel_rfl) (by simp) ?_
   refine AllReadyH.cons rfl (fun KK hKK => ?_) AllReadyH.nil
   go_simp
   refine (HSET.out _ _ HGN.out hH1.2.2.1).mono ?_
   rintro _ x9 ⟨⟨L', rfl, hr9⟩, hx9⟩
   have hs9 : FS w b0 L LI x9 := hH1.below hx9
   clear hx9
   refine Shut.out hKK _ _ hs9 (fun hH2 => ?_)
   clear hKK KK
   try simp only [Act.put, qa]
   refine wpAnyH_ready (rs := [10]) (by kernel_rfl) (by simp) ?_
   refine AllReadyH.cons rfl (fun KK hKK => ?_) AllReadyH.nil
   obtain ⟨hq1, hq2, hq3⟩ := hH2.set HB0L.out hr9
   obtain ⟨Z9, hz9, hz⟩ := hH2.2.2.2
   refine step_store_mid rfl 31 (.tmp 8) (.tmp 51) rfl (b0 + 2) 0 L'.toArray rfl rfl (hz.there 0 _ (by rw [hz9, List.size_toArray, hr9.len]; decide)) (by rw [List.size_toArray]; exact size_rb hr9.len) hr9.one ?_
   obtain ⟨xb, hxb⟩ : ∃ y, y = x9.setCells (b0 + 2) 0 L' := ⟨_, rfl⟩
   rw [← hxb] at hq1 hq2 hq3
   change KK _ (x9.setCells (b0 + 2) 0 L')
   rw [← hxb]
   clear hxb hz hz9
   refine Shut.out hKK _ _ hq1 (fun hH3 => ?_)
   clear hKK KK
   try simp only [Act.put, qa]
   apply tk 11 (v := _) rfl (Or.inl ⟨by kernel_rfl, ?hv⟩) hH3 ?_
   case hv => intro w' hS; go_simp; try exact rfl
   simp only [Act.put, qa]
   refine wpAnyH_done (by kernel_rfl) ?_ _
   refine NoPanic.normal ?_
   have HF := Lib.hid hq2
   have HFB := Lib.hid hq1
   have HRR := Lib.hid hq3
   clear hq1 hq2 hq3
   go_wp2_with fail
   refine bodyPost_ret (results_cell_tmp rfl _ _ (b0 + 2) 31 L'.toArray (0, 0) _ rfl rfl HF.out Tryd.underlying31 (by rw [List.size_toArray]; exact size_rb HRR.out.len)) rfl ?_
   exact ⟨⟨L', by rw [HE.out]; rfl, by rw [HBK.out]; exact HRR.out⟩, HFB.out.2.2.1⟩
 · have ht : totalV [sm, n] = .tuple #[.int .u64 0, .int .i64 10] := by unfold totalV; rw [if_neg (by simpa using hfit)]
   have HE := Lib.hid (show fundRE r s id n = 10 by rw [HGOOD.out, if_neg hfit])
   have HB10 := Lib.hid (show fundRB r s id n = r by rw [HRB.out, HE.out]; rfl)
   rw [ht]
   clear ht hfit
   skip
   obtain ⟨hz3, hs3, hr3, hb3⟩ := HEND.out w9 L r (HR.out.below (HB1.out.trans (HB9.out.mono HB1.out.size))) (HB9.out)
   have HZ3 := Lib.hid hz3
   have HF1 := Lib.hid hs3
   have HF2 := Lib.hid (And.intro hr3 hb3)
   have HI0 := Lib.hid (HX.out w9 (HB9.out)).1
   clear hz3 hs3 hr3 hb3
   go_wp2_with (first
      | (refine wpList_load_mid rfl 31 (.tmp 4) rfl b0 0 rfl L _ HI0.out Tryd.underlying31 rfl SZB.out ?_)
      | (refine wpList_store_row rfl 31 (.tmp 8) (.tmp 40) rfl (b0 + 2) L.toArray rfl rfl 31 _ HZ3.out SZA.out SZ4.out HONE.out ?_))
   refine bodyPost_ret (results_cell_tmp rfl _ _ (b0 + 2) 31 L.toArray (0, 0) _ rfl rfl HF1.out Tryd.underlying31 SZA.out) rfl ?_
   exact ⟨⟨L, by rw [HE.out]; rfl, by rw [HB10.out]; exact HF2.out.1⟩, by rw [← HBQ.out]; exact HF2.out.2⟩
end Go.Proofs.YtcekammjpghjnaaDoor

