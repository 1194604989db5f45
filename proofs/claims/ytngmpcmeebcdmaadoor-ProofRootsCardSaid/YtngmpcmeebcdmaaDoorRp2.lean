/- The walk of the reference's Root. -/
import Derived.Test.YtngmpcmeebcdmaaDoorPf5
import Derived.Test.YtngmpcmeebcdmaaDoorRef4
import Derived.Deep.Cut
import Derived.Deep.CutRange
namespace Go.Proofs.YtngmpcmeebcdmaaDoor
set_option linter.unusedVariables false
set_option linter.unusedSimpArgs false
open Go.ChangeShapes Go.WideShapes Go.ChangeAt Go.RowKit Go.Maps

/-- two nodes of the reference, compared field by field. -/
theorem rn_any (x y : Nd) (hx : IsHash x.h) (hy : IsHash y.h) (w : World) : (Op.equalIn 10000 62 (.agg (ndV x).toArray) (.agg (ndV y).toArray)).run Tryd.prog w = .ok (ndSame x y) w := by
  obtain ⟨f0, f1, hf, ⟨n0, t0, o0⟩, ⟨n1, t1, o1⟩⟩ := rn_fields
  have hid : ∀ z : Nd, IsHash z.h → ((ndV z).drop 0).take 32 = bcells z.h := fun z hz => by
    rw [List.drop_zero, ndV, ncells, List.take_append_of_le_length (by rw [bcells_length, hz.1]; exact Nat.le_refl _)]
    exact List.take_of_length_le (by rw [bcells_length, hz.1]; exact Nat.le_refl _)
  have ham : ∀ z : Nd, IsHash z.h → (ndV z)[32]? = some (.int .u64 (z.s : Int)) := fun z hz => by
    rw [ndV, ncells, List.getElem?_append_right (by rw [bcells_length, hz.1]; exact Nat.le_refl _), bcells_length, hz.1]; rfl
  have q0 : ∀ z : Nd, IsHash z.h → (part f0.type (ndV z).toArray f0.offset).run Tryd.prog w = .ok (.agg (bcells z.h).toArray) w := fun z hz => by
    rw [t0, o0, part_agg Tryd.underlying27 (k := 32) (by kernel_rfl), extract_list, hid z hz]
  have q1 : ∀ z : Nd, IsHash z.h → (part f1.type (ndV z).toArray f1.offset).run Tryd.prog w = .ok (.int .u64 (z.s : Int)) w := fun z hz => by
    rw [t1, o1]
    exact part_int Tryd.underlying30 (by rw [List.getElem?_toArray]; exact ham z hz) w
  have e0 : (Op.equalIn 9999 f0.type (.agg (bcells x.h).toArray) (.agg (bcells y.h).toArray)).run Tryd.prog w = .ok (decide (x.h = y.h)) w := by
    rw [t0]
    exact hash_eq26_at 9997 x.h y.h hx hy w
  have e1 : (Op.equalIn 9999 f1.type (.int .u64 (x.s : Int)) (.int .u64 (y.s : Int))).run Tryd.prog w = .ok (decide (x.s = y.s)) w := by
    rw [t1]
    have := run_equalIn_int (P := Tryd.prog) w 9998 30 .u64 .u64 (x.s : Int) (y.s : Int) Tryd.underlying30
    rw [this, show ((x.s : Int) == (y.s : Int)) = decide (x.s = y.s) from (by rw [Bool.eq_iff_iff, beq_iff_eq, decide_eq_true_eq]; omega)]
  rw [run_equalIn_struct w 9999 62 _ _ rn_struct (by kernel_rfl), hf, eqF_any n0 (q0 x hx) (q0 y hy) e0]
  unfold ndSame
  by_cases h1 : x.h = y.h
  · rw [if_pos (decide_eq_true h1), eqF_any n1 (q1 x hx) (q1 y hy) e1]
    by_cases h2 : x.s = y.s
    · rw [if_pos (decide_eq_true h2), eqF_nil, decide_eq_true ⟨h1, h2⟩]
    · rw [if_neg (by rw [decide_eq_false h2]; decide), decide_eq_false (fun e => h2 e.2)]
  · rw [if_neg (by rw [decide_eq_false h1]; decide), decide_eq_false (fun e => h1 e.1)]
theorem at_rno (b o n c k : Nat) (hk : k < n) (w : World) : (Instr.indexAt 72 (.slice (some ⟨b, o, none⟩) n c) (.int .i64 (k : Int))).run Tryd.prog w = .ok (.pointer (some ⟨b, o + k * 33, none⟩)) w := by
  have hu : Tryd.prog.underlying 72 = some (.slice (Tryd.prog.elem 72)) := by kernel_rfl
  have he : Tryd.prog.elem 72 = 62 := by kernel_rfl
  have hz : ∀ w, (sizeOf 62).run Tryd.prog w = .ok 33 w := fun w => by kernel_rfl
  rw [run_indexAt_slice w 72 ⟨b, o, none⟩ n c .i64 (k : Int) hu, if_pos ⟨by omega, by omega⟩, he, hz]
  simp only [Result.andThen, Int.toNat_natCast, Addr.add_mid]
theorem digs_smallR {x : Nat} (h : x < 18446744073709551616) : (digs x).length ≤ 1000 := by
  have := (digs_len x 8).2 (by rw [show 256 ^ 8 = 18446744073709551616 from rfl]; exact h)
  omega
theorem digs_smallS {x : Nat} (h : x < 36893488147419103232) : (digs x).length ≤ 1000000 := by
  have := (digs_len x 9).2 (Nat.lt_trans h (by decide))
  omega
/-- the world of the reference's way. -/
structure RtW (K s0 : List Wd) (w : World) (B5 B6 B7 B10 B12 ge : Nat) (LT LP CK : List Value) (Z : Array Value) (ln : List Value) (wr : World) : Prop where
  t : Has wr B5 69 LT.toArray
  p : Has wr B6 74 LP.toArray
  k : Has wr B7 27 CK.toArray
  r : Has wr B10 62 Z
  n : Has wr B12 62 ln.toArray
  es : EmpAt wr K s0 ge
  bel : Below w.heap.size w wr
theorem EmpAt.kept {K s0 : List Wd} {S : Nat → Prop} {w w' : World} {g : Nat} (h : EmpAt w K s0 g) (hk : Kept S w w') (hs : ¬ S g) : EmpAt w' K s0 g :=
  ⟨by have := hk.size; have := h.1; omega, fun j hj => rangeAt_kept (h.2 j hj) hk hs⟩
section
variable {K s0 : List Wd} {w : World} {B5 B6 B7 B10 B12 ge : Nat} {LT LP CK : List Value} {Z : Array Value} {ln : List Value} {wr wr' : World}
theorem RtW.below (h : RtW K s0 w B5 B6 B7 B10 B12 ge LT LP CK Z ln wr) (hb : Below wr.heap.size wr wr') : RtW K s0 w B5 B6 B7 B10 B12 ge LT LP CK Z ln wr' :=
  ⟨h.t.below hb h.t.lt, h.p.below hb h.p.lt, h.k.below hb h.k.lt, h.r.below hb h.r.lt, h.n.below hb h.n.lt, h.es.kept (Kept.of_below (S := fun _ => False) hb) (fun e => e), h.bel.trans (hb.mono h.bel.size)⟩
structure RtG (w : World) (B5 B6 B7 B10 B12 ge : Nat) : Prop where
  pl : w.heap.size ≤ B5 ∧ B5 < B6 ∧ B6 < B7 ∧ B7 < B10 ∧ B10 < B12 ∧ B12 < ge
theorem RtW.setN (h : RtW K s0 w B5 B6 B7 B10 B12 ge LT LP CK Z ln wr) (g : RtG w B5 B6 B7 B10 B12 ge) (l : List Value) : RtW K s0 w B5 B6 B7 B10 B12 ge LT LP CK Z l (wr.setRow B12 l.toArray) := by
  have hk := kept_setRow (g := B12) wr l.toArray
  have hg := g.pl
  exact ⟨h.t.kept hk (by show ¬ B5 = B12; omega), h.p.kept hk (by show ¬ B6 = B12; omega), h.k.kept hk (by show ¬ B7 = B12; omega), h.r.kept hk (by show ¬ B10 = B12; omega), h.n.setRow, h.es.kept hk (by show ¬ ge = B12; omega), h.bel.trans (hk.below h.bel.size (fun j e => by have e' : j = B12 := e; omega))⟩
theorem RtW.keep (h : RtW K s0 w B5 B6 B7 B10 B12 ge LT LP CK Z ln wr) (g : RtG w B5 B6 B7 B10 B12 ge) {G : Nat} (hG : ge < G) (hk : Kept (fun j => j = G) wr wr') : RtW K s0 w B5 B6 B7 B10 B12 ge LT LP CK Z ln wr' := by
  have hg := g.pl
  exact ⟨h.t.kept hk (by show ¬ B5 = G; omega), h.p.kept hk (by show ¬ B6 = G; omega), h.k.kept hk (by show ¬ B7 = G; omega), h.r.kept hk (by show ¬ B10 = G; omega), h.n.kept hk (by show ¬ B12 = G; omega), h.es.kept hk (by show ¬ ge = G; omega), h.bel.trans (hk.below h.bel.size (fun j e => by have e' : j = G := e; omega))⟩
theorem RtW.ret (h : RtW K s0 w B5 B6 B7 B10 B12 ge LT LP CK Z ln wr) (g : RtG w B5 B6 B7 B10 B12 ge) (C : Array Value) : Has (wr.setRow B10 C) B10 62 C ∧ Below w.heap.size w (wr.setRow B10 C) :=
  ⟨h.r.setRow, h.bel.trans ((kept_setRow (g := B10) wr C).below h.bel.size (fun j e => by have e' : j = B10 := e; have := g.pl; omega))⟩
end
set_option maxRecDepth 100000 in
set_option maxHeartbeats 8000000 in
theorem rroot_is (K s0 : List Wd) (hK : K.length = 64) (hs0 : s0.length = 8) (w : World) (f : Nat → Bool) (a : Option Addr) (n c : Nat) (xs : List Nd) (hxs : NodesAt w a n xs) (hn : n ≤ 1000000)
    (key : List Nat) (hkey : IsHash key) (v : Value) (bs : List Nat) (s : Nat) (hB : Bytes w w.heap.size v bs) (hl : bs.length ≤ 100000) (hs : s < 18446744073709551616) (R : Except Nat Nd)
    (hR : R = pfRoot K s0 f key xs (leafNd K s0 bs s)) :
    Calls Tryd.prog 28 #[.agg (tabsL s0 K).toArray, .agg (rpcells f a n c).toArray, arr key, v, .int .u64 (s : Int)] w fun e w' => e = .returned (.tuple #[.agg (ndV (pfN R)).toArray, .int .i64 (pfE R : Nat)]) ∧ Below w.heap.size w w' := by
  obtain ⟨Z, hz, hZs, hZn, hZ⟩ := rn_zero
  obtain ⟨n0, hn0⟩ : ∃ x, x = leafNd K s0 bs s := ⟨_, rfl⟩
  obtain ⟨LT, hLT⟩ : ∃ L, L = tabsL s0 K := ⟨_, rfl⟩
  obtain ⟨LP, hLP⟩ : ∃ L, L = rpcells f a n c := ⟨_, rfl⟩
  obtain ⟨CK, hCK⟩ : ∃ L, L = bcells key := ⟨_, rfl⟩
  have lt72 := tabs_length K s0 hK hs0
  have lp : LP.length = 257 := by rw [hLP]; exact rpcells_len f a n c
  have lk : CK.length = 32 := by rw [hCK, bcells_length, hkey.1]
  have hrow : LP[256]? = some (.slice a n c) := by rw [hLP]; exact rpcells_row f a n c
  have hbit : ∀ h, h < 256 → LP[h]? = some (.bool (f h)) := fun h hh => by rw [hLP]; exact rpcells_bit f a n c h hh
  have hZz : Z = (ndV zNd).toArray := hZ
  have hbd : ∀ W, (Instr.build 62 #[]).run Tryd.prog W = .ok (.agg Z) W := fun W => by rw [hZ]; kernel_rfl
  rw [← hn0] at hR
  have hn0h : IsHash n0.h := by rw [hn0]; exact leaf_hash K s0 hs0 bs s
  have hn0s : n0.s = s := by rw [hn0]; rfl
  have hof : ∀ W, Below w.heap.size w W → Calls Tryd.prog 57 #[.agg LT.toArray, v, .int .u64 (s : Int)] W fun e w' => e = .returned (.agg (ndV n0).toArray) ∧ Below W.heap.size W w' := fun W hW => by
    rw [hLT, hn0]
    exact refOf_is K s0 hK hs0 W v bs s (hB.alive hW hW.size) hl hs
  have hemp : ∀ W, Calls Tryd.prog 58 #[.agg LT.toArray] W (EmpP W K s0) := fun W => by rw [hLT]; exact refEmpties_is K s0 hK hs0 W
  have hbr : ∀ W (x y : Nd), IsHash x.h → IsHash y.h → x.s + y.s < 18446744073709551616 → Calls Tryd.prog 60 #[.agg LT.toArray, .agg (ndV x).toArray, .agg (ndV y).toArray] W fun e w' => e = .returned (.agg (ndV (brNd K s0 x y)).toArray) ∧ Below W.heap.size W w' := fun W x y hx hy hf => by
    rw [hLT]
    exact refBranch_is K s0 hK hs0 W x.h y.h x.s y.s hx hy hf
  have hbt : ∀ W h, h < 256 → Calls Tryd.prog 59 #[.agg CK.toArray, .int .i64 ((h : Nat) : Int)] W fun e w' => e = .returned (.int .i64 (bitAt key h : Nat)) ∧ Below W.heap.size W w' := fun W h hh => by
    rw [hCK]
    exact (refBit_in key (h : Int) W hkey (by omega) (by omega)).mono fun e w' ⟨h1, h2⟩ => ⟨by rw [h1, Int.toNat_natCast], by rw [h2]; exact (Below.refl _ _).alloc (Nat.le_refl _) _⟩
  unfold arr
  rw [← hLT, ← hLP, ← hCK]
  rw [← hLT] at lt72
  have SZT := Lib.hid (show (Tryd.prog.info? 69).map (·.size) = some LT.toArray.size by rw [List.size_toArray, lt72]; kernel_rfl)
  have SZK := Lib.hid (show (Tryd.prog.info? 27).map (·.size) = some CK.toArray.size by rw [List.size_toArray, lk]; kernel_rfl)
  have SZZ := Lib.hid (show (Tryd.prog.info? 62).map (·.size) = some Z.size by rw [hZs]; kernel_rfl)
  have ONEZ := Lib.hid (show Z.all (·.oneCell') = true by rw [hZ]; exact all_oneCell_toArray (ncells_one _ _))
  have SZN := Lib.hid (show ∀ x : Nd, IsHash x.h → (Tryd.prog.info? 62).map (·.size) = some (ndV x).toArray.size from fun x hx => by rw [List.size_toArray, ndV_len hx]; kernel_rfl)
  have SZL := Lib.hid (show ∀ x : Nd, IsHash x.h → (Tryd.prog.info? 62).map (·.size) = some (ndV x).length from fun x hx => by rw [ndV_len hx]; kernel_rfl)
  have HZN := Lib.hid (show ∀ x : Nd, IsHash x.h → Z.size = (ndV x).toArray.size from fun x hx => by rw [hZs, List.size_toArray, ndV_len hx])
  have HNN := Lib.hid (show ∀ x y : Nd, IsHash x.h → IsHash y.h → (ndV x).toArray.size = (ndV y).toArray.size from fun x y hx hy => by rw [List.size_toArray, List.size_toArray, ndV_len hx, ndV_len hy])
  have HEH := Lib.hid (show ∀ h, IsHash (emptyNd K s0 h).h from fun h => empty_hash K s0 hs0 h)
  have H8 := Lib.hid hs0
  have HXS := Lib.hid hxs
  have HOF := Lib.hid hof
  have HEMP := Lib.hid hemp
  have HBRR := Lib.hid hbr
  have HBT := Lib.hid hbt
  have HROW := Lib.hid hrow
  have HBITS := Lib.hid hbit
  have EN0 := Lib.hid (And.intro hn0h hn0s)
  have ER := Lib.hid hR
  have EZ := Lib.hid hZz
  have HBD := Lib.hid hbd
  have HS := Lib.hid hs
  obtain ⟨av, cv, rfl, -⟩ := id hB
  obtain ⟨nb, hnb⟩ : ∃ x, x = bs.length := ⟨_, rfl⟩
  rw [← hnb] at HOF ⊢
  clear hZ hZz hn0 hLT hLP hCK hbd hrow hbit hof hemp hbr hbt hxs hB hl hn0h hn0s hR hZs lp lk lt72 hkey hs hK hs0 hnb
  go_enter Tryd.func28, Tryd.ntmps28
  go_upto_region 1 with (fail)
  have h5 : Has ((((w.alloc (.cells LT.toArray 69)).alloc (.cells LP.toArray 74)).alloc (.cells CK.toArray 27)).alloc (.cells Z 62)) w.heap.size 69 LT.toArray := (((Has.new w _ _).alloc _).alloc _).alloc _
  have h6 : Has ((((w.alloc (.cells LT.toArray 69)).alloc (.cells LP.toArray 74)).alloc (.cells CK.toArray 27)).alloc (.cells Z 62)) (w.heap.size + 1) 74 LP.toArray := by
    have := Has.new (w.alloc (.cells LT.toArray 69)) 74 LP.toArray
    exact ((by simpa using this : Has _ (w.heap.size + 1) _ _).alloc _).alloc _
  have h7 : Has ((((w.alloc (.cells LT.toArray 69)).alloc (.cells LP.toArray 74)).alloc (.cells CK.toArray 27)).alloc (.cells Z 62)) (w.heap.size + 1 + 1) 27 CK.toArray := by
    have := Has.new ((w.alloc (.cells LT.toArray 69)).alloc (.cells LP.toArray 74)) 27 CK.toArray
    exact (by simpa using this : Has _ (w.heap.size + 1 + 1) _ _).alloc _
  have h10 : Has ((((w.alloc (.cells LT.toArray 69)).alloc (.cells LP.toArray 74)).alloc (.cells CK.toArray 27)).alloc (.cells Z 62)) (w.heap.size + 1 + 1 + 1) 62 Z := by
    have := Has.new (((w.alloc (.cells LT.toArray 69)).alloc (.cells LP.toArray 74)).alloc (.cells CK.toArray 27)) 62 Z
    simpa using this
  have hb1 : Below w.heap.size w ((((w.alloc (.cells LT.toArray 69)).alloc (.cells LP.toArray 74)).alloc (.cells CK.toArray 27)).alloc (.cells Z 62)) :=
    ((((Below.refl _ _).alloc (Nat.le_refl _) _).alloc (by simp) _).alloc (by simp; omega) _).alloc (by simp; omega) _
  generalize (((w.alloc (.cells LT.toArray 69)).alloc (.cells LP.toArray 74)).alloc (.cells CK.toArray 27)).alloc (.cells Z 62) = W1 at h5 h6 h7 h10 hb1 ⊢
  have H5 := Lib.hid h5
  have H6 := Lib.hid h6
  have H7 := Lib.hid h7
  have H10 := Lib.hid h10
  have HB1 := Lib.hid hb1
  clear h5 h6 h7 h10 hb1
  go_wp2_with (refine wpList_load_row rfl 69 (.tmp 5) rfl w.heap.size rfl 69 LT.toArray (0, 0) _ H5.out Tryd.underlying69 rfl SZT.out ?_)
  refine (HOF.out _ HB1.out).mono ?_
  rintro _ w2 ⟨rfl, hb2⟩
  have hnw : Has ((w2.alloc (.cells Z 62)).setRow w2.heap.size (ndV n0).toArray) w2.heap.size 62 (ndV n0).toArray ∧ Below W1.heap.size W1 ((w2.alloc (.cells Z 62)).setRow w2.heap.size (ndV n0).toArray) := by
    rw [World.setRow_alloc_new]
    exact ⟨Has.new _ _ _, hb2.alloc hb2.size _⟩
  have HN2 := Lib.hid hnw
  have HS2 := Lib.hid hb2.size
  clear hb2 hnw
  go_upto_region 2 with (refine wpList_store_row rfl 62 (.tmp 12) (.tmp 22) rfl w2.heap.size (ndV n0).toArray rfl rfl 62 Z (heap_alloc_new w2 _) (SZN.out _ EN0.out.1) (HZN.out _ EN0.out.1) (ndV_one _) ?_)
  generalize (w2.alloc (.cells Z 62)).setRow w2.heap.size (ndV n0).toArray = W3 at HN2 ⊢
  have H53 := Lib.hid (H5.out.below HN2.out.2 H5.out.lt)
  go_wp2_with (refine wpList_load_row rfl 69 (.tmp 5) rfl w.heap.size rfl 69 LT.toArray (0, 0) _ H53.out Tryd.underlying69 rfl SZT.out ?_)
  refine (HEMP.out W3).mono ?_
  rintro _ w4 ⟨ge, ce, rfl, hes, hge, hb4⟩
  have hrg : RtG w w.heap.size (w.heap.size + 1) (w.heap.size + 1 + 1) (w.heap.size + 1 + 1 + 1) w2.heap.size ge := ⟨by have h1 := H10.out.lt; have h2 := HS2.out; have h3 := HN2.out.1.lt; omega⟩
  have hrt : RtW K s0 w w.heap.size (w.heap.size + 1) (w.heap.size + 1 + 1) (w.heap.size + 1 + 1 + 1) w2.heap.size ge LT LP CK Z (ndV n0) w4 :=
    ⟨H53.out.below hb4 H53.out.lt, (H6.out.below HN2.out.2 H6.out.lt).below hb4 (by have := H6.out.lt; have := HN2.out.2.size; omega), (H7.out.below HN2.out.2 H7.out.lt).below hb4 (by have := H7.out.lt; have := HN2.out.2.size; omega), (H10.out.below HN2.out.2 H10.out.lt).below hb4 (by have := H10.out.lt; have := HN2.out.2.size; omega), HN2.out.1.below hb4 HN2.out.1.lt, hes, (HB1.out.trans (HN2.out.2.mono HB1.out.size)).trans (hb4.mono (by have := HB1.out.size; have := HN2.out.2.size; omega))⟩
  have HRG := Lib.hid hrg
  have HRT := Lib.hid hrt
  clear hes hge hb4 hrg hrt HN2 HS2 H53 H5 H6 H7 H10 HB1 HOF HEMP
  obtain ⟨B12, hB12⟩ : ∃ g, g = w2.heap.size := ⟨_, rfl⟩
  rw [← hB12] at HRT HRG ⊢
  obtain ⟨B10, hB10⟩ : ∃ g, g = w.heap.size + 1 + 1 + 1 := ⟨_, rfl⟩
  rw [← hB10] at HRT HRG ⊢
  obtain ⟨B7, hB7⟩ : ∃ g, g = w.heap.size + 1 + 1 := ⟨_, rfl⟩
  rw [← hB7] at HRT HRG ⊢
  obtain ⟨B6, hB6⟩ : ∃ g, g = w.heap.size + 1 := ⟨_, rfl⟩
  rw [← hB6] at HRT HRG ⊢
  clear hB12 hB10 hB7 hB6
  go_wp2_with fail
  go_loopw [14, 15] (fun uv hv wr => ∃ (u h : Nat) (nd : Nd), uv = .int .i64 (u : Int) ∧ hv = .int .i64 (h : Int) ∧ h ≤ 256 ∧ pfAt K s0 f key xs n0 h = .ok (nd, u) ∧ RtW K s0 w w.heap.size B6 B7 B10 B12 ge LT LP CK Z (ndV nd) wr) (fun _ hv _ => 256 - (intOf hv).toNat)
  case atStart => exact ⟨0, 0, n0, rfl, rfl, Nat.zero_le _, rfl, HRT.out⟩
  case round =>
    clear HRT
    obtain ⟨u, h, nd, rfl, rfl, hh, hpf, hrt⟩ := hrel
    have hnh : IsHash nd.h := pfAt_hash H8.out EN0.out.1 h hpf
    have hns : nd.s < 18446744073709551616 := pfAt_fits (by rw [EN0.out.2]; exact HS.out) h hpf
    have hun : u ≤ n := by have := (pfAt_sum h hpf).1; rw [HXS.out.len] at this; exact this
    have HRT := Lib.hid hrt
    have HPF := Lib.hid hpf
    have HNH := Lib.hid hnh
    have HNS := Lib.hid hns
    clear hpf hrt hnh hns
    by_cases hlt : h < 256
    · have hlt' : (h : Int) < 256 := by omega
      have hat := at_rn ge 257 ce h (by omega)
      have hre := HRT.out.es.2 h (by omega)
      have HRE := Lib.hid hre
      have hnw : RtW K s0 w w.heap.size B6 B7 B10 B12 ge LT LP CK Z (ndV nd) ((wr.alloc (.cells Z 62)).setRow wr.heap.size (ndV (emptyNd K s0 h)).toArray) ∧ Has ((wr.alloc (.cells Z 62)).setRow wr.heap.size (ndV (emptyNd K s0 h)).toArray) wr.heap.size 62 (ndV (emptyNd K s0 h)).toArray := by
        rw [World.setRow_alloc_new]
        exact ⟨HRT.out.below ((Below.refl _ _).alloc (Nat.le_refl _) _), Has.new _ _ _⟩
      have hg16 : ge < wr.heap.size := HRT.out.es.1
      have HNW := Lib.hid hnw
      clear hre hnw
      go_upto_region 8 with (first
        | (refine wpList_load_mid rfl 62 (.tmp 31) rfl ge (h * 33) rfl (ndV (emptyNd K s0 h)) _ HRE.out Tryd.underlying62 rfl (SZL.out _ (HEH.out h)) ?_)
        | (refine wpList_store_row rfl 62 (.tmp 16) (.tmp 32) rfl wr.heap.size (ndV (emptyNd K s0 h)).toArray rfl rfl 62 Z (heap_alloc_new wr _) (SZN.out _ (HEH.out h)) (HZN.out _ (HEH.out h)) (ndV_one _) ?_))
      generalize (wr.alloc (.cells Z 62)).setRow wr.heap.size (ndV (emptyNd K s0 h)).toArray = W5 at HNW ⊢
      generalize wr.heap.size = G16 at HNW hg16 ⊢
      have HG16 := Lib.hid hg16
      clear hg16 HRE HRT
      obtain ⟨bt, hbt⟩ : ∃ b, b = f h := ⟨_, rfl⟩
      have ch := HNW.out.1.p.cell_is (i := h) (by rw [List.getElem?_toArray]; exact HBITS.out h hlt)
      rw [← hbt] at ch
      have c256 := HNW.out.1.p.cell_is (i := 256) (by rw [List.getElem?_toArray]; exact HROW.out)
      have EBT := Lib.hid hbt
      clear hbt
      go_upto_if 37 with (fail)
      clear ch
      go_cut [14] from 25 to 83 (fun uv wx => ∃ (u' : Nat) (x : Nd), uv = .int .i64 (u' : Int) ∧ u' ≤ n ∧ IsHash x.h ∧ x.s < 18446744073709551616 ∧ pfAt K s0 f key xs n0 (h + 1) = pfBr K s0 key h nd x u' ∧ RtW K s0 w w.heap.size B6 B7 B10 B12 ge LT LP CK Z (ndV nd) wx ∧ Has wx G16 62 (ndV x).toArray)
      case first =>
        as_aux_lemma =>
          cases bt with
          | true =>
            have HFIN := Lib.hid (pfAt_bare h HPF.out EBT.out.symm)
            go_wp2
            go_meet
            case rel => exact ⟨u, emptyNd K s0 h, rfl, hun, HEH.out h, by rw [empty_sum]; decide, HFIN.out, HNW.out.1, HNW.out.2⟩
          | false =>
            by_cases hu : u = n
            · have hue : (n : Int) ≤ (u : Int) := by omega
              have HRES := Lib.hid (show R = .error 20 by
                rw [ER.out]
                exact pf_err (h := h + 1) (by omega) (pfAt_none h HPF.out EBT.out.symm (List.getElem?_eq_none (by rw [HXS.out.len]; omega))))
              have HSET := Lib.hid (HNW.out.1.ret HRG.out Z)
              clear hu
              go_wp2_with (first
                | (refine wpList_build_run (by kernel_rfl) 62 _ rfl #[] (by kernel_rfl) (.agg Z) (HBD.out _) ?_)
                | (refine wpList_store_row rfl 62 (.tmp 10) (.tmp 43) rfl B10 Z rfl rfl 62 Z HNW.out.1.r SZZ.out rfl ONEZ.out ?_))
              refine bodyPost_ret (results_cell_tmp rfl _ _ B10 62 Z (0, 0) _ rfl rfl HSET.out.1 Tryd.underlying62 SZZ.out) rfl ?_
              exact ⟨by rw [HRES.out, EZ.out]; rfl, HSET.out.2⟩
            · have hult : u < n := by omega
              have hue : ¬ (n : Int) ≤ (u : Int) := by omega
              obtain ⟨x, hx⟩ : ∃ x, xs[u]? = some x := ⟨_, List.getElem?_eq_getElem (by rw [HXS.out.len]; exact hult)⟩
              have hxh : IsHash x.h := HXS.out.hash x (List.mem_of_getElem? hx)
              have hxs9 : x.s < 18446744073709551616 := HXS.out.fits x (List.mem_of_getElem? hx)
              obtain ⟨b, o, ha, hbl, hr⟩ := (HXS.out.below HNW.out.1.bel).at_ (by omega)
              have hrx := hr u x hx
              have hat2 := at_rno b o n c u hult
              rw [← ha] at hat2
              have hk16 := kept_setRow (g := G16) W5 (ndV x).toArray
              have HRX := Lib.hid hrx
              have HW6 := Lib.hid (show RtW K s0 w w.heap.size B6 B7 B10 B12 ge LT LP CK Z (ndV nd) (W5.setRow G16 (ndV x).toArray) ∧ Has (W5.setRow G16 (ndV x).toArray) G16 62 (ndV x).toArray from ⟨HNW.out.1.keep HRG.out HG16.out hk16, HNW.out.2.setRow⟩)
              have HX := Lib.hid hx
              have HXH := Lib.hid hxh
              have HX9 := Lib.hid hxs9
              have hcmp := rn_any x (emptyNd K s0 h) hxh (HEH.out h)
              obtain ⟨sm, hsm⟩ : ∃ b, b = ndSame x (emptyNd K s0 h) := ⟨_, rfl⟩
              rw [← hsm] at hcmp
              have ESM := Lib.hid hsm
              have hun1 : u + 1 ≤ n := hult
              clear hx hxh hxs9 hr hrx hsm hbl hu hk16 ha
              go_upto_region 13 with (first
                | (refine wpList_load_mid rfl 62 (.tmp 47) rfl b (o + u * 33) rfl (ndV x) _ HRX.out Tryd.underlying62 rfl (SZL.out x HXH.out) ?_)
                | (refine wpList_store_row rfl 62 (.tmp 16) (.tmp 48) rfl G16 (ndV x).toArray rfl rfl 62 (ndV (emptyNd K s0 h)).toArray HNW.out.2 (SZN.out _ HXH.out) (HNN.out _ _ (HEH.out h) HXH.out) (ndV_one _) ?_))
              generalize W5.setRow G16 (ndV x).toArray = W6 at HW6 ⊢
              clear c256 HRX HNW
              have hd6 := Below.refl W6.heap.size W6 |>.drew
              have HW7 := Lib.hid (show RtW K s0 w w.heap.size B6 B7 B10 B12 ge LT LP CK Z (ndV nd) W6.drew ∧ Has W6.drew G16 62 (ndV x).toArray from ⟨HW6.out.1.below hd6, HW6.out.2.below hd6 HW6.out.2.lt⟩)
              have hS13 : W6.drew.rangeAt G16 0 (ndV x) ∧ W6.drew.rangeAt ge (h * 33) (ndV (emptyNd K s0 h)) := ⟨HW7.out.2.row0, HW7.out.1.es.2 h (by omega)⟩
              clear hd6
              refine wp_region_noPanic ?_
              refine wp_region_held_drew (S := (fun v => v.rangeAt G16 0 (ndV x) ∧ v.rangeAt ge (h * 33) (ndV (emptyNd K s0 h)))) (by kernel_rfl) hS13 (fun hH0 => ?_)
              refine wpAnyH_take (i := 0) (v := (.agg (ndV x).toArray)) rfl (by kernel_rfl) (by kernel_rfl) (by kernel_rfl) (fun _ _ _ h => h) (yieldsIf_load_mid (by kernel_rfl) 62 (.tmp 16) rfl G16 0 rfl (ndV x) _ (fun w' h => h.1) Tryd.underlying62 rfl (SZL.out x HXH.out)) hH0 ?_
              simp only [Act.put, List.getElem_toArray, List.getElem_cons_zero, List.getElem_cons_succ, List.setIfInBounds_toArray, List.set_cons_zero, List.set_cons_succ]
              refine wpAnyH_take (i := 1) (v := ((.slice (some ⟨ge, 0, none⟩) 257 ce))) rfl (by kernel_rfl) (by kernel_rfl) (by kernel_rfl) (fun _ _ _ h => h) (Or.inl ⟨by kernel_rfl, by intro w' hS; obtain ⟨z0, z1⟩ := hS; go_simp⟩) hH0 ?_
              simp only [Act.put, List.getElem_toArray, List.getElem_cons_zero, List.getElem_cons_succ, List.setIfInBounds_toArray, List.set_cons_zero, List.set_cons_succ]
              refine wpAnyH_take (i := 2) (v := ((.int .i64 (h : Int)))) rfl (by kernel_rfl) (by kernel_rfl) (by kernel_rfl) (fun _ _ _ h => h) (Or.inl ⟨by kernel_rfl, by intro w' hS; obtain ⟨z0, z1⟩ := hS; go_simp⟩) hH0 ?_
              simp only [Act.put, List.getElem_toArray, List.getElem_cons_zero, List.getElem_cons_succ, List.setIfInBounds_toArray, List.set_cons_zero, List.set_cons_succ]
              refine wpAnyH_take (i := 3) (v := ((.pointer (some ⟨ge, h * 33, none⟩)))) rfl (by kernel_rfl) (by kernel_rfl) (by kernel_rfl) (fun _ _ _ h => h) (Or.inl ⟨by kernel_rfl, by intro w' hS; obtain ⟨z0, z1⟩ := hS; go_simp⟩) hH0 ?_
              simp only [Act.put, List.getElem_toArray, List.getElem_cons_zero, List.getElem_cons_succ, List.setIfInBounds_toArray, List.set_cons_zero, List.set_cons_succ]
              refine wpAnyH_take (i := 4) (v := (.agg (ndV (emptyNd K s0 h)).toArray)) rfl (by kernel_rfl) (by kernel_rfl) (by kernel_rfl) (fun _ _ _ h => h) (yieldsIf_load_mid (by kernel_rfl) 62 (.tmp 54) rfl ge (h * 33) rfl (ndV (emptyNd K s0 h)) _ (fun w' h => h.2) Tryd.underlying62 rfl (SZL.out _ (HEH.out h))) hH0 ?_
              simp only [Act.put, List.getElem_toArray, List.getElem_cons_zero, List.getElem_cons_succ, List.setIfInBounds_toArray, List.set_cons_zero, List.set_cons_succ]
              refine wpAnyH_take (i := 5) (v := ((.bool sm))) rfl (by kernel_rfl) (by kernel_rfl) (by kernel_rfl) (fun _ _ _ h => h) (Or.inl ⟨by kernel_rfl, by intro w' hS; obtain ⟨z0, z1⟩ := hS; go_simp⟩) hH0 ?_
              simp only [Act.put, List.getElem_toArray, List.getElem_cons_zero, List.getElem_cons_succ, List.setIfInBounds_toArray, List.set_cons_zero, List.set_cons_succ]
              refine wpAnyH_done (by kernel_rfl) ?_ _
              refine NoPanic.normal ?_
              clear hS13
              generalize W6.drew = W7 at HW7 ⊢
              cases sm with
              | true =>
                have HRES := Lib.hid (show R = .error 21 by
                  rw [ER.out]
                  exact pf_err (h := h + 1) (by omega) (pfAt_form h HPF.out EBT.out.symm HX.out ESM.out.symm))
                have HSET := Lib.hid (HW7.out.1.ret HRG.out Z)
                go_wp2_with (first
                  | (refine wpList_build_run (by kernel_rfl) 62 _ rfl #[] (by kernel_rfl) (.agg Z) (HBD.out _) ?_)
                  | (refine wpList_store_row rfl 62 (.tmp 10) (.tmp 57) rfl B10 Z rfl rfl 62 Z HW7.out.1.r SZZ.out rfl ONEZ.out ?_))
                refine bodyPost_ret (results_cell_tmp rfl _ _ B10 62 Z (0, 0) _ rfl rfl HSET.out.1 Tryd.underlying62 SZZ.out) rfl ?_
                exact ⟨by rw [HRES.out, EZ.out]; rfl, HSET.out.2⟩
              | false =>
                have HFIN := Lib.hid (pfAt_node h HPF.out EBT.out.symm HX.out ESM.out.symm)
                go_wp2_with fail
                go_meet
                case rel => exact ⟨u + 1, x, by go_num, hun1, HXH.out, HX9.out, HFIN.out, HW7.out.1, HW7.out.2⟩
      case rest =>
      as_aux_lemma =>
        obtain ⟨W7, hW7⟩ : ∃ y, y = wc := ⟨_, rfl⟩
        subst hW7
        obtain ⟨u', x, rfl, hu', hxh, hxs9, hpx, hrw, h16⟩ := hcut
        obtain ⟨sn, hsn⟩ : ∃ j, j = nd.s := ⟨_, rfl⟩
        obtain ⟨sx, hsx⟩ : ∃ j, j = x.s := ⟨_, rfl⟩
        obtain ⟨okb, hok⟩ : ∃ b, b = decide (sn + sx < 18446744073709551616) := ⟨_, rfl⟩
        have hcell : ∀ (G : Nat) (z : Nd) (sz : Nat), IsHash z.h → sz = z.s → ∀ v, Has v G 62 (ndV z).toArray → v.cell? ⟨G, 32, none⟩ = some (.int .u64 (sz : Int)) := fun G z sz hz e v hv => hv.cell_is (by
          rw [List.getElem?_toArray, ndV, ncells, List.getElem?_append_right (by rw [bcells_length, hz.1]; exact Nat.le_refl _), bcells_length, hz.1, e]; rfl)
        have hks : ∀ v, Below W7.heap.size W7 v → v.cell? ⟨B12, 32, none⟩ = some (.int .u64 (sn : Int)) ∧ v.cell? ⟨G16, 32, none⟩ = some (.int .u64 (sx : Int)) := fun v hv =>
          ⟨hcell B12 nd sn HNH.out hsn v (hrw.n.below hv hrw.n.lt), hcell G16 x sx hxh hsx v (h16.below hv h16.lt)⟩
        have hS15 := hks W7.drew (Below.refl _ _).drew
        have hnum : ∀ W (a : Option Addr) (n c : Nat), DigAt W a n c (digs (sn + sx)) → n ≤ 1000000 → Calls Tryd.prog 19 #[.slice a n c] W fun e w' => (∃ y : Nat, e = .returned (.tuple #[.int .u64 (y : Int), .bool okb])) ∧ w' = W := fun W a n c hd hn => by
          rw [hok]
          exact (num_is W a n c (sn + sx) hd hn).mono fun e w' ⟨⟨y, h1, _⟩, h2⟩ => ⟨⟨y, h1⟩, h2⟩
        have HKS := Lib.hid hks
        have HNUM := Lib.hid hnum
        have HS64 := Lib.hid (show sn < 18446744073709551616 ∧ sx < 18446744073709551616 from ⟨by rw [hsn]; exact HNS.out, by rw [hsx]; exact hxs9⟩)
        have HN9 := Lib.hid (show (digs (sn + sx)).length ≤ 1000000 from digs_smallS (by have := HS64.out; omega))
        have EOK := Lib.hid (show okb = decide (nd.s + x.s < 18446744073709551616) by rw [hok, hsn, hsx])
        have HPX := Lib.hid hpx
        have HRW := Lib.hid hrw
        have H16 := Lib.hid h16
        have HXH := Lib.hid hxh
        clear hcell hks hnum hok hsn hsx hpx hrw h16 hxh hxs9 HNW HPF EBT c256
        go_upto_region 15 with (fail)
        refine wp_region_noPanic ?_
        refine wp_region_held_drew (S := (fun v => v.cell? ⟨B12, 32, none⟩ = some (.int .u64 (sn : Int)) ∧ v.cell? ⟨G16, 32, none⟩ = some (.int .u64 (sx : Int)))) (by kernel_rfl) hS15 (fun hH0 => ?_)
        refine wpAnyH_take (i := 0) (v := ((.pointer (some ⟨B12, 32, none⟩)))) rfl (by kernel_rfl) (by kernel_rfl) (by kernel_rfl) (fun _ _ _ h => h) (Or.inl ⟨by kernel_rfl, by intro w' hS; obtain ⟨z0, z1⟩ := hS; go_simp⟩) hH0 ?_
        simp only [Act.put, List.getElem_toArray, List.getElem_cons_zero, List.getElem_cons_succ, List.setIfInBounds_toArray, List.set_cons_zero, List.set_cons_succ]
        refine wpAnyH_take (i := 1) (v := ((.int .u64 (sn : Int)))) rfl (by kernel_rfl) (by kernel_rfl) (by kernel_rfl) (fun _ _ _ h => h) (Or.inl ⟨by kernel_rfl, by intro w' hS; obtain ⟨z0, z1⟩ := hS; go_simp⟩) hH0 ?_
        simp only [Act.put, List.getElem_toArray, List.getElem_cons_zero, List.getElem_cons_succ, List.setIfInBounds_toArray, List.set_cons_zero, List.set_cons_succ]
        refine wpAnyH_take (i := 3) (v := ((.pointer (some ⟨G16, 32, none⟩)))) rfl (by kernel_rfl) (by kernel_rfl) (by kernel_rfl) (fun _ _ _ h => h) (Or.inl ⟨by kernel_rfl, by intro w' hS; obtain ⟨z0, z1⟩ := hS; go_simp⟩) hH0 ?_
        simp only [Act.put, List.getElem_toArray, List.getElem_cons_zero, List.getElem_cons_succ, List.setIfInBounds_toArray, List.set_cons_zero, List.set_cons_succ]
        refine wpAnyH_take (i := 4) (v := ((.int .u64 (sx : Int)))) rfl (by kernel_rfl) (by kernel_rfl) (by kernel_rfl) (fun _ _ _ h => h) (Or.inl ⟨by kernel_rfl, by intro w' hS; obtain ⟨z0, z1⟩ := hS; go_simp⟩) hH0 ?_
        simp only [Act.put, List.getElem_toArray, List.getElem_cons_zero, List.getElem_cons_succ, List.setIfInBounds_toArray, List.set_cons_zero, List.set_cons_succ]
        refine wpAnyH_ready (rs := [2]) (by kernel_rfl) (by simp) ?_
        refine AllReadyH.cons rfl (fun K hK => ?_) AllReadyH.nil
        go_simp
        refine (of_is _ sn HS64.out.1).mono ?_
        rintro _ y1 ⟨⟨v1, rfl, hv1⟩, hd1⟩
        have hj1 : Below W7.heap.size W7 y1 := below_undrew hd1
        have ht1 := HKS.out _ hj1
        have HV1 := Lib.hid hv1
        refine Shut.out hK _ _ ht1 (fun hH1 => ?_)
        clear hK K
        try simp only [Act.put, List.getElem_toArray, List.getElem_cons_zero, List.getElem_cons_succ, List.setIfInBounds_toArray, List.set_cons_zero, List.set_cons_succ]
        refine wpAnyH_ready (rs := [5]) (by kernel_rfl) (by simp) ?_
        refine AllReadyH.cons rfl (fun K hK => ?_) AllReadyH.nil
        go_simp
        refine (of_is _ sx HS64.out.2).mono ?_
        rintro _ y2 ⟨⟨v2, rfl, hv2⟩, hd2⟩
        have hj2 := hj1.trans (hd2.mono hj1.size)
        have ht2 := HKS.out _ hj2
        obtain ⟨a1, c1, rfl, hda⟩ := HV1.out.below hd2
        obtain ⟨a2, c2, rfl, hdb⟩ := hv2
        have HDA := Lib.hid hda
        have HDB := Lib.hid hdb
        clear hda hdb
        refine Shut.out hK _ _ ht2 (fun hH2 => ?_)
        clear hK K
        try simp only [Act.put, List.getElem_toArray, List.getElem_cons_zero, List.getElem_cons_succ, List.setIfInBounds_toArray, List.set_cons_zero, List.set_cons_succ]
        refine wpAnyH_ready (rs := [6]) (by kernel_rfl) (by simp) ?_
        refine AllReadyH.cons rfl (fun K hK => ?_) AllReadyH.nil
        go_simp
        refine (add_is _ a1 _ c1 sn a2 _ c2 sx HDA.out HDB.out (digs_smallR HS64.out.1) (digs_smallR HS64.out.2)).mono ?_
        rintro _ y3 ⟨⟨v3, rfl, hv3⟩, hd3⟩
        have hj3 := hj2.trans (hd3.mono hj2.size)
        have ht3 := HKS.out _ hj3
        obtain ⟨a3, c3, rfl, hdc⟩ := hv3
        have HDC := Lib.hid hdc
        clear hdc
        refine Shut.out hK _ _ ht3 (fun hH3 => ?_)
        clear hK K
        try simp only [Act.put, List.getElem_toArray, List.getElem_cons_zero, List.getElem_cons_succ, List.setIfInBounds_toArray, List.set_cons_zero, List.set_cons_succ]
        refine wpAnyH_ready (rs := [7]) (by kernel_rfl) (by simp) ?_
        refine AllReadyH.cons rfl (fun K hK => ?_) AllReadyH.nil
        go_simp
        refine (HNUM.out _ a3 _ c3 HDC.out HN9.out).mono ?_
        rintro _ y4 ⟨⟨yn, rfl⟩, hy4⟩
        have hj4 : Below W7.heap.size W7 y4 := by rw [hy4]; exact hj3
        have ht4 := HKS.out _ hj4
        have HJ4 := Lib.hid hj4
        clear hy4
        refine Shut.out hK _ _ ht4 (fun hH4 => ?_)
        clear hK K
        try simp only [Act.put, List.getElem_toArray, List.getElem_cons_zero, List.getElem_cons_succ, List.setIfInBounds_toArray, List.set_cons_zero, List.set_cons_succ]
        refine wpAnyH_take (i := 8) (v := ((.tuple #[.int .u64 (yn : Int), .bool okb]))) rfl (by kernel_rfl) (by kernel_rfl) (by kernel_rfl) (fun _ _ _ h => h) (Or.inl ⟨by kernel_rfl, by intro w' hS; obtain ⟨z0, z1⟩ := hS; go_simp⟩) hH4 ?_
        simp only [Act.put, List.getElem_toArray, List.getElem_cons_zero, List.getElem_cons_succ, List.setIfInBounds_toArray, List.set_cons_zero, List.set_cons_succ]
        refine wpAnyH_take (i := 9) (v := ((.int .u64 (yn : Int)))) rfl (by kernel_rfl) (by kernel_rfl) (by kernel_rfl) (fun _ _ _ h => h) (Or.inl ⟨by kernel_rfl, by intro w' hS; obtain ⟨z0, z1⟩ := hS; go_simp⟩) hH4 ?_
        simp only [Act.put, List.getElem_toArray, List.getElem_cons_zero, List.getElem_cons_succ, List.setIfInBounds_toArray, List.set_cons_zero, List.set_cons_succ]
        refine wpAnyH_take (i := 10) (v := ((.bool okb))) rfl (by kernel_rfl) (by kernel_rfl) (by kernel_rfl) (fun _ _ _ h => h) (Or.inl ⟨by kernel_rfl, by intro w' hS; obtain ⟨z0, z1⟩ := hS; go_simp⟩) hH4 ?_
        simp only [Act.put, List.getElem_toArray, List.getElem_cons_zero, List.getElem_cons_succ, List.setIfInBounds_toArray, List.set_cons_zero, List.set_cons_succ]
        refine wpAnyH_take (i := 11) (v := ((.int .u64 (yn : Int)))) rfl (by kernel_rfl) (by kernel_rfl) (by kernel_rfl) (fun _ _ _ h => h) (Or.inl ⟨by kernel_rfl, by intro w' hS; obtain ⟨z0, z1⟩ := hS; go_simp⟩) hH4 ?_
        simp only [Act.put, List.getElem_toArray, List.getElem_cons_zero, List.getElem_cons_succ, List.setIfInBounds_toArray, List.set_cons_zero, List.set_cons_succ]
        refine wpAnyH_take (i := 12) (v := ((.bool okb))) rfl (by kernel_rfl) (by kernel_rfl) (by kernel_rfl) (fun _ _ _ h => h) (Or.inl ⟨by kernel_rfl, by intro w' hS; obtain ⟨z0, z1⟩ := hS; go_simp⟩) hH4 ?_
        simp only [Act.put, List.getElem_toArray, List.getElem_cons_zero, List.getElem_cons_succ, List.setIfInBounds_toArray, List.set_cons_zero, List.set_cons_succ]
        refine wpAnyH_done (by kernel_rfl) ?_ _
        refine NoPanic.normal ?_
        have HRY := Lib.hid (HRW.out.below HJ4.out)
        have H16Y := Lib.hid (H16.out.below HJ4.out H16.out.lt)
        clear hS15 hd1 hd2 hd3 hj1 hj2 hj3 hj4 ht1 ht2 ht3 ht4 HDA HDB HDC HV1 HKS HJ4 HRW H16
        generalize y4 = V1 at HRY H16Y ⊢
        cases okb with
        | false =>
          have hno : ¬ nd.s + x.s < 18446744073709551616 := of_decide_eq_false EOK.out.symm
          have HRES := Lib.hid (show R = .error 10 by
            rw [ER.out]
            exact pf_err (h := h + 1) (by omega) (by rw [HPX.out]; unfold pfBr; rw [if_neg hno]))
          have HSET := Lib.hid (HRY.out.ret HRG.out Z)
          clear hno
          go_wp2_with (first
            | (refine wpList_build_run (by kernel_rfl) 62 _ rfl #[] (by kernel_rfl) (.agg Z) (HBD.out _) ?_)
            | (refine wpList_store_row rfl 62 (.tmp 10) (.tmp 71) rfl B10 Z rfl rfl 62 Z HRY.out.r SZZ.out rfl ONEZ.out ?_))
          refine bodyPost_ret (results_cell_tmp rfl _ _ B10 62 Z (0, 0) _ rfl rfl HSET.out.1 Tryd.underlying62 SZZ.out) rfl ?_
          exact ⟨by rw [HRES.out, EZ.out]; rfl, HSET.out.2⟩
        | true =>
          have hyes : nd.s + x.s < 18446744073709551616 := of_decide_eq_true EOK.out.symm
          obtain ⟨M, hM⟩ : ∃ M, M = (if bitAt key h = 1 then brNd K s0 x nd else brNd K s0 nd x) := ⟨_, rfl⟩
          have hMh : IsHash M.h := by rw [hM]; split <;> exact br_hash K s0 H8.out _ _
          have HNX := Lib.hid (show pfAt K s0 f key xs n0 (h + 1) = .ok (M, u') by
            rw [HPX.out, hM]; unfold pfBr; rw [if_pos hyes])
          have HMH := Lib.hid hMh
          have HYES := Lib.hid hyes
          have EM := Lib.hid hM
          clear hMh hyes hM
          go_wp2_with (refine wpList_load_row rfl 27 (.tmp 7) rfl B7 rfl 27 CK.toArray (0, 0) _ HRY.out.k Tryd.underlying27 rfl SZK.out ?_)
          refine (HBT.out _ h hlt).mono ?_
          rintro _ V2 ⟨rfl, hb2⟩
          have HR2 := Lib.hid (HRY.out.below hb2)
          have H162 := Lib.hid (H16Y.out.below hb2 H16Y.out.lt)
          obtain ⟨bi, hbi⟩ : ∃ b, b = bitAt key h := ⟨_, rfl⟩
          have hbi2 : bi < 2 := by rw [hbi]; exact bitAt_lt key h
          rw [← hbi] at EM
          rw [← hbi]
          clear hb2 hbi HRY H16Y
          rcases (by omega : bi = 1 ∨ bi = 0) with h0 | h0
          · subst h0
            have hM1 : M = brNd K s0 x nd := by have := EM.out; rwa [if_pos (by first | rfl | trivial)] at this
            have HBC := Lib.hid (HBRR.out V2 x nd HXH.out HNH.out (by have := HYES.out; omega))
            rw [← hM1] at HBC
            clear hM1
            go_wp2_with (first
              | (refine wpList_load_row rfl 69 (.tmp 5) rfl w.heap.size rfl 69 LT.toArray (0, 0) _ HR2.out.t Tryd.underlying69 rfl SZT.out ?_)
              | (refine wpList_load_row rfl 62 (.tmp 16) rfl G16 rfl 62 (ndV x).toArray (0, 0) _ H162.out Tryd.underlying62 rfl (SZN.out _ HXH.out) ?_)
              | (refine wpList_load_row rfl 62 (.tmp 12) rfl B12 rfl 62 (ndV nd).toArray (0, 0) _ HR2.out.n Tryd.underlying62 rfl (SZN.out _ HNH.out) ?_))
            refine HBC.out.mono ?_
            rintro _ V3 ⟨rfl, hb3⟩
            have HR3 := Lib.hid (HR2.out.below hb3)
            have HFIN := Lib.hid (HR3.out.setN HRG.out (ndV M))
            clear hb3
            go_wp2_with (refine wpList_store_row rfl 62 (.tmp 12) (.tmp 79) rfl B12 (ndV M).toArray rfl rfl 62 (ndV nd).toArray HR3.out.n (SZN.out _ HMH.out) (HNN.out _ _ HNH.out HMH.out) (ndV_one _) ?_)
            go_roundw
            case rel =>
              have hfin : ∃ (u1 h1 : Nat) (nd1 : Nd), Value.int .i64 (u' : Int) = .int .i64 (u1 : Int) ∧ Value.int .i64 ((h : Int) + 1) = .int .i64 (h1 : Int) ∧ h1 ≤ 256 ∧ pfAt K s0 f key xs n0 h1 = .ok (nd1, u1) ∧ RtW K s0 w w.heap.size B6 B7 B10 B12 ge LT LP CK Z (ndV nd1) (V3.setRow B12 (ndV M).toArray) := ⟨u', h + 1, M, rfl, rfl, by omega, HNX.out, HFIN.out⟩
              first | exact hfin | ((repeat apply Exists.intro); exact ⟨hfin, rfl⟩)
            case measure => simp [intOf]; omega
          · subst h0
            have hM1 : M = brNd K s0 nd x := by have := EM.out; rwa [if_neg (by first | decide | simp)] at this
            have HBC := Lib.hid (HBRR.out V2 nd x HNH.out HXH.out HYES.out)
            rw [← hM1] at HBC
            clear hM1
            go_wp2_with (first
              | (refine wpList_load_row rfl 69 (.tmp 5) rfl w.heap.size rfl 69 LT.toArray (0, 0) _ HR2.out.t Tryd.underlying69 rfl SZT.out ?_)
              | (refine wpList_load_row rfl 62 (.tmp 16) rfl G16 rfl 62 (ndV x).toArray (0, 0) _ H162.out Tryd.underlying62 rfl (SZN.out _ HXH.out) ?_)
              | (refine wpList_load_row rfl 62 (.tmp 12) rfl B12 rfl 62 (ndV nd).toArray (0, 0) _ HR2.out.n Tryd.underlying62 rfl (SZN.out _ HNH.out) ?_))
            refine HBC.out.mono ?_
            rintro _ V3 ⟨rfl, hb3⟩
            have HR3 := Lib.hid (HR2.out.below hb3)
            have HFIN := Lib.hid (HR3.out.setN HRG.out (ndV M))
            clear hb3
            go_wp2_with (refine wpList_store_row rfl 62 (.tmp 12) (.tmp 83) rfl B12 (ndV M).toArray rfl rfl 62 (ndV nd).toArray HR3.out.n (SZN.out _ HMH.out) (HNN.out _ _ HNH.out HMH.out) (ndV_one _) ?_)
            go_roundw
            case rel =>
              have hfin : ∃ (u1 h1 : Nat) (nd1 : Nd), Value.int .i64 (u' : Int) = .int .i64 (u1 : Int) ∧ Value.int .i64 ((h : Int) + 1) = .int .i64 (h1 : Int) ∧ h1 ≤ 256 ∧ pfAt K s0 f key xs n0 h1 = .ok (nd1, u1) ∧ RtW K s0 w w.heap.size B6 B7 B10 B12 ge LT LP CK Z (ndV nd1) (V3.setRow B12 (ndV M).toArray) := ⟨u', h + 1, M, rfl, rfl, by omega, HNX.out, HFIN.out⟩
              first | exact hfin | ((repeat apply Exists.intro); exact ⟨hfin, rfl⟩)
            case measure => simp [intOf]; omega
    · have H256 := Lib.hid (show h = 256 by omega)
      have hlt' : ¬ (h : Int) < 256 := by omega
      have c256 := HRT.out.p.cell_is (i := 256) (by rw [List.getElem?_toArray]; exact HROW.out)
      have hres : R = if u < xs.length then .error 24 else .ok nd := by
        rw [ER.out]
        have h1 := HPF.out
        rw [H256.out] at h1
        exact pf_done h1
      rw [HXS.out.len] at hres
      have HRES := Lib.hid hres
      have HSZ := Lib.hid (HRT.out.ret HRG.out Z)
      have HSN := Lib.hid (HRT.out.ret HRG.out (ndV nd).toArray)
      clear hres hlt hh
      by_cases hu : u < n
      · have hu' : (u : Int) < (n : Int) := by omega
        have HR2 := Lib.hid (show R = .error 24 by rw [HRES.out, if_pos hu])
        go_wp2_with (first
          | (refine wpList_build_run (by kernel_rfl) 62 _ rfl #[] (by kernel_rfl) (.agg Z) (HBD.out _) ?_)
          | (refine wpList_store_row rfl 62 (.tmp 10) (.tmp 89) rfl B10 Z rfl rfl 62 Z HRT.out.r SZZ.out rfl ONEZ.out ?_))
        refine bodyPost_ret (results_cell_tmp rfl _ _ B10 62 Z (0, 0) _ rfl rfl HSZ.out.1 Tryd.underlying62 SZZ.out) rfl ?_
        exact ⟨by rw [HR2.out, EZ.out]; rfl, HSZ.out.2⟩
      · have hu' : ¬ (u : Int) < (n : Int) := by omega
        have HR2 := Lib.hid (show R = .ok nd by rw [HRES.out, if_neg hu])
        go_wp2_with (first
          | (refine wpList_load_row rfl 62 (.tmp 12) rfl B12 rfl 62 (ndV nd).toArray (0, 0) _ HRT.out.n Tryd.underlying62 rfl (SZN.out _ HNH.out) ?_)
          | (refine wpList_store_row rfl 62 (.tmp 10) (.tmp 90) rfl B10 (ndV nd).toArray rfl rfl 62 Z HRT.out.r (SZN.out _ HNH.out) (HZN.out _ HNH.out) (ndV_one _) ?_))
        refine bodyPost_ret (results_cell_tmp rfl _ _ B10 62 (ndV nd).toArray (0, 0) _ rfl rfl HSN.out.1 Tryd.underlying62 (SZN.out _ HNH.out)) rfl ?_
        exact ⟨by rw [HR2.out]; rfl, HSN.out.2⟩
end Go.Proofs.YtngmpcmeebcdmaaDoor
