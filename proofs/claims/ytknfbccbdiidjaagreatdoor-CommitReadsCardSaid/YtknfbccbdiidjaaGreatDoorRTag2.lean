/- The walk of (*sha.Tag).Sum: the digest for one purpose. -/
import Derived.Test.YtknfbccbdiidjaaGreatDoorWs
import Derived.Test.YtknfbccbdiidjaaGreatDoorRTag1
namespace Go.Proofs.YtknfbccbdiidjaaGreatDoor
set_option linter.unusedVariables false
set_option linter.unusedSimpArgs false
open Go.ChangeShapes Go.WideShapes Go.ChangeAt Go.RowKit Go.Maps

def tagD (K s0 : List Wd) (s : ByteArray) (m : List Nat) : List Nat := digest K s0 (digest K s0 (sbytes s) ++ digest K s0 (sbytes s) ++ m)
def PartsN (w : World) (g : Nat) (v : Value) (ps : List (List Nat)) : Prop :=
 ∃ a c, v = .slice a ps.length c ∧ (0 < ps.length → ∃ pg po, a = some ⟨pg, po, none⟩ ∧ pg ≠ g ∧ ∀ i, i < ps.length → ∃ pv, w.cell? ⟨pg, po + i, none⟩ = some pv ∧ Bytes w g pv (ps.getD i []))
theorem enters_tag : ∀ args w, (callFunc 80 args).run Tryz.prog w = .ok (.enter 80 args) w := enters_of Tryz.func80 (by kernel_rfl) rfl
theorem addI64_is (a : Addr) (x : Int) (w : World) (hc : w.cell? a = some (.int .i64 x)) (hz : w.frozen? a = false) (h0 : 0 ≤ x) (h1 : x < 1000000) :
  Calls Tryz.prog 83 #[.pointer (some a), .int .i64 1] w fun e w' => e = .returned (.int .i64 (x + 1)) ∧ w' = w.setCell a (.int .i64 (x + 1)) := by
 have hs : (Op.intArith .add .i64 x 1).run Tryz.prog w = .ok (.int .i64 (x + 1)) w := by
  have : IntKind.i64.wrap (x + 1) = x + 1 := by rw [IntKind.wrap_i64]; omega
  simp [go_sem, this]
 have hadd := run_call_add (P := Tryz.prog) Tryz.func108 (by kernel_rfl) (by kernel_rfl) (by kernel_rfl) .i64 (by kernel_rfl) (y := 1) (s := x + 1) hc hz hs
 go_enter Tryz.func83, Tryz.ntmps83
 go_wp2
 go_ret
 exact ⟨rfl, rfl⟩
theorem HshT.putP {P P' : List Value} {U : Value} {K s0 : List Wd} {w w' : World} {g : Nat} {m : List Nat} (h : HshT P U K s0 w g m) (hP : P'.length = 4) (hw : ∀ s rest at_ n, Has w g 178 (tcells P U s rest at_ n).toArray → Has w' g 178 (tcells P' U s rest at_ n).toArray) : HshT P' U K s0 w' g m := by
 obtain ⟨rest, ⟨h1, h2, h3, h4, h5⟩, h6, h7⟩ := h
 exact ⟨rest, ⟨hw _ _ _ _ h1, h2, h3, h4, hP⟩, h6, h7⟩
theorem tc_setP (s : ByteArray) (d l d' l' : Int) (U : Value) (st : List Wd) (rest : List Nat) (at_ n : Int) : (((tcells (tagP s d l) U st rest at_ n).toArray.setIfInBounds 1 (.int .u32 d')).setIfInBounds 2 (.int .i32 l')) = (tcells (tagP s d' l') U st rest at_ n).toArray := by
 rw [List.setIfInBounds_toArray, List.setIfInBounds_toArray]; rfl
theorem tc_setL (s : ByteArray) (d l l' : Int) (U : Value) (st : List Wd) (rest : List Nat) (at_ n : Int) : ((tcells (tagP s d l) U st rest at_ n).toArray.setIfInBounds 2 (.int .i32 l')) = (tcells (tagP s d l') U st rest at_ n).toArray := by
 rw [List.setIfInBounds_toArray]; rfl
theorem tc_setU {P : List Value} (hP : P.length = 4) (U U' : Value) (st : List Wd) (rest : List Nat) (at_ n : Int) (hs : st.length = 8) (hr : rest.length = 64) : ((tcells P U st rest at_ n).toArray.setIfInBounds 78 U') = (tcells P U' st rest at_ n).toArray := by
 rw [List.setIfInBounds_toArray]
 congr 1
 unfold tcells
 rw [List.set_append_right _ _ (by omega), List.set_append_right _ _ (by rw [hcells_len _ _ _ _ hs hr]; omega), hcells_len _ _ _ _ hs hr, hP]; rfl
theorem zero_hasher : ∃ Z : Array Value, (∀ w, (zeroValue 173).run Tryz.prog w = .ok (.agg Z) w) ∧ Z.size = 74 ∧ ¬ Z = #[] := by
 have hs : (hcells (List.replicate 8 0) (List.replicate 64 0) 0 0).toArray.size = 74 := by kernel_rfl
 exact ⟨(hcells (List.replicate 8 0) (List.replicate 64 0) 0 0).toArray, fun w => by kernel_rfl, hs, fun e => (by rw [e] at hs; cases hs)⟩
structure TagOk (K s0 : List Wd) (s : ByteArray) (u : Int) (w : World) (g : Nat) : Prop where
 hsh : HshT (tagP s 1 0) (.int .i64 u) K s0 w g (digest K s0 (sbytes s) ++ digest K s0 (sbytes s))
theorem tagDo_is (K s0 : List Wd) (w : World) (hT : Tabs K s0 w) (g B1 : Nat) (s : ByteArray) (hs : s.size ≤ 1000000) (hlow : 2 + 1 ≤ g) (hg : Has w g 178 (tag0 s).toArray) (hb : w.cell? ⟨B1, 0, none⟩ = some (.pointer (some ⟨g, 0, none⟩))) (hne : B1 ≠ g) :
   Calls Tryz.prog 79 #[.pointer (some ⟨g, 1, none⟩), .func (.func 80) #[] #[.pointer (some ⟨B1, 0, none⟩)]] w fun e w' => e = .returned (.tuple #[]) ∧ TagOk K s0 s 0 w' g ∧ Kept (· = g) w w' := by
 have hset := hg.set 2 (.int .i32 1)
 unfold tag0 at hset
 rw [tc_setL] at hset
 have hk0 : Kept (· = g) w (w.setCell ⟨g, 2, none⟩ (.int .i32 1)) := (Kept.refl (· = g) w).set (p := ⟨g, 2, none⟩) (.inl rfl) _
 have hT1 : Tabs K s0 (w.setCell ⟨g, 2, none⟩ (.int .i32 1)) := hT.kept hk0 (fun k e => by have e' : k = g := e; omega)
 have hb1 : (w.setCell ⟨g, 2, none⟩ (.int .i32 1)).cell? ⟨B1, 0, none⟩ = some (.pointer (some ⟨g, 0, none⟩)) := cell_held hk0 hb hne
 have hfill := tagFill_is K s0 _ hT1 g B1 s hs hlow hset hb1 hne
 refine (do_first 80 (.pointer (some ⟨B1, 0, none⟩)) g 1 w (FillP K s0 (w.setCell ⟨g, 2, none⟩ (.int .i32 1)) g s) (hg.cell_is rfl) (hg.cell_is rfl) (hg.free _) (hg.free _) hfill enters_tag ?_).mono ?_
 · rintro w' ⟨⟨rest, ⟨h1, -⟩, -⟩, -⟩
   exact ⟨h1.cell_is rfl, h1.cell_is rfl, h1.free _, h1.free _⟩
 · intro e w' ⟨he, w2, ⟨p1, p2⟩, hw⟩
   refine ⟨he, ⟨p1.putP rfl (fun st rest at_ n h => ?_)⟩, ?_⟩
   · rw [hw, ← tc_setP s 0 1 1 0]
     exact (h.drew.set 1 _).set 2 _
   · rw [hw]
     exact ((hk0.trans p2).drew.set (p := ⟨g, 1, none⟩) (.inl rfl) _).set (p := ⟨g, 2, none⟩) (.inl rfl) _
set_option maxRecDepth 100000 in
set_option maxHeartbeats 4000000 in
theorem tagSum_is (K s0 : List Wd) (w : World) (hT : Tabs K s0 w) (g : Nat) (s : ByteArray) (hs : s.size ≤ 1000000) (hlow : 2 + 1 ≤ g) (hg : Has w g 178 (tag0 s).toArray) (v : Value) (ps : List (List Nat)) (hP : PartsN w g v ps) (hl : ps.flatten.length ≤ 100000000) (hn : ps.length ≤ 1000000) :
  Calls Tryz.prog 54 #[.pointer (some ⟨g, 0, none⟩), v] w fun e w' => e = .returned (arr (tagD K s0 s ps.flatten)) ∧ Kept (· = g) w w' := by
 have hmf : ∀ (fn : Fn) (first cap : Array Value) (w : World), (Instr.makeFunc fn first cap).run Tryz.prog w = .ok (.func fn first cap) w := fun _ _ _ _ => rfl
 obtain ⟨zk, hzk, hzs, hzn⟩ := zero_hashT
 obtain ⟨zh, hzh, hzhs, hzhn⟩ := zero_hasher
 obtain ⟨a, c, rfl, hps⟩ := hP
 obtain ⟨n, hnn⟩ : ∃ n, n = ps.length := ⟨_, rfl⟩
 rw [← hnn] at hn hps
 rw [← hnn]
 have HN := Lib.hid hnn
 have HPS := Lib.hid hps
 have HT := Lib.hid hT
 have HL := Lib.hid hl
 have HG := Lib.hid hg
 have hgl := hg.lt
 obtain ⟨d0, hd0⟩ : ∃ l, l = digest K s0 (sbytes s) ++ digest K s0 (sbytes s) := ⟨_, rfl⟩
 have HD0 := Lib.hid hd0
 have HD64 := Lib.hid (show d0.length = 64 by rw [hd0, List.length_append, digest_length K s0 hT.len])
 have h1 : Has ((w.alloc (.cells #[.pointer (some ⟨g, 0, none⟩)] 115)).alloc (.cells zk 27)) w.heap.size 115 #[.pointer (some ⟨g, 0, none⟩)] := (Has.new w _ _).alloc _
 have h4 : Has ((w.alloc (.cells #[.pointer (some ⟨g, 0, none⟩)] 115)).alloc (.cells zk 27)) (w.heap.size + 1) 27 zk := by
  have := Has.new (w.alloc (.cells #[.pointer (some ⟨g, 0, none⟩)] 115)) 27 zk
  simpa using this
 have hb1 : Below w.heap.size w ((w.alloc (.cells #[.pointer (some ⟨g, 0, none⟩)] 115)).alloc (.cells zk 27)) := ((Below.refl _ _).alloc (Nat.le_refl _) _).alloc (by simp) _
 have EZS := Lib.hid hzs
 have EZH := Lib.hid hzhs
 clear hnn hps hT hl hg hd0 hzs hzhs
 go_enter Tryz.func54, Tryz.ntmps54
 go_upto_region 1 with (fail)
 generalize (w.alloc (.cells #[.pointer (some ⟨g, 0, none⟩)] 115)).alloc (.cells zk 27) = W1 at h1 h4 hb1 ⊢
 obtain ⟨B4, hB4⟩ : ∃ b, b = w.heap.size + 1 := ⟨_, rfl⟩
 obtain ⟨B1, hB1⟩ : ∃ b, b = w.heap.size := ⟨_, rfl⟩
 have HPL := Lib.hid (show w.heap.size ≤ B1 ∧ B1 < B4 ∧ g < B1 by omega)
 have H1 := Lib.hid (show Has W1 B1 115 #[.pointer (some ⟨g, 0, none⟩)] by rw [hB1]; exact h1)
 have H4 := Lib.hid (show Has W1 B4 27 zk by rw [hB4]; exact h4)
 have HB1 := Lib.hid hb1
 rw [← hB4, ← hB1]
 have HG1 := Lib.hid (HG.out.below hb1 hgl)
 have HT1 := Lib.hid (HT.out.below hb1 HT.out.low)
 have c1 := H1.out.cell_is (i := 0) (v := .pointer (some ⟨g, 0, none⟩)) rfl
 clear h1 h4 hb1 hB4 hB1
 go_wp2_with fail
 refine (tagDo_is K s0 W1 HT1.out g B1 s hs hlow HG1.out (H1.out.cell_is rfl) (by have := HPL.out; omega)).mono ?_
 rintro _ w2 ⟨rfl, htk, hk2⟩
 have HK2 := Lib.hid hk2
 have H1b := Lib.hid (H1.out.kept hk2 (by have := HPL.out; show ¬ B1 = g; omega))
 obtain ⟨rest, ⟨hto, ht8, ht64, htx, htP⟩, htr, htl⟩ := htk.hsh
 have c78 := hto.cell_is (i := 78) (v := .int .i64 0) (by
  rw [List.getElem?_toArray, tcells, List.getElem?_append_right (by rw [htP]; decide), List.getElem?_append_right (by rw [htP, hcells_len _ _ _ _ ht8 ht64]; decide), htP, hcells_len _ _ _ _ ht8 ht64]; rfl)
 have f78 := hto.free 78
 have hset := hto.set 78 (.int .i64 1)
 rw [tc_setU htP _ _ _ _ _ _ ht8 ht64] at hset
 have hk3 : Kept (· = g) w2 (w2.setCell ⟨g, 78, none⟩ (.int .i64 1)) := (Kept.refl (· = g) w2).set (p := ⟨g, 78, none⟩) (.inl rfl) _
 have hrow : (w2.setCell ⟨g, 78, none⟩ (.int .i64 1)).rangeAt g 4 (hcells (eat K ((digest K s0 (sbytes s) ++ digest K s0 (sbytes s)).length / 64) s0 (digest K s0 (sbytes s) ++ digest K s0 (sbytes s))) rest (((digest K s0 (sbytes s) ++ digest K s0 (sbytes s)).length % 64 : Nat) : Int) ((digest K s0 (sbytes s) ++ digest K s0 (sbytes s)).length : Nat)) := fun j u hu => by
  have hj := (List.getElem?_eq_some_iff.1 hu).1
  rw [hcells_len _ _ _ _ ht8 ht64] at hj
  refine hset.cell_is ?_
  rw [List.getElem?_toArray, tcells_mid htP _ _ _ _ ht8 ht64 j hj]; exact hu
 have c1b := H1b.out.cell_is (i := 0) (v := .pointer (some ⟨g, 0, none⟩)) rfl
 obtain ⟨LH, hLH⟩ : ∃ l, l = hcells (eat K ((digest K s0 (sbytes s) ++ digest K s0 (sbytes s)).length / 64) s0 (digest K s0 (sbytes s) ++ digest K s0 (sbytes s))) rest (((digest K s0 (sbytes s) ++ digest K s0 (sbytes s)).length % 64 : Nat) : Int) ((digest K s0 (sbytes s) ++ digest K s0 (sbytes s)).length : Nat) := ⟨_, rfl⟩
 rw [← hLH] at hrow
 have HLN := Lib.hid (show LH.length = 74 by rw [hLH]; exact hcells_len _ _ _ _ ht8 ht64)
 have HHS := Lib.hid (show ∀ W G, Has W G 173 LH.toArray → Hsh K s0 W G d0 from fun W G h => by
  rw [HD0.out]
  refine ⟨rest, ⟨?_, ht8, ht64, htx⟩, htr, htl⟩
  rw [hLH] at h; exact h)
 have SZH := Lib.hid (show (Tryz.prog.info? 173).map (·.size) = some LH.length by rw [HLN.out]; kernel_rfl)
 have SZHA := Lib.hid (show (Tryz.prog.info? 173).map (·.size) = some LH.toArray.size by rw [List.size_toArray, HLN.out]; kernel_rfl)
 have SZH2 := Lib.hid (show zh.size = LH.toArray.size by rw [EZH.out, List.size_toArray, HLN.out])
 have ONEH := Lib.hid (show LH.toArray.all (·.oneCell') = true by rw [hLH]; exact hcells_one _ _ _ _)
 have HRW := Lib.hid hrow
 have HK3 := Lib.hid hk3
 have H1c := Lib.hid (H1b.out.kept hk3 (by have := HPL.out; show ¬ B1 = g; omega))
 clear c1 hk2 htk hto ht8 ht64 htx htP htr htl hset hk3 hrow hLH
 go_wp2_with fail
 refine (addI64_is ⟨g, 78, none⟩ 0 w2 c78 f78 (by decide) (by decide)).mono ?_
 rintro _ w3 ⟨rfl, rfl⟩
 have hz1 : (0 : Int) + 1 = 1 := by decide
 rw [hz1]
 generalize w2.setCell ⟨g, 78, none⟩ (.int .i64 1) = W3 at HRW HK3 H1c ⊢
 clear c1b c78 f78 hz1
 have c1c := H1c.out.cell_is (i := 0) (v := .pointer (some ⟨g, 0, none⟩)) rfl
 go_upto_region 6 with (first
  | (refine wpList_load_mid rfl 173 (.tmp 22) rfl g 4 rfl LH _ HRW.out Tryz.underlying173 rfl SZH.out ?_)
  | (refine wpList_store_row rfl 173 (.tmp 5) (.tmp 23) rfl W3.heap.size LH.toArray rfl rfl 173 zh (heap_alloc_new W3 _) SZHA.out SZH2.out ONEH.out ?_))
 have hnw : Has ((W3.alloc (.cells zh 173)).setRow W3.heap.size LH.toArray) W3.heap.size 173 LH.toArray ∧ Below W3.heap.size W3 ((W3.alloc (.cells zh 173)).setRow W3.heap.size LH.toArray) := by
  rw [World.setRow_alloc_new]
  exact ⟨Has.new _ _ _, (Below.refl _ _).alloc (Nat.le_refl _) _⟩
 generalize (W3.alloc (.cells zh 173)).setRow W3.heap.size LH.toArray = W at hnw ⊢
 have hk13 := HK2.out.trans HK3.out
 have HKW := Lib.hid (hk13.trans (Kept.of_below (S := (· = g)) hnw.2))
 have HG5 := Lib.hid (show B4 < W3.heap.size ∧ W1.heap.size ≤ W3.heap.size from ⟨Nat.lt_of_lt_of_le H4.out.lt hk13.size, hk13.size⟩)
 generalize W3.heap.size = G5 at hnw HG5 ⊢
 have H5 := Lib.hid (HHS.out W G5 hnw.1)
 have H4W := Lib.hid (H4.out.kept HKW.out (by have := HPL.out; show ¬ B4 = g; omega))
 have HTW := Lib.hid (HT1.out.kept HKW.out (fun k e => by have e' : k = g := e; omega))
 have HWW := Lib.hid (show Kept (fun k => k = g ∨ w.heap.size ≤ k) w W from ((Kept.of_below HB1.out).trans (HKW.out.mono (fun k _ e => .inl e))))
 clear hnw hk13 c1c
 go_wp2_with fail
 go_loopw [26] (fun i wr => ∃ k : Nat, k ≤ n ∧ i = .int .i64 k ∧ Hsh K s0 wr G5 (d0 ++ (ps.take k).flatten) ∧ Kept (· = G5) W wr) (fun i _ => n - (intOf i).toNat)
 case atStart => exact ⟨0, by omega, rfl, by rw [List.take_zero, List.flatten_nil, List.append_nil]; exact H5.out, Kept.refl _ _⟩
 case round =>
  obtain ⟨k, hk, rfl, hW, hK⟩ := hrel
  have HW := Lib.hid hW
  have HKR := Lib.hid hK
  clear hW hK
  by_cases hlt : k < n
  · have hn0 : 0 < n := by omega
    obtain ⟨pg, po, hpa, hpg, hrow⟩ := HPS.out hn0
    obtain ⟨pv, hpv, hB⟩ := hrow k hlt
    clear hrow
    subst hpa
    have hpl := World.block_lt_of_cell? w _ hpv
    have cpv0 : W.cell? ⟨pg, po + k, none⟩ = some pv := cell_kept HWW.out hpv (by dsimp only at hpl; show ¬ (pg = g ∨ w.heap.size ≤ pg); omega)
    have cpv : wr.cell? ⟨pg, po + k, none⟩ = some pv := cell_kept HKR.out cpv0 (by have := HG5.out; have := HPL.out; dsimp only at hpl; show ¬ pg = G5; omega)
    have hBw : Bytes wr G5 pv (ps.getD k []) := by
     obtain ⟨a', c', e1, e2, e3, e4⟩ := hB
     refine ⟨a', c', e1, e2, e3, fun h0 => ?_⟩
     obtain ⟨bg, bo, q1, q2, q3⟩ := e4 h0
     have hbl := World.block_lt_of_cell? w _ (q3 0 h0)
     dsimp only at hbl
     have h5 := HG5.out
     have h6 := HPL.out
     exact ⟨bg, bo, q1, by omega, fun i hi => cell_kept HKR.out (cell_kept HWW.out (q3 i hi) (by show ¬ (bg = g ∨ w.heap.size ≤ bg); omega)) (by show ¬ bg = G5; omega)⟩
    have HBW := Lib.hid hBw
    obtain ⟨pa, pn, pc, rfl⟩ : ∃ pa pn pc, pv = .slice pa pn pc := by obtain ⟨a', c', e, _⟩ := hB; exact ⟨_, _, _, e⟩
    clear hB hBw hpv hpl cpv0
    go_wp2_with fail
    have hTw := HTW.out.kept HKR.out (fun k e => by have e' : k = G5 := e; have := HG5.out; have := HPL.out; omega)
    have hlen : (d0 ++ (ps.take k).flatten).length + (ps.getD k []).length ≤ 1000000000 := by
     have h7 := take_flatten_le ps (k + 1)
     rw [← take_flatten ps k (by rw [← HN.out]; exact hlt), List.length_append] at h7
     have h8 := HL.out
     have h9 := HD64.out
     rw [List.length_append]
     omega
    refine (write_is K s0 wr G5 (d0 ++ (ps.take k).flatten) _ (ps.getD k []) hTw HW.out (by have := HG5.out; have := HPL.out; omega) HBW.out hlen).mono ?_
    rintro _ w4 ⟨rfl, hh4, hk4⟩
    rw [List.append_assoc, take_flatten ps k (by rw [← HN.out]; exact hlt)] at hh4
    have HH4 := Lib.hid hh4
    have HK4 := Lib.hid (HKR.out.trans hk4)
    clear hTw hlen hh4 hk4 HW HKR HBW
    go_wp2
    go_roundw
    case rel => exact ⟨k + 1, by omega, by go_num, HH4.out, HK4.out⟩
    case measure => simp [intOf]; omega
  · have hk9 : k = n := by omega
    have hTw := HTW.out.kept HKR.out (fun k e => by have e' : k = G5 := e; have := HG5.out; have := HPL.out; omega)
    have h0 := H4W.out.kept HKR.out (by have := HG5.out; show ¬ B4 = G5; omega)
    have hh : Hsh K s0 wr G5 (d0 ++ ps.flatten) := by
     have := HW.out
     rw [hk9, HN.out, List.take_length] at this
     exact this
    have HT9 := Lib.hid hTw
    have HH0 := Lib.hid h0
    have HHH := Lib.hid hh
    have HKK := Lib.hid (HWW.out.trans (HKR.out.mono (S' := fun k => k = g ∨ w.heap.size ≤ k) (fun k _ e => by have e' : k = G5 := e; have := HG5.out; have := HPL.out; right; omega)))
    clear hk9 hTw h0 hh HW HKR
    go_wp2_with fail
    refine (hsum_is K s0 wr G5 (d0 ++ ps.flatten) HT9.out HHH.out).mono ?_
    rintro _ w5 ⟨rfl, hb5⟩
    have h05 := HH0.out.below hb5 HH0.out.lt
    have h32 := digest_length K s0 HT.out.len (d0 ++ ps.flatten)
    obtain ⟨D, hDD⟩ : ∃ D, D = digest K s0 (d0 ++ ps.flatten) := ⟨_, rfl⟩
    rw [← hDD] at h32 ⊢
    have hsz : (Tryz.prog.info? 27).map (·.size) = some (bcells D).toArray.size := by rw [List.size_toArray, bcells_length, h32]; kernel_rfl
    have hsz2 : zk.size = (bcells D).toArray.size := by rw [EZS.out, List.size_toArray, bcells_length, h32]
    have hres : Has (w5.setRow B4 (bcells D).toArray) B4 27 (bcells D).toArray := h05.setRow
    have hkf : Kept (· = g) w (w5.setRow B4 (bcells D).toArray) := by
     have hk6 := (HKK.out.trans (Kept.of_below (S := fun k => k = g ∨ w.heap.size ≤ k) hb5)).step (kept_setRow (g := B4) w5 (bcells D).toArray) (fun j e => by have e' : j = B4 := e; have := HPL.out; right; omega)
     exact hk6.mono (fun k hk e => by rcases e with e | e; exact e; omega)
    have HDD := Lib.hid (show D = tagD K s0 s ps.flatten by rw [hDD, HD0.out]; rfl)
    have HRES := Lib.hid hres
    have HKF := Lib.hid hkf
    have HZ := Lib.hid hsz
    have HZ2 := Lib.hid hsz2
    have HH05 := Lib.hid h05
    clear h05 h32 hsz hsz2 hres hkf hDD hb5
    unfold arr
    go_wp2_with (refine wpList_store_row rfl 27 (.tmp 4) (.tmp 33) rfl B4 (bcells D).toArray rfl rfl 27 _ HH05.out HZ.out HZ2.out (all_oneCell_toArray (bcells_one D)) ?_)
    refine bodyPost_ret (results_cell_row rfl _ _ B4 27 (bcells D).toArray (0, 0) _ rfl HRES.out Tryz.underlying27 rfl HZ.out) rfl ?_
    exact ⟨by rw [← HDD.out]; rfl, HKF.out⟩
end Go.Proofs.YtknfbccbdiidjaaGreatDoor

