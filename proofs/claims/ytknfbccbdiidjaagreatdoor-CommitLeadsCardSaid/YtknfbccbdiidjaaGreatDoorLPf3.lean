/- The walk of (*sha.Tag).Sum: the digest for one purpose. -/
import Derived.Test.YtknfbccbdiidjaaGreatDoorWu
import Derived.Test.YtknfbccbdiidjaaGreatDoorLTag1
import Derived.Test.YtknfbccbdiidjaaGreatDoorLTree7
import Derived.Test.YtknfbccbdiidjaaGreatDoorLMem
import Derived.Deep.WholeRow
import Derived.Deep.Cut
import Derived.Deep.CutRange
namespace Go.Proofs.YtknfbccbdiidjaaGreatDoor
set_option linter.unusedVariables false
set_option linter.unusedSimpArgs false
open Go.ChangeShapes Go.WideShapes Go.ChangeAt Go.RowKit Go.Maps

def tagD (K s0 : List Wd) (s : ByteArray) (m : List Nat) : List Nat := digest K s0 (digest K s0 (sbytes s) ++ digest K s0 (sbytes s) ++ m)
def PartsN (w : World) (g : Nat) (v : Value) (ps : List (List Nat)) : Prop :=
 ∃ a c, v = .slice a ps.length c ∧ (0 < ps.length → ∃ pg po, a = some ⟨pg, po, none⟩ ∧ pg ≠ g ∧ ∀ i, i < ps.length → ∃ pv, w.cell? ⟨pg, po + i, none⟩ = some pv ∧ Bytes w g pv (ps.getD i []))
theorem enters_tag : ∀ args w, (callFunc 80 args).run Tryz.prog w = .ok (.enter 80 args) w := enters_of Tryz.func80 (by kernel_rfl) rfl
theorem addI64_is (a : Addr) (x : Int) (w : World) (hc : w.cell? a = some (.int .i64 x)) (hz : w.frozen? a = false) (h0 : 0 ≤ x) (h1 : x < 1000000) :
  Calls Tryz.prog 83 #[.pointer (some a), .int .i64 1] w fun e w' => e = .returned (.int .i64 (x + 1)) ∧ w' = w.setCell a (.int .i64 (x + 1)) := by
 have hs : (Op.intArith .add .i64 x 1).run Tryz.prog w = .ok (.int .i64 (x + 1)) w := by
  have : IntKind.i64.wrap (x + 1) = x + 1 := by rw [IntKind.wrap_i64]; omega
  simp [go_sem, this]
 have hadd := run_call_add (P := Tryz.prog) Tryz.func108 (by kernel_rfl) (by kernel_rfl) (by kernel_rfl) .i64 (by kernel_rfl) (y := 1) (s := x + 1) hc hz hs
 go_enter Tryz.func83, Tryz.ntmps83
 go_wp2
 go_ret
 exact ⟨rfl, rfl⟩
theorem HshT.putP {P P' : List Value} {U : Value} {K s0 : List Wd} {w w' : World} {g : Nat} {m : List Nat} (h : HshT P U K s0 w g m) (hP : P'.length = 4) (hw : ∀ s rest at_ n, Has w g 178 (tcells P U s rest at_ n).toArray → Has w' g 178 (tcells P' U s rest at_ n).toArray) : HshT P' U K s0 w' g m := by
 obtain ⟨rest, ⟨h1, h2, h3, h4, h5⟩, h6, h7⟩ := h
 exact ⟨rest, ⟨hw _ _ _ _ h1, h2, h3, h4, hP⟩, h6, h7⟩
theorem tc_setP (s : ByteArray) (d l d' l' : Int) (U : Value) (st : List Wd) (rest : List Nat) (at_ n : Int) : (((tcells (tagP s d l) U st rest at_ n).toArray.setIfInBounds 1 (.int .u32 d')).setIfInBounds 2 (.int .i32 l')) = (tcells (tagP s d' l') U st rest at_ n).toArray := by
 rw [List.setIfInBounds_toArray, List.setIfInBounds_toArray]; rfl
theorem tc_setL (s : ByteArray) (d l l' : Int) (U : Value) (st : List Wd) (rest : List Nat) (at_ n : Int) : ((tcells (tagP s d l) U st rest at_ n).toArray.setIfInBounds 2 (.int .i32 l')) = (tcells (tagP s d l') U st rest at_ n).toArray := by
 rw [List.setIfInBounds_toArray]; rfl
theorem tc_setU {P : List Value} (hP : P.length = 4) (U U' : Value) (st : List Wd) (rest : List Nat) (at_ n : Int) (hs : st.length = 8) (hr : rest.length = 64) : ((tcells P U st rest at_ n).toArray.setIfInBounds 78 U') = (tcells P U' st rest at_ n).toArray := by
 rw [List.setIfInBounds_toArray]
 congr 1
 unfold tcells
 rw [List.set_append_right _ _ (by omega), List.set_append_right _ _ (by rw [hcells_len _ _ _ _ hs hr]; omega), hcells_len _ _ _ _ hs hr, hP]; rfl
theorem zero_hasher : ∃ Z : Array Value, (∀ w, (zeroValue 173).run Tryz.prog w = .ok (.agg Z) w) ∧ Z.size = 74 ∧ ¬ Z = #[] := by
 have hs : (hcells (List.replicate 8 0) (List.replicate 64 0) 0 0).toArray.size = 74 := by kernel_rfl
 exact ⟨(hcells (List.replicate 8 0) (List.replicate 64 0) 0 0).toArray, fun w => by kernel_rfl, hs, fun e => (by rw [e] at hs; cases hs)⟩
structure TagOk (K s0 : List Wd) (s : ByteArray) (u : Int) (w : World) (g : Nat) : Prop where
 hsh : HshT (tagP s 1 0) (.int .i64 u) K s0 w g (digest K s0 (sbytes s) ++ digest K s0 (sbytes s))
theorem tagDo_is (K s0 : List Wd) (w : World) (hT : Tabs K s0 w) (g B1 : Nat) (s : ByteArray) (hs : s.size ≤ 1000000) (hlow : 2 + 1 ≤ g) (hg : Has w g 178 (tag0 s).toArray) (hb : w.cell? ⟨B1, 0, none⟩ = some (.pointer (some ⟨g, 0, none⟩))) (hne : B1 ≠ g) :
   Calls Tryz.prog 79 #[.pointer (some ⟨g, 1, none⟩), .func (.func 80) #[] #[.pointer (some ⟨B1, 0, none⟩)]] w fun e w' => e = .returned (.tuple #[]) ∧ TagOk K s0 s 0 w' g ∧ Kept (· = g) w w' := by
 have Aa := hg.set 2 (.int .i32 1)
 unfold tag0 at Aa
 rw [tc_setL] at Aa
 have hk0 : Kept (· = g) w (w.setCell ⟨g, 2, none⟩ (.int .i32 1)) := (Kept.refl (· = g) w).set (p := ⟨g, 2, none⟩) (.inl rfl) _
 have hT1 : Tabs K s0 (w.setCell ⟨g, 2, none⟩ (.int .i32 1)) := hT.kept hk0 (fun k e => by have e' : k = g := e; omega)
 have hb1 : (w.setCell ⟨g, 2, none⟩ (.int .i32 1)).cell? ⟨B1, 0, none⟩ = some (.pointer (some ⟨g, 0, none⟩)) := cell_held hk0 hb hne
 have Ab := tagFill_is K s0 _ hT1 g B1 s hs hlow Aa hb1 hne
 refine (do_first 80 (.pointer (some ⟨B1, 0, none⟩)) g 1 w (FillP K s0 (w.setCell ⟨g, 2, none⟩ (.int .i32 1)) g s) (hg.cell_is rfl) (hg.cell_is rfl) (hg.free _) (hg.free _) Ab enters_tag ?_).mono ?_
 · rintro w' ⟨⟨rest, ⟨h1, -⟩, -⟩, -⟩
   exact ⟨h1.cell_is rfl, h1.cell_is rfl, h1.free _, h1.free _⟩
 · intro e w' ⟨he, w2, ⟨p1, p2⟩, hw⟩
   refine ⟨he, ⟨p1.putP rfl (fun st rest at_ n h => ?_)⟩, ?_⟩
   · rw [hw, ← tc_setP s 0 1 1 0]
     exact (h.drew.set 1 _).set 2 _
   · rw [hw]
     exact ((hk0.trans p2).drew.set (p := ⟨g, 1, none⟩) (.inl rfl) _).set (p := ⟨g, 2, none⟩) (.inl rfl) _
set_option maxRecDepth 100000 in
set_option maxHeartbeats 4000000 in
theorem tagSum_is (K s0 : List Wd) (w : World) (hT : Tabs K s0 w) (g : Nat) (s : ByteArray) (hs : s.size ≤ 1000000) (hlow : 2 + 1 ≤ g) (hg : Has w g 178 (tag0 s).toArray) (v : Value) (ps : List (List Nat)) (hP : PartsN w g v ps) (hl : ps.flatten.length ≤ 100000000) (hn : ps.length ≤ 1000000) :
  Calls Tryz.prog 54 #[.pointer (some ⟨g, 0, none⟩), v] w fun e w' => e = .returned (arr (tagD K s0 s ps.flatten)) ∧ Kept (· = g) w w' := by
 have hmf : ∀ (fn : Fn) (first cap : Array Value) (w : World), (Instr.makeFunc fn first cap).run Tryz.prog w = .ok (.func fn first cap) w := fun _ _ _ _ => rfl
 obtain ⟨zk, hzk, hzs, hzn⟩ := zero_hashT
 obtain ⟨zh, hzh, Ak, hzhn⟩ := zero_hasher
 obtain ⟨a, c, rfl, hps⟩ := hP
 obtain ⟨n, hnn⟩ : ∃ n, n = ps.length := ⟨_, rfl⟩
 rw [← hnn] at hn hps
 rw [← hnn]
 have HN := Hh hnn
 have Bf := Hh hps
 have HT := Hh hT
 have HL := Hh hl
 have HG := Hh hg
 have hgl := hg.lt
 obtain ⟨d0, hd0⟩ : ∃ l, l = digest K s0 (sbytes s) ++ digest K s0 (sbytes s) := ⟨_, rfl⟩
 have Aw := Hh hd0
 have Al := Hh (show d0.length = 64 by rw [hd0, List.length_append, digest_length K s0 hT.len])
 have h1 : Has ((w.alloc (.cells #[.pointer (some ⟨g, 0, none⟩)] 115)).alloc (.cells zk 27)) w.heap.size 115 #[.pointer (some ⟨g, 0, none⟩)] := (Has.new w _ _).alloc _
 have h4 : Has ((w.alloc (.cells #[.pointer (some ⟨g, 0, none⟩)] 115)).alloc (.cells zk 27)) (w.heap.size + 1) 27 zk := by
  have := Has.new (w.alloc (.cells #[.pointer (some ⟨g, 0, none⟩)] 115)) 27 zk
  simpa using this
 have hb1 : Below w.heap.size w ((w.alloc (.cells #[.pointer (some ⟨g, 0, none⟩)] 115)).alloc (.cells zk 27)) := ((Below.refl _ _).alloc (Nat.le_refl _) _).alloc (by simp) _
 have A3 := Hh hzs
 have A2 := Hh Ak
 clear hnn hps hT hl hg hd0 hzs Ak
 go_enter Tryz.func54, Tryz.ntmps54
 go_upto_region 1 with (fail)
 generalize (w.alloc (.cells #[.pointer (some ⟨g, 0, none⟩)] 115)).alloc (.cells zk 27) = W1 at h1 h4 hb1 ⊢
 obtain ⟨B4, hB4⟩ : ∃ b, b = w.heap.size + 1 := ⟨_, rfl⟩
 obtain ⟨B1, hB1⟩ : ∃ b, b = w.heap.size := ⟨_, rfl⟩
 have Ac := Hh (show w.heap.size ≤ B1 ∧ B1 < B4 ∧ g < B1 by omega)
 have H1 := Hh (show Has W1 B1 115 #[.pointer (some ⟨g, 0, none⟩)] by rw [hB1]; exact h1)
 have H4 := Hh (show Has W1 B4 27 zk by rw [hB4]; exact h4)
 have A5 := Hh hb1
 rw [← hB4, ← hB1]
 have A7 := Hh (HG.o.below hb1 hgl)
 have A0 := Hh (HT.o.below hb1 HT.o.low)
 have c1 := H1.o.cell_is (i := 0) (v := .pointer (some ⟨g, 0, none⟩)) rfl
 clear h1 h4 hb1 hB4 hB1
 go_wp2_with fail
 refine (tagDo_is K s0 W1 A0.o g B1 s hs hlow A7.o (H1.o.cell_is rfl) (by have := Ac.o; omega)).mono ?_
 rintro _ w2 ⟨rfl, htk, hk2⟩
 have Bb := Hh hk2
 have H1b := Hh (H1.o.kept hk2 (by have := Ac.o; show ¬ B1 = g; omega))
 obtain ⟨rest, ⟨hto, ht8, Aa, htx, htP⟩, htr, htl⟩ := htk.hsh
 have c78 := hto.cell_is (i := 78) (v := .int .i64 0) (by
  rw [List.getElem?_toArray, tcells, List.getElem?_append_right (by rw [htP]; decide), List.getElem?_append_right (by rw [htP, hcells_len _ _ _ _ ht8 Aa]; decide), htP, hcells_len _ _ _ _ ht8 Aa]; rfl)
 have f78 := hto.free 78
 have Ag := hto.set 78 (.int .i64 1)
 rw [tc_setU htP _ _ _ _ _ _ ht8 Aa] at Ag
 have hk3 : Kept (· = g) w2 (w2.setCell ⟨g, 78, none⟩ (.int .i64 1)) := (Kept.refl (· = g) w2).set (p := ⟨g, 78, none⟩) (.inl rfl) _
 have Ab : (w2.setCell ⟨g, 78, none⟩ (.int .i64 1)).rangeAt g 4 (hcells (eat K ((digest K s0 (sbytes s) ++ digest K s0 (sbytes s)).length / 64) s0 (digest K s0 (sbytes s) ++ digest K s0 (sbytes s))) rest (((digest K s0 (sbytes s) ++ digest K s0 (sbytes s)).length % 64 : Nat) : Int) ((digest K s0 (sbytes s) ++ digest K s0 (sbytes s)).length : Nat)) := fun j u hu => by
  have hj := (List.getElem?_eq_some_iff.1 hu).1
  rw [hcells_len _ _ _ _ ht8 Aa] at hj
  refine Ag.cell_is ?_
  rw [List.getElem?_toArray, tcells_mid htP _ _ _ _ ht8 Aa j hj]; exact hu
 have c1b := H1b.o.cell_is (i := 0) (v := .pointer (some ⟨g, 0, none⟩)) rfl
 obtain ⟨LH, hLH⟩ : ∃ l, l = hcells (eat K ((digest K s0 (sbytes s) ++ digest K s0 (sbytes s)).length / 64) s0 (digest K s0 (sbytes s) ++ digest K s0 (sbytes s))) rest (((digest K s0 (sbytes s) ++ digest K s0 (sbytes s)).length % 64 : Nat) : Int) ((digest K s0 (sbytes s) ++ digest K s0 (sbytes s)).length : Nat) := ⟨_, rfl⟩
 rw [← hLH] at Ab
 have Ao := Hh (show LH.length = 74 by rw [hLH]; exact hcells_len _ _ _ _ ht8 Aa)
 have Ba := Hh (show ∀ W G, Has W G 173 LH.toArray → Hsh K s0 W G d0 from fun W G h => by
  rw [Aw.o]
  refine ⟨rest, ⟨?_, ht8, Aa, htx⟩, htr, htl⟩
  rw [hLH] at h; exact h)
 have Bi := Hh (show (Tryz.prog.info? 173).map (·.size) = some LH.length by rw [Ao.o]; kernel_rfl)
 have Au := Hh (show (Tryz.prog.info? 173).map (·.size) = some LH.toArray.size by rw [List.size_toArray, Ao.o]; kernel_rfl)
 have As := Hh (show zh.size = LH.toArray.size by rw [A2.o, List.size_toArray, Ao.o])
 have Ar := Hh (show LH.toArray.all (·.oneCell') = true by rw [hLH]; exact hcells_one _ _ _ _)
 have Az := Hh Ab
 have Ay := Hh hk3
 have H1c := Hh (H1b.o.kept hk3 (by have := Ac.o; show ¬ B1 = g; omega))
 clear c1 hk2 htk hto ht8 Aa htx htP htr htl Ag hk3 Ab hLH
 go_wp2_with fail
 refine (addI64_is ⟨g, 78, none⟩ 0 w2 c78 f78 (by decide) (by decide)).mono ?_
 rintro _ w3 ⟨rfl, rfl⟩
 have hz1 : (0 : Int) + 1 = 1 := by decide
 rw [hz1]
 generalize w2.setCell ⟨g, 78, none⟩ (.int .i64 1) = W3 at Az Ay H1c ⊢
 clear c1b c78 f78 hz1
 have c1c := H1c.o.cell_is (i := 0) (v := .pointer (some ⟨g, 0, none⟩)) rfl
 go_upto_region 6 with (first
  | (refine wpList_load_mid rfl 173 (.tmp 22) rfl g 4 rfl LH _ Az.o Tryz.underlying173 rfl Bi.o ?_)
  | (refine wpList_store_row rfl 173 (.tmp 5) (.tmp 23) rfl W3.heap.size LH.toArray rfl rfl 173 zh (heap_alloc_new W3 _) Au.o As.o Ar.o ?_))
 have hnw : Has ((W3.alloc (.cells zh 173)).setRow W3.heap.size LH.toArray) W3.heap.size 173 LH.toArray ∧ Below W3.heap.size W3 ((W3.alloc (.cells zh 173)).setRow W3.heap.size LH.toArray) := by
  rw [World.setRow_alloc_new]
  exact ⟨Has.new _ _ _, (Below.refl _ _).alloc (Nat.le_refl _) _⟩
 generalize (W3.alloc (.cells zh 173)).setRow W3.heap.size LH.toArray = W at hnw ⊢
 have Ae := Bb.o.trans Ay.o
 have An := Hh (Ae.trans (Kept.of_below (S := (· = g)) hnw.2))
 have Af := Hh (show B4 < W3.heap.size ∧ W1.heap.size ≤ W3.heap.size from ⟨Nat.lt_of_lt_of_le H4.o.lt Ae.size, Ae.size⟩)
 generalize W3.heap.size = G5 at hnw Af ⊢
 have H5 := Hh (Ba.o W G5 hnw.1)
 have A4 := Hh (H4.o.kept An.o (by have := Ac.o; show ¬ B4 = g; omega))
 have A1 := Hh (A0.o.kept An.o (fun k e => by have e' : k = g := e; omega))
 have Aq := Hh (show Kept (fun k => k = g ∨ w.heap.size ≤ k) w W from ((Kept.of_below A5.o).trans (An.o.mono (fun k _ e => .inl e))))
 clear hnw Ae c1c
 go_wp2_with fail
 go_loopw [26] (fun i wr => ∃ k : Nat, k ≤ n ∧ i = .int .i64 k ∧ Hsh K s0 wr G5 (d0 ++ (ps.take k).flatten) ∧ Kept (· = G5) W wr) (fun i _ => n - (intOf i).toNat)
 case atStart => exact ⟨0, by omega, rfl, by rw [List.take_zero, List.flatten_nil, List.append_nil]; exact H5.o, Kept.refl _ _⟩
 case round =>
  obtain ⟨k, hk, rfl, hW, hK⟩ := hrel
  have HW := Hh hW
  have Ad := Hh hK
  clear hW hK
  by_cases hlt : k < n
  · have hn0 : 0 < n := by omega
    obtain ⟨pg, po, hpa, hpg, Ab⟩ := Bf.o hn0
    obtain ⟨pv, hpv, hB⟩ := Ab k hlt
    clear Ab
    subst hpa
    have hpl := World.block_lt_of_cell? w _ hpv
    have cpv0 : W.cell? ⟨pg, po + k, none⟩ = some pv := cell_kept Aq.o hpv (by dsimp only at hpl; show ¬ (pg = g ∨ w.heap.size ≤ pg); omega)
    have cpv : wr.cell? ⟨pg, po + k, none⟩ = some pv := cell_kept Ad.o cpv0 (by have := Af.o; have := Ac.o; dsimp only at hpl; show ¬ pg = G5; omega)
    have hBw : Bytes wr G5 pv (ps.getD k []) := by
     obtain ⟨a', c', e1, e2, e3, e4⟩ := hB
     refine ⟨a', c', e1, e2, e3, fun h0 => ?_⟩
     obtain ⟨bg, bo, q1, q2, q3⟩ := e4 h0
     have hbl := World.block_lt_of_cell? w _ (q3 0 h0)
     dsimp only at hbl
     have h5 := Af.o
     have h6 := Ac.o
     exact ⟨bg, bo, q1, by omega, fun i hi => cell_kept Ad.o (cell_kept Aq.o (q3 i hi) (by show ¬ (bg = g ∨ w.heap.size ≤ bg); omega)) (by show ¬ bg = G5; omega)⟩
    have Av := Hh hBw
    obtain ⟨pa, pn, pc, rfl⟩ : ∃ pa pn pc, pv = .slice pa pn pc := by obtain ⟨a', c', e, _⟩ := hB; exact ⟨_, _, _, e⟩
    clear hB hBw hpv hpl cpv0
    go_wp2_with fail
    have hTw := A1.o.kept Ad.o (fun k e => by have e' : k = G5 := e; have := Af.o; have := Ac.o; omega)
    have Ah : (d0 ++ (ps.take k).flatten).length + (ps.getD k []).length ≤ 1000000000 := by
     have h7 := take_flatten_le ps (k + 1)
     rw [← take_flatten ps k (by rw [← HN.o]; exact hlt), List.length_append] at h7
     have h8 := HL.o
     have h9 := Al.o
     rw [List.length_append]
     omega
    refine (write_is K s0 wr G5 (d0 ++ (ps.take k).flatten) _ (ps.getD k []) hTw HW.o (by have := Af.o; have := Ac.o; omega) Av.o Ah).mono ?_
    rintro _ w4 ⟨rfl, hh4, hk4⟩
    rw [List.append_assoc, take_flatten ps k (by rw [← HN.o]; exact hlt)] at hh4
    have A8 := Hh hh4
    have Bc := Hh (Ad.o.trans hk4)
    clear hTw Ah hh4 hk4 HW Ad Av
    go_wp2
    go_roundw
    case rel => exact ⟨k + 1, by omega, by go_num, A8.o, Bc.o⟩
    case measure => simp [intOf]; omega
  · have hk9 : k = n := by omega
    have hTw := A1.o.kept Ad.o (fun k e => by have e' : k = G5 := e; have := Af.o; have := Ac.o; omega)
    have h0 := A4.o.kept Ad.o (by have := Af.o; show ¬ B4 = G5; omega)
    have hh : Hsh K s0 wr G5 (d0 ++ ps.flatten) := by
     have := HW.o
     rw [hk9, HN.o, List.take_length] at this
     exact this
    have Bg := Hh hTw
    have Ax := Hh h0
    have A9 := Hh hh
    have Be := Hh (Aq.o.trans (Ad.o.mono (S' := fun k => k = g ∨ w.heap.size ≤ k) (fun k _ e => by have e' : k = G5 := e; have := Af.o; have := Ac.o; right; omega)))
    clear hk9 hTw h0 hh HW Ad
    go_wp2_with fail
    refine (hsum_is K s0 wr G5 (d0 ++ ps.flatten) Bg.o A9.o).mono ?_
    rintro _ w5 ⟨rfl, hb5⟩
    have h05 := Ax.o.below hb5 Ax.o.lt
    have h32 := digest_length K s0 HT.o.len (d0 ++ ps.flatten)
    obtain ⟨D, hDD⟩ : ∃ D, D = digest K s0 (d0 ++ ps.flatten) := ⟨_, rfl⟩
    rw [← hDD] at h32 ⊢
    have hsz : (Tryz.prog.info? 27).map (·.size) = some (bcells D).toArray.size := by rw [List.size_toArray, bcells_length, h32]; kernel_rfl
    have Aj : zk.size = (bcells D).toArray.size := by rw [A3.o, List.size_toArray, bcells_length, h32]
    have Ai : Has (w5.setRow B4 (bcells D).toArray) B4 27 (bcells D).toArray := h05.setRow
    have hkf : Kept (· = g) w (w5.setRow B4 (bcells D).toArray) := by
     have hk6 := (Be.o.trans (Kept.of_below (S := fun k => k = g ∨ w.heap.size ≤ k) hb5)).step (kept_setRow (g := B4) w5 (bcells D).toArray) (fun j e => by have e' : j = B4 := e; have := Ac.o; right; omega)
     exact hk6.mono (fun k hk e => by rcases e with e | e; exact e; omega)
    have A6 := Hh (show D = tagD K s0 s ps.flatten by rw [hDD, Aw.o]; rfl)
    have Ap := Hh Ai
    have Bd := Hh hkf
    have HZ := Hh hsz
    have Bh := Hh Aj
    have Am := Hh h05
    clear h05 h32 hsz Aj Ai hkf hDD hb5
    unfold arr
    go_wp2_with (refine wpList_store_row rfl 27 (.tmp 4) (.tmp 33) rfl B4 (bcells D).toArray rfl rfl 27 _ Am.o HZ.o Bh.o (all_oneCell_toArray (bcells_one D)) ?_)
    refine bodyPost_ret (results_cell_row rfl _ _ B4 27 (bcells D).toArray (0, 0) _ rfl Ap.o Tryz.underlying27 rfl HZ.o) rfl ?_
    exact ⟨by rw [← A6.o]; rfl, Bd.o⟩
section
/- What a proof leads to, in plain lists. -/

def ndSame (x y : Nd) : Bool := decide (x.h = y.h ∧ x.s = y.s)
theorem ndSame_iff {x y : Nd} : ndSame x y = true ↔ x = y := by
 unfold ndSame
 rw [decide_eq_true_eq]
 exact ⟨fun ⟨h1, h2⟩ => by cases x; cases y; simp_all, fun h => by subst h; exact ⟨rfl, rfl⟩⟩
def pfBr (K s0 : List Wd) (key : List Nat) (h : Nat) (n x : Nd) (u : Nat) : Except Nat (Nd × Nat) :=
 if n.s + x.s < 18446744073709551616 then .ok (if bitAt key h = 1 then brNd K s0 x n else brNd K s0 n x, u) else .error 10
def pfStep (K s0 : List Wd) (bare : Nat → Bool) (key : List Nat) (nodes : List Nd) (h : Nat) (n : Nd) (u : Nat) : Except Nat (Nd × Nat) :=
 if bare h = true then pfBr K s0 key h n (emptyNd K s0 h) u
 else match nodes[u]? with
  | none => .error 20
  | some x => if ndSame x (emptyNd K s0 h) = true then .error 21 else pfBr K s0 key h n x (u + 1)
def pfAt (K s0 : List Wd) (bare : Nat → Bool) (key : List Nat) (nodes : List Nd) (n0 : Nd) : Nat → Except Nat (Nd × Nat)
 | 0 => .ok (n0, 0)
 | h + 1 => match pfAt K s0 bare key nodes n0 h with
  | .error e => .error e
  | .ok p => pfStep K s0 bare key nodes h p.1 p.2
def pfRoot (K s0 : List Wd) (bare : Nat → Bool) (key : List Nat) (nodes : List Nd) (n0 : Nd) : Except Nat Nd :=
 match pfAt K s0 bare key nodes n0 256 with
 | .error e => .error e
 | .ok p => if p.2 < nodes.length then .error 24 else .ok p.1
def pfE : Except Nat Nd → Nat
 | .error e => e
 | .ok _ => 0
def pfN : Except Nat Nd → Nd
 | .error _ => ⟨List.replicate 32 0, 0⟩
 | .ok n => n
section
variable {K s0 : List Wd} {bare bare' : Nat → Bool} {key : List Nat} {nodes : List Nd} {n0 : Nd}
theorem pfAt_succ (h : Nat) {n : Nd} {u : Nat} (e : pfAt K s0 bare key nodes n0 h = .ok (n, u)) : pfAt K s0 bare key nodes n0 (h + 1) = pfStep K s0 bare key nodes h n u := by
 show (match pfAt K s0 bare key nodes n0 h with | .error e => _ | .ok p => _) = _
 rw [e]
theorem pfAt_bare (h : Nat) {n : Nd} {u : Nat} (e : pfAt K s0 bare key nodes n0 h = .ok (n, u)) (hb : bare h = true) : pfAt K s0 bare key nodes n0 (h + 1) = pfBr K s0 key h n (emptyNd K s0 h) u := by
 rw [pfAt_succ h e]; unfold pfStep; rw [if_pos hb]
theorem pfAt_none (h : Nat) {n : Nd} {u : Nat} (e : pfAt K s0 bare key nodes n0 h = .ok (n, u)) (hb : bare h = false) (hn : nodes[u]? = none) : pfAt K s0 bare key nodes n0 (h + 1) = .error 20 := by
 rw [pfAt_succ h e]; unfold pfStep; rw [if_neg (by rw [hb]; decide), hn]
theorem pfAt_form (h : Nat) {n x : Nd} {u : Nat} (e : pfAt K s0 bare key nodes n0 h = .ok (n, u)) (hb : bare h = false) (hn : nodes[u]? = some x) (hx : ndSame x (emptyNd K s0 h) = true) : pfAt K s0 bare key nodes n0 (h + 1) = .error 21 := by
 rw [pfAt_succ h e]; unfold pfStep; rw [if_neg (by rw [hb]; decide), hn]
 show (if _ then _ else _) = _
 rw [if_pos hx]
theorem pfAt_node (h : Nat) {n x : Nd} {u : Nat} (e : pfAt K s0 bare key nodes n0 h = .ok (n, u)) (hb : bare h = false) (hn : nodes[u]? = some x) (hx : ndSame x (emptyNd K s0 h) = false) : pfAt K s0 bare key nodes n0 (h + 1) = pfBr K s0 key h n x (u + 1) := by
 rw [pfAt_succ h e]; unfold pfStep; rw [if_neg (by rw [hb]; decide), hn]
 show (if _ then _ else _) = _
 rw [if_neg (by rw [hx]; decide)]
theorem pfAt_err {h e : Nat} (he : pfAt K s0 bare key nodes n0 h = .error e) : ∀ k, pfAt K s0 bare key nodes n0 (h + k) = .error e := by
 intro k
 induction k with
 | zero => exact he
 | succ k ih =>
  show (match pfAt K s0 bare key nodes n0 (h + k) with | .error e => _ | .ok p => _) = _
  rw [ih]
theorem pf_err {h e : Nat} (hh : h ≤ 256) (he : pfAt K s0 bare key nodes n0 h = .error e) : pfRoot K s0 bare key nodes n0 = .error e := by
 have := pfAt_err he (256 - h)
 rw [show h + (256 - h) = 256 by omega] at this
 unfold pfRoot
 rw [this]
theorem pf_done {n : Nd} {u : Nat} (e : pfAt K s0 bare key nodes n0 256 = .ok (n, u)) : pfRoot K s0 bare key nodes n0 = if u < nodes.length then .error 24 else .ok n := by
 unfold pfRoot
 rw [e]
theorem pf_back {r : Nd} (hr : pfRoot K s0 bare key nodes n0 = .ok r) : (∃ u, pfAt K s0 bare key nodes n0 256 = .ok (r, u) ∧ nodes.length ≤ u) ∧ ∀ h, h ≤ 256 → ∃ n u, pfAt K s0 bare key nodes n0 h = .ok (n, u) := by
 constructor
 · cases h : pfAt K s0 bare key nodes n0 256 with
   | error e => rw [pf_err (Nat.le_refl _) h] at hr; cases hr
   | ok p =>
    obtain ⟨n, u⟩ := p
    rw [pf_done h] at hr
    by_cases hu : u < nodes.length
    · rw [if_pos hu] at hr; cases hr
    · rw [if_neg hu] at hr; cases hr
      exact ⟨u, rfl, by omega⟩
 · intro h hh
   cases e : pfAt K s0 bare key nodes n0 h with
   | error e' => rw [pf_err hh e] at hr; cases hr
   | ok p => exact ⟨p.1, p.2, rfl⟩
theorem pfBr_ok {h u u' : Nat} {n x m : Nd} (e : pfBr K s0 key h n x u = .ok (m, u')) : u' = u ∧ m.s = n.s + x.s ∧ n.s + x.s < 18446744073709551616 ∧ m = (if bitAt key h = 1 then brNd K s0 x n else brNd K s0 n x) := by
 unfold pfBr at e
 by_cases hf : n.s + x.s < 18446744073709551616
 · rw [if_pos hf] at e
   cases e
   refine ⟨rfl, ?_, hf, rfl⟩
   by_cases hb : bitAt key h = 1
   · rw [if_pos hb]; show x.s + n.s = _; omega
   · rw [if_neg hb]; rfl
 · rw [if_neg hf] at e; cases e
theorem pfAt_ok {h u u' : Nat} {n m : Nd} (e : pfAt K s0 bare key nodes n0 h = .ok (n, u)) (e' : pfAt K s0 bare key nodes n0 (h + 1) = .ok (m, u')) :
  (bare h = true ∧ u' = u ∧ pfBr K s0 key h n (emptyNd K s0 h) u = .ok (m, u')) ∨ (bare h = false ∧ ∃ x, nodes[u]? = some x ∧ u' = u + 1 ∧ pfBr K s0 key h n x (u + 1) = .ok (m, u')) := by
 cases hb : bare h with
 | true =>
  rw [pfAt_bare h e hb] at e'
  exact .inl ⟨rfl, (pfBr_ok e').1, e'⟩
 | false =>
  right
  cases hn : nodes[u]? with
  | none => rw [pfAt_none h e hb hn] at e'; cases e'
  | some x =>
   cases hx : ndSame x (emptyNd K s0 h) with
   | true => rw [pfAt_form h e hb hn hx] at e'; cases e'
   | false =>
    rw [pfAt_node h e hb hn hx] at e'
    exact ⟨rfl, x, rfl, (pfBr_ok e').1, e'⟩
theorem take_succ_sum (u : Nat) (x : Nd) (hn : nodes[u]? = some x) : ((nodes.take (u + 1)).map (·.s)).sum = ((nodes.take u).map (·.s)).sum + x.s := by
 rw [List.take_add_one, hn, List.map_append, List.sum_append]
 simp
theorem pfAt_sum : ∀ (h : Nat) {n : Nd} {u : Nat}, pfAt K s0 bare key nodes n0 h = .ok (n, u) → u ≤ nodes.length ∧ n.s = n0.s + ((nodes.take u).map (·.s)).sum := by
 intro h
 induction h with
 | zero => intro n u e; cases e; exact ⟨Nat.zero_le _, by simp⟩
 | succ h ih =>
  intro n u e
  cases e0 : pfAt K s0 bare key nodes n0 h with
  | error e' => rw [pfAt_err e0 1] at e; cases e
  | ok p =>
   obtain ⟨m, v⟩ := p
   obtain ⟨i1, i2⟩ := ih e0
   rcases pfAt_ok e0 e with ⟨hb, hu, hx⟩ | ⟨hb, x, hn, hu, hx⟩
   · subst hu
     have := (pfBr_ok hx).2.1
     rw [empty_sum] at this
     exact ⟨i1, by omega⟩
   · subst hu
     have h1 := (pfBr_ok hx).2.1
     have h2 := (List.getElem?_eq_some_iff.1 hn).1
     rw [take_succ_sum v x hn]
     exact ⟨by omega, by omega⟩
theorem pfAt_hash (hl : s0.length = 8) (h0 : IsHash n0.h) (h : Nat) {n : Nd} {u : Nat} (e : pfAt K s0 bare key nodes n0 h = .ok (n, u)) : IsHash n.h := by
 cases h with
 | zero => cases e; exact h0
 | succ h =>
  cases e0 : pfAt K s0 bare key nodes n0 h with
  | error e' => rw [pfAt_err e0 1] at e; cases e
  | ok p =>
   obtain ⟨m, v⟩ := p
   rcases pfAt_ok e0 e with ⟨hb, hu, hx⟩ | ⟨hb, x, hn, hu, hx⟩
   all_goals
    rw [(pfBr_ok hx).2.2.2]
    split
    · exact br_hash K s0 hl _ _
    · exact br_hash K s0 hl _ _
theorem pfAt_fits (hs : n0.s < 18446744073709551616) (h : Nat) {n : Nd} {u : Nat} (e : pfAt K s0 bare key nodes n0 h = .ok (n, u)) : n.s < 18446744073709551616 := by
 cases h with
 | zero => cases e; exact hs
 | succ h =>
  cases e0 : pfAt K s0 bare key nodes n0 h with
  | error e' => rw [pfAt_err e0 1] at e; cases e
  | ok p =>
   obtain ⟨m, v⟩ := p
   rcases pfAt_ok e0 e with ⟨hb, hu, hx⟩ | ⟨hb, x, hn, hu, hx⟩
   all_goals
    have h1 := (pfBr_ok hx).2.1
    have h2 := (pfBr_ok hx).2.2.1
    omega
theorem pf_hash (hl : s0.length = 8) (h0 : IsHash n0.h) : IsHash (pfN (pfRoot K s0 bare key nodes n0)).h := by
 cases hr : pfRoot K s0 bare key nodes n0 with
 | error e => exact ⟨by show (List.replicate 32 0).length = 32; exact List.length_replicate, fun x hx => by
   have h1 := List.eq_of_mem_replicate (show x ∈ List.replicate 32 0 from hx)
   omega⟩
 | ok r =>
  obtain ⟨⟨u, e, hu⟩, -⟩ := pf_back hr
  exact pfAt_hash hl h0 256 e
theorem pf_fits (hs : n0.s < 18446744073709551616) : (pfN (pfRoot K s0 bare key nodes n0)).s < 18446744073709551616 := by
 cases hr : pfRoot K s0 bare key nodes n0 with
 | error e => show 0 < _; omega
 | ok r =>
  obtain ⟨⟨u, e, hu⟩, -⟩ := pf_back hr
  exact pfAt_fits hs 256 e
end
def bareF (K s0 : List Wd) (f : Nat → Nd) (h : Nat) : Bool := ndSame (f h) (emptyNd K s0 h)
def nodesF (K s0 : List Wd) (f : Nat → Nd) (h : Nat) : List Nd := ((List.range h).filter fun j => !bareF K s0 f j).map f
section
variable {K s0 : List Wd} {f : Nat → Nd} {bare : Nat → Bool} {key : List Nat} {n0 : Nd}
theorem nodesF_succ (h : Nat) : nodesF K s0 f (h + 1) = nodesF K s0 f h ++ (if bareF K s0 f h = true then [] else [f h]) := by
 unfold nodesF
 rw [List.range_succ, List.filter_append, List.map_append]
 cases hb : bareF K s0 f h with
 | true => simp [hb]
 | false => simp [hb]
theorem nodesF_pre (h : Nat) : ∀ k, ∃ r, nodesF K s0 f (h + k) = nodesF K s0 f h ++ r := by
 intro k
 induction k with
 | zero => exact ⟨[], by simp⟩
 | succ k ih =>
  obtain ⟨r, hr⟩ := ih
  exact ⟨r ++ _, by rw [← Nat.add_assoc, nodesF_succ, hr, List.append_assoc]⟩
theorem nodesF_len (h : Nat) : (nodesF K s0 f h).length ≤ h := by
 induction h with
 | zero => exact Nat.le_refl _
 | succ h ih =>
  rw [nodesF_succ, List.length_append]
  split
  · simp; omega
  · simp; omega
theorem nodesF_at (h : Nat) (hh : h < 256) (hb : bareF K s0 f h = false) : (nodesF K s0 f 256)[(nodesF K s0 f h).length]? = some (f h) := by
 obtain ⟨r, hr⟩ := nodesF_pre (K := K) (s0 := s0) (f := f) (h + 1) (256 - (h + 1))
 rw [show h + 1 + (256 - (h + 1)) = 256 by omega] at hr
 rw [hr, nodesF_succ, if_neg (by rw [hb]; decide), List.append_assoc, List.getElem?_append_right (Nat.le_refl _), Nat.sub_self]
 rfl
theorem nodesF_mem (h : Nat) : ∀ x ∈ nodesF K s0 f h, ∃ j, j < h ∧ x = f j := fun x hx => by
 unfold nodesF at hx
 obtain ⟨j, hj, rfl⟩ := List.mem_map.1 hx
 exact ⟨j, List.mem_range.1 (List.mem_filter.1 hj).1, rfl⟩
theorem pf_make (c : Nat → Nd) (h0 : c 0 = n0) (hc : ∀ h, h < 256 → c (h + 1) = if bitAt key h = 1 then brNd K s0 (f h) (c h) else brNd K s0 (c h) (f h)) (hs : ∀ h, h < 256 → (c h).s + (f h).s < 18446744073709551616) (hb : ∀ h, h < 256 → bare h = bareF K s0 f h) :
  ∀ h, h ≤ 256 → pfAt K s0 bare key (nodesF K s0 f 256) n0 h = .ok (c h, (nodesF K s0 f h).length) := by
 intro h
 induction h with
 | zero => intro _; rw [h0]; rfl
 | succ h ih =>
  intro hh
  have e := ih (by omega)
  have hb' := hb h (by omega)
  cases hbf : bareF K s0 f h with
  | true =>
   rw [pfAt_bare h e (by rw [hb', hbf]), nodesF_succ, if_pos hbf, List.append_nil]
   have ef : emptyNd K s0 h = f h := (ndSame_iff.1 hbf).symm
   unfold pfBr
   rw [ef, if_pos (hs h (by omega)), hc h (by omega)]
  | false =>
   rw [pfAt_node h e (by rw [hb', hbf]) (nodesF_at h (by omega) hbf) hbf, nodesF_succ, if_neg (by rw [hbf]; decide)]
   unfold pfBr
   rw [if_pos (hs h (by omega)), hc h (by omega), List.length_append]
   rfl
theorem pf_made (c : Nat → Nd) (h0 : c 0 = n0) (hc : ∀ h, h < 256 → c (h + 1) = if bitAt key h = 1 then brNd K s0 (f h) (c h) else brNd K s0 (c h) (f h)) (hs : ∀ h, h < 256 → (c h).s + (f h).s < 18446744073709551616) (hb : ∀ h, h < 256 → bare h = bareF K s0 f h) :
  pfRoot K s0 bare key (nodesF K s0 f 256) n0 = .ok (c 256) := by
 rw [pf_done (pf_make c h0 hc hs hb 256 (Nat.le_refl _)), if_neg (Nat.lt_irrefl _)]
end
def besF (K s0 : List Wd) (T : List Lf) (key : List Nat) (h : Nat) : Nd := partNd K s0 h (besideT T key h)
theorem pf_tree {K s0 : List Wd} {T : List Lf} (hk : Keyed (T.map (·.k))) (hf : sumT T < 18446744073709551616) {key : List Nat} (hkey : IsHash key) {bare : Nat → Bool} (hb : ∀ h, h < 256 → bare h = bareF K s0 (besF K s0 T key) h) :
  pfRoot K s0 bare key (nodesF K s0 (besF K s0 T key) 256) (leafNd K s0 (valT T key) (wasS T key)) = .ok (partNd K s0 256 T) := by
 rw [← climb_leaf K s0 hk hkey, ← climb_top K s0 T key]
 exact pf_made (climbN K s0 T key) rfl (fun h hh => climb_step K s0 T key h hh) (fun h hh => climb_sum hk hf hh) hb
end

/- The walk of msum.Empty. -/

theorem empty_sum0 (K s0 : List Wd) : ∀ h, (emptyNd K s0 h).s = 0
 | 0 => rfl
 | h + 1 => by show (emptyNd K s0 h).s + (emptyNd K s0 h).s = 0; rw [empty_sum0 K s0 h]
theorem nil_bytes (w : World) (g : Nat) : Bytes w g (.slice none 0 0) [] := ⟨none, 0, rfl, Nat.le_refl _, (fun x hx => by cases hx), fun h => absurd h (by decide)⟩
set_option maxRecDepth 100000 in
set_option maxHeartbeats 4000000 in
theorem empty_in (K s0 : List Wd) (w : World) (hT : Tabs K s0 w) (h : Nat) (hh : h ≤ 256) :
  Calls Tryz.prog 49 #[.int .i64 (h : Int)] w fun e w' => e = .returned (.agg (ndV (emptyNd K s0 h)).toArray) ∧ Below w.heap.size w w' := by
 obtain ⟨Z, hz, hZs, hZn, -⟩ := zero_node
 have Ae := hT.low
 have hlf : ∀ x, Tabs K s0 x → Calls Tryz.prog 48 #[.agg #[.slice none 0 0, .int .u64 0]] x fun e w' => e = .returned (.agg (ndV (emptyNd K s0 0)).toArray) ∧ Below x.heap.size x w' := fun x ht =>
  leafNode_is K s0 x (.slice none 0 0) [] 0 ht (nil_bytes _ _) (by decide) (by decide)
 obtain ⟨LE, hLE⟩ : ∃ L, L = fun k => ndV (emptyNd K s0 k) := ⟨_, rfl⟩
 have hle : ∀ k, (LE k).length = 33 := fun k => by rw [hLE]; exact ndV_len (empty_hash K s0 hT.len k)
 have hbr : ∀ x k, Tabs K s0 x → Calls Tryz.prog 52 #[.agg (LE k).toArray, .agg (LE k).toArray] x fun e w' => e = .returned (.tuple #[.agg (LE (k + 1)).toArray, .int .i64 0]) ∧ Below x.heap.size x w' := fun x k ht => by
  have hk := empty_hash K s0 ht.len k
  have hs := empty_sum0 K s0 k
  have := branch_fits K s0 x (emptyNd K s0 k).h (emptyNd K s0 k).h (emptyNd K s0 k).s (emptyNd K s0 k).s ht hk hk (by rw [hs]; decide)
  rw [hLE]; exact this
 have Au := Hh (show ∀ x, Tabs K s0 x → Calls Tryz.prog 48 #[.agg #[.slice none 0 0, .int .u64 0]] x fun e w' => e = .returned (.agg (LE 0).toArray) ∧ Below x.heap.size x w' from fun x ht => by rw [hLE]; exact hlf x ht)
 have As := Hh hbr
 have HT := Hh hT
 have Aq := Hh hLE
 have An := Hh (show ∀ k, (Tryz.prog.info? 30).map (·.size) = some (LE k).length from fun k => by rw [hle]; kernel_rfl)
 have Ah := Hh (show ∀ k, (Tryz.prog.info? 30).map (·.size) = some (LE k).toArray.size from fun k => by rw [List.size_toArray]; exact An.o k)
 have Am := Hh (show ∀ k, (LE k).toArray.all (·.oneCell') = true from fun k => by rw [hLE]; exact ndV_one _)
 have Ao := Hh (show ∀ k, Z.size = (LE k).toArray.size from fun k => by rw [hZs, List.size_toArray, hle])
 have Av := Hh (show ∀ k j, (LE k).toArray.size = (LE j).toArray.size from fun k j => by rw [List.size_toArray, List.size_toArray, hle, hle])
 have h1 := Has.new w 30 Z
 have hb1 : Below w.heap.size w (w.alloc (.cells Z 30)) := (Below.refl _ _).alloc (Nat.le_refl _) _
 have H1 := Hh h1
 have Af := Hh hb1
 clear hlf hbr hle hLE hT h1 hb1 hZs
 go_enter Tryz.func49, Tryz.ntmps49
 go_wp2_with fail
 refine (Au.o _ (HT.o.below Af.o Ae)).mono ?_
 rintro _ w2 ⟨rfl, hb2⟩
 obtain ⟨B2, hB2⟩ : ∃ B, B = w.heap.size := ⟨_, rfl⟩
 have h9 := Has.new w2 30 Z
 have hk2 : Kept (fun _ => False) (w.alloc (.cells Z 30)) w2 := Kept.of_below hb2
 have hw3 : Has ((w2.alloc (.cells Z 30)).setRow w2.heap.size (LE 0).toArray) w2.heap.size 30 (LE 0).toArray ∧ Has ((w2.alloc (.cells Z 30)).setRow w2.heap.size (LE 0).toArray) B2 30 Z ∧ Below w.heap.size w ((w2.alloc (.cells Z 30)).setRow w2.heap.size (LE 0).toArray) := by
  rw [World.setRow_alloc_new, hB2]
  exact ⟨Has.new _ _ _, (H1.o.kept hk2 (fun h => h)).alloc _, (Af.o.trans (hb2.mono Af.o.size)).alloc (by have h3 := Af.o.size; have h4 := hb2.size; omega) _⟩
 have H9 := Hh h9
 have Ag := Hh hw3
 have Aj := Hh (show B2 ≠ w2.heap.size ∧ w.heap.size ≤ w2.heap.size by
      have h3 : w.heap.size + 1 ≤ w2.heap.size := by (have := hb2.size; simpa using this)
      omega)
 rw [← hB2]
 have Ap := Hh hB2
 clear hb2 h9 hw3 hk2 hB2
 go_upto_region 4 with (refine wpList_store_row rfl 30 (.tmp 3) (.tmp 12) rfl w2.heap.size (LE 0).toArray rfl rfl 30 Z H9.o (Ah.o 0) (Ao.o 0) (Am.o 0) ?_)
 generalize (w2.alloc (.cells Z 30)).setRow w2.heap.size (LE 0).toArray = W3 at Ag ⊢
 clear H9
 generalize w2.heap.size = B3 at Ag Aj ⊢
 go_wp2_with fail
 go_loopw [14] (fun i wr => ∃ k : Nat, i = .int .i64 (k : Int) ∧ k ≤ h ∧ Has wr B3 30 (LE k).toArray ∧ Has wr B2 30 Z ∧ Below w.heap.size w wr) (fun i _ => h - (intOf i).toNat)
 case atStart => exact ⟨0, rfl, Nat.zero_le _, Ag.o⟩
 case round =>
  clear Ag
  obtain ⟨k, rfl, hk, hr3, hr2, Ad⟩ := hrel
  have Aw := Hh hr3
  have Ak := Hh hr2
  have Ab := Hh Ad
  have Ac := Hh (hr3.row0)
  clear hr3 hr2 Ad
  by_cases hlt : k < h
  · have HC := Hh (As.o wr k (HT.o.below Ab.o Ae))
    have hlt' : (k : Int) < (h : Int) := by omega
    go_wp2_with (refine wpList_load_mid rfl 30 (.tmp 3) rfl B3 0 rfl (LE k) _ Ac.o Tryz.underlying30 rfl (An.o k) ?_)
    refine HC.o.mono ?_
    rintro _ w5 ⟨rfl, hb5⟩
    have hk5 := Kept.of_below (S := fun _ => False) hb5
    have hr5 := Aw.o.kept hk5 (fun h => h)
    have Aa : Has (w5.setRow B3 (LE (k + 1)).toArray) B3 30 (LE (k + 1)).toArray := hr5.setRow
    have hks : Kept (· = B3) wr (w5.setRow B3 (LE (k + 1)).toArray) := (hk5.mono (fun _ _ h => h.elim)).trans (kept_setRow (g := B3) w5 _)
    have Ai := Hh (show Has (w5.setRow B3 (LE (k + 1)).toArray) B3 30 (LE (k + 1)).toArray ∧ Has (w5.setRow B3 (LE (k + 1)).toArray) B2 30 Z ∧ Below w.heap.size w (w5.setRow B3 (LE (k + 1)).toArray) from
     ⟨Aa, Ak.o.kept hks Aj.o.1, Ab.o.trans (hks.below Ab.o.size (fun j e => by have e' : j = B3 := e; rw [e']; exact Aj.o.2))⟩)
    have Ax := Hh hr5
    have hke : (k : Int) + 1 = ((k + 1 : Nat) : Int) := by omega
    clear hb5 hk5 hr5 Aa hks hke
    go_wp2_with (refine wpList_store_row rfl 30 (.tmp 3) (.tmp 20) rfl B3 (LE (k + 1)).toArray rfl rfl 30 (LE k).toArray Ax.o (Ah.o (k + 1)) (Av.o k (k + 1)) (Am.o (k + 1)) ?_)
    go_roundw
    case rel => exact ⟨k + 1, by go_num, by omega, Ai.o⟩
    case measure => simp [intOf]; omega
  · obtain rfl : k = h := by omega
    have Aa : Has (wr.setRow B2 (LE k).toArray) B2 30 (LE k).toArray := Ak.o.setRow
    have hbf : Below w.heap.size w (wr.setRow B2 (LE k).toArray) := Ab.o.trans ((kept_setRow (g := B2) wr (LE k).toArray).below Ab.o.size (fun j e => by have e' : j = B2 := e; have := Ap.o; omega))
    have Al := Hh Aa
    have Ar := Hh hbf
    clear Aa hbf hlt
    have hlt' : ¬ (k : Int) < (k : Int) := by omega
    go_wp2_with (first
     | (refine wpList_load_mid rfl 30 (.tmp 3) rfl B3 0 rfl (LE k) _ Ac.o Tryz.underlying30 rfl (An.o k) ?_)
     | (refine wpList_store_row rfl 30 (.tmp 2) (.tmp 23) rfl B2 (LE k).toArray rfl rfl 30 Z Ak.o (Ah.o k) (Ao.o k) (Am.o k) ?_))
    refine bodyPost_ret (results_cell_row rfl _ _ B2 30 (LE k).toArray (0, 0) _ rfl Al.o Tryz.underlying30 rfl (Ah.o k)) rfl ?_
    exact ⟨by rw [Aq.o], Ar.o⟩

/- A proof in memory: which heights are bare, the other nodes. -/

theorem nd_any (x y : Nd) (hx : IsHash x.h) (hy : IsHash y.h) (w : World) : (Op.equalIn 10000 30 (.agg (ndV x).toArray) (.agg (ndV y).toArray)).run Tryz.prog w = .ok (ndSame x y) w := by
 obtain ⟨f0, f1, hf, ⟨n0, t0, o0⟩, ⟨n1, t1, o1⟩⟩ := nd_fields
 have hid : ∀ z : Nd, IsHash z.h → ((ndV z).drop 0).take 32 = bcells z.h := fun z hz => by
   rw [List.drop_zero, ndV, ncells, List.take_append_of_le_length (by rw [bcells_length, hz.1]; exact Nat.le_refl _)]
   exact List.take_of_length_le (by rw [bcells_length, hz.1]; exact Nat.le_refl _)
 have ham : ∀ z : Nd, IsHash z.h → (ndV z)[32]? = some (.int .u64 (z.s : Int)) := fun z hz => by
   rw [ndV, ncells, List.getElem?_append_right (by rw [bcells_length, hz.1]; exact Nat.le_refl _), bcells_length, hz.1]; rfl
 have q0 : ∀ z : Nd, IsHash z.h → (part f0.type (ndV z).toArray f0.offset).run Tryz.prog w = .ok (.agg (bcells z.h).toArray) w := fun z hz => by
   rw [t0, o0, part_agg Tryz.underlying27 (k := 32) (by kernel_rfl), extract_list, hid z hz]
 have q1 : ∀ z : Nd, IsHash z.h → (part f1.type (ndV z).toArray f1.offset).run Tryz.prog w = .ok (.int .u64 (z.s : Int)) w := fun z hz => by
   rw [t1, o1]
   exact part_int Tryz.underlying28 (by rw [List.getElem?_toArray]; exact ham z hz) w
 have e0 : (Op.equalIn 9999 f0.type (.agg (bcells x.h).toArray) (.agg (bcells y.h).toArray)).run Tryz.prog w = .ok (decide (x.h = y.h)) w := by
   rw [t0]
   exact hash_eq_at 9997 x.h y.h hx hy w
 have e1 : (Op.equalIn 9999 f1.type (.int .u64 (x.s : Int)) (.int .u64 (y.s : Int))).run Tryz.prog w = .ok (decide (x.s = y.s)) w := by
   rw [t1]
   have := run_equalIn_int (P := Tryz.prog) w 9998 28 .u64 .u64 (x.s : Int) (y.s : Int) Tryz.underlying28
   rw [this, show ((x.s : Int) == (y.s : Int)) = decide (x.s = y.s) from (by rw [Bool.eq_iff_iff, beq_iff_eq, decide_eq_true_eq]; omega)]
 rw [run_equalIn_struct w 9999 30 _ _ nd_struct (by kernel_rfl), hf, eqF_any n0 (q0 x hx) (q0 y hy) e0]
 unfold ndSame
 by_cases h1 : x.h = y.h
 · rw [if_pos (decide_eq_true h1), eqF_any n1 (q1 x hx) (q1 y hy) e1]
   by_cases h2 : x.s = y.s
   · rw [if_pos (decide_eq_true h2), eqF_nil, decide_eq_true ⟨h1, h2⟩]
   · rw [if_neg (by rw [decide_eq_false h2]; decide), decide_eq_false (fun e => h2 e.2)]
 · rw [if_neg (by rw [decide_eq_false h1]; decide), decide_eq_false (fun e => h1 e.1)]
def pcells (bb : List Nat) (a : Option Addr) (n c : Nat) : List Value := bcells bb ++ [.slice a n c]
theorem pcells_len {bb : List Nat} (h : IsHash bb) (a : Option Addr) (n c : Nat) : (pcells bb a n c).length = 33 := by simp [pcells, bcells_length, h.1]
theorem pcells_one (bb : List Nat) (a : Option Addr) (n c : Nat) : (pcells bb a n c).toArray.all (·.oneCell') = true :=
 all_oneCell_toArray (fun v hv => by
  rcases List.mem_append.1 hv with h | h
  · exact bcells_oneC bb v h
  · rw [List.mem_singleton.1 h]; rfl)
theorem pcells_byte {bb : List Nat} (h : IsHash bb) (a : Option Addr) (n c i : Nat) (hi : i < 32) : (pcells bb a n c)[i]? = some (.int .u8 (bb.getD i 0 : Nat)) := by
 rw [pcells, List.getElem?_append_left (by rw [bcells_length, h.1]; exact hi)]
 exact bcells_get bb i (by rw [h.1]; exact hi)
theorem pcells_row {bb : List Nat} (h : IsHash bb) (a : Option Addr) (n c : Nat) : (pcells bb a n c)[32]? = some (.slice a n c) := by
 rw [pcells, List.getElem?_append_right (by rw [bcells_length, h.1]; exact Nat.le_refl _), bcells_length, h.1]; rfl
def bareB (bb : List Nat) (h : Nat) : Bool := decide (bb.getD (h / 8) 0 / 2 ^ (h % 8) % 2 = 1)
theorem and_one8 (a : Nat) : bits BinOp.and .u8 (a : Int) 1 = ((a % 2 : Nat) : Int) := by
 unfold bits
 have e : (BitVec.ofInt IntKind.u8.bits (a : Int) &&& BitVec.ofInt IntKind.u8.bits 1).toNat = a % 2 := by
  show (BitVec.ofInt 8 (a : Int) &&& BitVec.ofInt 8 1).toNat = a % 2
  rw [BitVec.toNat_and, BitVec.toNat_ofInt, BitVec.toNat_ofInt]
  have : ((1 : Int) % ((2 ^ 8 : Nat) : Int)).toNat = 1 := by decide
  rw [this, Nat.and_one_is_mod]
  omega
 simp only [e]
 have hw : ∀ b : Int, 0 ≤ b → b < 256 → IntKind.u8.wrap b = b := fun b h0 h1 => by
  simp [IntKind.wrap, IntKind.bits, IntKind.signed]; omega
 exact hw _ (by omega) (by omega)
theorem bare_num (bb : List Nat) (h : Nat) : (bits BinOp.and .u8 (((bb.getD (h / 8) 0 : Nat) : Int) / 2 ^ (h % 8)) 1 == 1) = bareB bb h := by
 have e3 : (((bb.getD (h / 8) 0 : Nat) : Int) / 2 ^ (h % 8)) = ((bb.getD (h / 8) 0 / 2 ^ (h % 8) : Nat) : Int) := by
  rw [Int.natCast_ediv, Int.natCast_pow]; rfl
 rw [e3, and_one8]
 unfold bareB
 rw [Bool.eq_iff_iff, beq_iff_eq, decide_eq_true_eq]
 omega
set_option maxRecDepth 100000 in
set_option maxHeartbeats 2000000 in
theorem bare_is (w : World) (bb : List Nat) (hb : IsHash bb) (a : Option Addr) (n c : Nat) (h : Nat) (hh : h < 256) :
  Calls Tryz.prog 50 #[.agg (pcells bb a n c).toArray, .int .i64 (h : Int)] w fun e w' => e = .returned (.bool (bareB bb h)) ∧ w' = w.alloc (.cells (pcells bb a n c).toArray 39) := by
 obtain ⟨L, hL⟩ : ∃ L, L = pcells bb a n c := ⟨_, rfl⟩
 rw [← hL]
 have hc : (w.alloc (.cells L.toArray 39)).cell? ⟨w.heap.size, h / 8, none⟩ = some (.int .u8 (bb.getD (h / 8) 0 : Nat)) :=
  (Has.new w 39 L.toArray).cell_is (by rw [List.getElem?_toArray, hL]; exact pcells_byte hb a n c (h / 8) (by omega))
 obtain ⟨x, hx⟩ : ∃ x, x = bb.getD (h / 8) 0 := ⟨_, rfl⟩
 rw [← hx] at hc
 have hx1 : x < 256 := by rw [hx]; exact hb.byte _ (by omega)
 have HN := Hh (bare_num bb h)
 have HX := Hh hx
 have h1 : (h : Int) < 256 := by omega
 clear hx hL
 go_enter Tryz.func50, Tryz.ntmps50
 go_wp2
 go_ret
 exact ⟨ret_bool (by have := HN.o; rw [← HX.o] at this; simpa using this), rfl⟩
section

/- The walk of Root: the root that a leaf has by a proof. -/

structure NodesAt (w : World) (a : Option Addr) (n : Nat) (xs : List Nd) : Prop where
 len : xs.length = n
 hash : ∀ x ∈ xs, IsHash x.h
 fits : ∀ x ∈ xs, x.s < 18446744073709551616
 at_ : 0 < n → ∃ b o, a = some ⟨b, o, none⟩ ∧ b < w.heap.size ∧ ∀ (i : Nat) x, xs[i]? = some x → w.rangeAt b (o + i * 33) (ndV x)
theorem NodesAt.kept {S : Nat → Prop} {w w' : World} {a : Option Addr} {n : Nat} {xs : List Nd} (h : NodesAt w a n xs) (hk : Kept S w w') (hs : ∀ A, a = some A → ¬ S A.block) : NodesAt w' a n xs := by
 refine ⟨h.len, h.hash, h.fits, fun hn => ?_⟩
 obtain ⟨b, o, e, hb, hr⟩ := h.at_ hn
 exact ⟨b, o, e, by have := hk.size; omega, fun i x hx => rangeAt_kept (hr i x hx) hk (hs _ e)⟩
theorem NodesAt.below {w w' : World} {a : Option Addr} {n : Nat} {xs : List Nd} (h : NodesAt w a n xs) (hb : Below w.heap.size w w') : NodesAt w' a n xs :=
 h.kept (S := fun _ => False) (Kept.of_below hb) (fun _ _ e => e)
theorem nodes_nil (w : World) (a : Option Addr) : NodesAt w a 0 [] := ⟨rfl, fun x hx => (by cases hx), fun x hx => (by cases hx), fun h => absurd h (Nat.lt_irrefl _)⟩
theorem br_fits (K s0 : List Wd) (w : World) (x y : Nd) (hT : Tabs K s0 w) (hx : IsHash x.h) (hy : IsHash y.h) (hf : x.s + y.s < 18446744073709551616) :
  Calls Tryz.prog 52 #[.agg (ndV x).toArray, .agg (ndV y).toArray] w fun e w' => e = .returned (.tuple #[.agg (ndV (brNd K s0 x y)).toArray, .int .i64 0]) ∧ Below w.heap.size w w' :=
 branch_fits K s0 w x.h y.h x.s y.s hT hx hy hf
def zNd : Nd := ⟨List.replicate 32 0, 0⟩
theorem zNd_hash : IsHash zNd.h := ⟨List.length_replicate, fun k hk => by rw [List.eq_of_mem_replicate hk]; decide⟩
theorem br_over (w : World) (x y : Nd) (hx : IsHash x.h) (hy : IsHash y.h) (ho : 18446744073709551616 ≤ x.s + y.s) (h1 : x.s < 18446744073709551616) (h2 : y.s < 18446744073709551616) :
  Calls Tryz.prog 52 #[.agg (ndV x).toArray, .agg (ndV y).toArray] w fun e w' => e = .returned (.tuple #[.agg (ndV zNd).toArray, .int .i64 10]) ∧ Below w.heap.size w w' :=
 branch_over w x.h y.h x.s y.s hx.1 hy.1 ho (by omega)
theorem br_empty (K s0 : List Wd) (w : World) (h : Nat) (hT : Tabs K s0 w) :
  Calls Tryz.prog 52 #[.agg (ndV (emptyNd K s0 h)).toArray, .agg (ndV (emptyNd K s0 h)).toArray] w fun e w' => e = .returned (.tuple #[.agg (ndV (emptyNd K s0 (h + 1))).toArray, .int .i64 0]) ∧ Below w.heap.size w w' :=
 br_fits K s0 w _ _ hT (empty_hash K s0 hT.len h) (empty_hash K s0 hT.len h) (by rw [empty_sum]; decide)
theorem at_nodeo (b o n c k : Nat) (hk : k < n) (w : World) : (Instr.indexAt 37 (.slice (some ⟨b, o, none⟩) n c) (.int .i64 (k : Int))).run Tryz.prog w = .ok (.pointer (some ⟨b, o + k * 33, none⟩)) w := by
 have hu : Tryz.prog.underlying 37 = some (.slice (Tryz.prog.elem 37)) := by kernel_rfl
 have he : Tryz.prog.elem 37 = 30 := by kernel_rfl
 have hz : ∀ w, (sizeOf 30).run Tryz.prog w = .ok 33 w := fun w => by kernel_rfl
 rw [run_indexAt_slice w 37 ⟨b, o, none⟩ n c .i64 (k : Int) hu, if_pos ⟨by omega, by omega⟩, he, hz]
 simp only [Result.andThen, Int.toNat_natCast, Addr.add_mid]
structure RootW (w : World) (G3 G4 G6 G9 G10 : Nat) (LP CK : List Value) (Z : Array Value) (ln le : List Value) (wr : World) : Prop where
 p : Has wr G3 39 LP.toArray
 k : Has wr G4 27 CK.toArray
 r : Has wr G6 30 Z
 n : Has wr G9 30 ln.toArray
 e : Has wr G10 30 le.toArray
 bel : Below w.heap.size w wr
section
variable {w : World} {G3 G4 G6 G9 G10 : Nat} {LP CK : List Value} {Z : Array Value} {ln le : List Value} {wr wr' : World}
theorem RootW.below (h : RootW w G3 G4 G6 G9 G10 LP CK Z ln le wr) (hb : Below wr.heap.size wr wr') : RootW w G3 G4 G6 G9 G10 LP CK Z ln le wr' :=
 ⟨h.p.below hb h.p.lt, h.k.below hb h.k.lt, h.r.below hb h.r.lt, h.n.below hb h.n.lt, h.e.below hb h.e.lt, h.bel.trans (hb.mono h.bel.size)⟩
structure RootG (w : World) (G3 G4 G6 G9 G10 : Nat) : Prop where
 base : w.heap.size ≤ G3 ∧ G3 < G4 ∧ G4 < G6 ∧ G6 < G9 ∧ G9 < G10
theorem RootW.setN (h : RootW w G3 G4 G6 G9 G10 LP CK Z ln le wr) (g : RootG w G3 G4 G6 G9 G10) (l : List Value) : RootW w G3 G4 G6 G9 G10 LP CK Z l le (wr.setRow G9 l.toArray) := by
 have hk := kept_setRow (g := G9) wr l.toArray
 have hg := g.base
 exact ⟨h.p.kept hk (by show ¬ G3 = G9; omega), h.k.kept hk (by show ¬ G4 = G9; omega), h.r.kept hk (by show ¬ G6 = G9; omega), h.n.setRow, h.e.kept hk (by show ¬ G10 = G9; omega), h.bel.trans (hk.below h.bel.size (fun k e => by have e' : k = G9 := e; omega))⟩
theorem RootW.setE (h : RootW w G3 G4 G6 G9 G10 LP CK Z ln le wr) (g : RootG w G3 G4 G6 G9 G10) (l : List Value) : RootW w G3 G4 G6 G9 G10 LP CK Z ln l (wr.setRow G10 l.toArray) := by
 have hk := kept_setRow (g := G10) wr l.toArray
 have hg := g.base
 exact ⟨h.p.kept hk (by show ¬ G3 = G10; omega), h.k.kept hk (by show ¬ G4 = G10; omega), h.r.kept hk (by show ¬ G6 = G10; omega), h.n.kept hk (by show ¬ G9 = G10; omega), h.e.setRow, h.bel.trans (hk.below h.bel.size (fun k e => by have e' : k = G10 := e; omega))⟩
theorem RootW.box (h : RootW w G3 G4 G6 G9 G10 LP CK Z ln le wr) (Z' : Array Value) (l : List Value) : RootW w G3 G4 G6 G9 G10 LP CK Z ln le ((wr.alloc (.cells Z' 30)).setRow wr.heap.size l.toArray) ∧ Has ((wr.alloc (.cells Z' 30)).setRow wr.heap.size l.toArray) wr.heap.size 30 l.toArray := by
 rw [World.setRow_alloc_new]
 exact ⟨h.below ((Below.refl _ _).alloc (Nat.le_refl _) _), Has.new _ _ _⟩
end
end
/- The walk of Root: the root that a leaf has by a proof. -/

theorem two_nodes (W : World) (Z A B : Array Value) :
  Has ((W.alloc (.cells Z 30)).alloc (.cells Z 30)) W.heap.size 30 Z ∧
  Has (((W.alloc (.cells Z 30)).alloc (.cells Z 30)).setRow W.heap.size A) (W.heap.size + 1) 30 Z ∧
  Has ((((W.alloc (.cells Z 30)).alloc (.cells Z 30)).setRow W.heap.size A).setRow (W.heap.size + 1) B) W.heap.size 30 A ∧
  Has ((((W.alloc (.cells Z 30)).alloc (.cells Z 30)).setRow W.heap.size A).setRow (W.heap.size + 1) B) (W.heap.size + 1) 30 B ∧
  Below W.heap.size W ((((W.alloc (.cells Z 30)).alloc (.cells Z 30)).setRow W.heap.size A).setRow (W.heap.size + 1) B) := by
 have h1 := (Has.new W 30 Z).alloc (.cells Z 30)
 have h2 : Has ((W.alloc (.cells Z 30)).alloc (.cells Z 30)) (W.heap.size + 1) 30 Z := by
  have := Has.new (W.alloc (.cells Z 30)) 30 Z
  simpa using this
 have k1 := kept_setRow (g := W.heap.size) ((W.alloc (.cells Z 30)).alloc (.cells Z 30)) A
 have h3 : Has (((W.alloc (.cells Z 30)).alloc (.cells Z 30)).setRow W.heap.size A) (W.heap.size + 1) 30 Z := h2.kept k1 (by show ¬ W.heap.size + 1 = W.heap.size; omega)
 have k2 := kept_setRow (g := W.heap.size + 1) (((W.alloc (.cells Z 30)).alloc (.cells Z 30)).setRow W.heap.size A) B
 have hb : Below W.heap.size W ((W.alloc (.cells Z 30)).alloc (.cells Z 30)) := ((Below.refl _ _).alloc (Nat.le_refl _) _).alloc (by simp) _
 have s1 := k1.size
 have s2 := k2.size
 have s0 := hb.size
 refine ⟨h1, h3, (h1.setRow).kept k2 (by show ¬ W.heap.size = W.heap.size + 1; omega), h3.setRow, ?_⟩
 exact (hb.trans (k1.below (by omega) (fun k e => by have e' : k = W.heap.size := e; omega))).trans (k2.below (by omega) (fun k e => by have e' : k = W.heap.size + 1 := e; omega))
set_option maxRecDepth 100000 in
set_option maxHeartbeats 8000000 in
theorem pfRoot_is (K s0 : List Wd) (w : World) (hT : Tabs K s0 w) (bb : List Nat) (hbb : IsHash bb) (a : Option Addr) (n c : Nat) (xs : List Nd) (hxs : NodesAt w a n xs) (hn : n ≤ 1000000)
  (key : List Nat) (hkey : IsHash key) (av : Option Addr) (bs : List Nat) (cv s : Nat) (hB : Bytes w w.heap.size (.slice av bs.length cv) bs) (hl : bs.length ≤ 1000000) (hs : s < 18446744073709551616) (R : Except Nat Nd)
  (hR : R = pfRoot K s0 (bareB bb) key xs (leafNd K s0 bs s)) :
  Calls Tryz.prog 16 #[.agg (pcells bb a n c).toArray, arr key, leafV (.slice av bs.length cv) s] w fun e w' => e = .returned (.tuple #[.agg (ndV (pfN R)).toArray, .int .i64 (pfE R : Nat)]) ∧ Below w.heap.size w w' := by
 obtain ⟨Z, hz, hZs, hZn, hZ⟩ := zero_node
 obtain ⟨n0, hn0⟩ : ∃ x, x = leafNd K s0 bs s := ⟨_, rfl⟩
 obtain ⟨LP, hLP⟩ : ∃ L, L = pcells bb a n c := ⟨_, rfl⟩
 obtain ⟨CK, hCK⟩ : ∃ L, L = bcells key := ⟨_, rfl⟩
 obtain ⟨nb, hnb⟩ : ∃ x, x = bs.length := ⟨_, rfl⟩
 have lp : LP.length = 33 := by rw [hLP]; exact pcells_len hbb a n c
 have lk : CK.length = 32 := by rw [hCK, bcells_length, hkey.1]
 have Aq := hT.low
 unfold arr leafV
 rw [← hLP, ← hCK, ← hnb]
 rw [← hn0] at hR
 have hZz : Z = (ndV zNd).toArray := hZ
 have hbd : ∀ W, (Instr.build 30 #[]).run Tryz.prog W = .ok (.agg Z) W := fun W => by rw [hZ]; kernel_rfl
 have Bk := Hh hbd
 have Ce := Hh (show (Tryz.prog.info? 39).map (·.size) = some LP.toArray.size by rw [List.size_toArray, lp]; kernel_rfl)
 have Cc := Hh (show (Tryz.prog.info? 27).map (·.size) = some CK.toArray.size by rw [List.size_toArray, lk]; kernel_rfl)
 have Aw := Hh (show (Tryz.prog.info? 30).map (·.size) = some Z.size by rw [hZs]; kernel_rfl)
 have Au := Hh (show Z.all (·.oneCell') = true by rw [hZ]; exact all_oneCell_toArray (ncells_one _ _))
 have Ae := Hh (show ∀ x : Nd, IsHash x.h → (Tryz.prog.info? 30).map (·.size) = some (ndV x).toArray.size from fun x hx => by rw [List.size_toArray, ndV_len hx]; kernel_rfl)
 have Cd := Hh (show ∀ x : Nd, IsHash x.h → (Tryz.prog.info? 30).map (·.size) = some (ndV x).length from fun x hx => by rw [ndV_len hx]; kernel_rfl)
 have Bo := Hh (show ∀ x : Nd, IsHash x.h → Z.size = (ndV x).toArray.size from fun x hx => by rw [hZs, List.size_toArray, ndV_len hx])
 have Bm := Hh (show ∀ x y : Nd, IsHash x.h → IsHash y.h → (ndV x).toArray.size = (ndV y).toArray.size from fun x y hx hy => by rw [List.size_toArray, List.size_toArray, ndV_len hx, ndV_len hy])
 have Bi : LP[32]? = some (.slice a n c) := by rw [hLP]; exact pcells_row hbb a n c
 have Bg : IsHash n0.h := by rw [hn0]; exact leaf_hash K s0 hT.len bs s
 have Bh : n0.s = s := by rw [hn0]; rfl
 have Ay : ∀ W, Below w.heap.size w W → Calls Tryz.prog 48 #[.agg #[.slice av nb cv, .int .u64 (s : Int)]] W fun e w' => e = .returned (.agg (ndV n0).toArray) ∧ Below W.heap.size W w' := fun W hW => by
  rw [hn0]
  have := leafNode_is K s0 W (.slice av bs.length cv) bs s (hT.below hW Aq) (hB.alive hW hW.size) hl hs
  rw [← hnb] at this
  exact this
 have Be : ∀ W, Below w.heap.size w W → Calls Tryz.prog 49 #[.int .i64 0] W fun e w' => e = .returned (.agg (ndV (emptyNd K s0 0)).toArray) ∧ Below W.heap.size W w' := fun W hW =>
  empty_in K s0 W (hT.below hW Aq) 0 (by decide)
 have Ax : ∀ W h, h < 256 → Calls Tryz.prog 50 #[.agg LP.toArray, .int .i64 ((h : Nat) : Int)] W fun e w' => e = .returned (.bool (bareB bb h)) ∧ Below W.heap.size W w' := fun W h hh => by
  rw [hLP]
  exact (bare_is W bb hbb a n c h hh).mono fun e w' ⟨h1, h2⟩ => ⟨h1, by rw [h2]; exact (Below.refl _ _).alloc (Nat.le_refl _) _⟩
 have Bd : ∀ W h, h < 256 → Calls Tryz.prog 51 #[.agg CK.toArray, .int .i64 ((h : Nat) : Int)] W fun e w' => e = .returned (.int .i64 (bitAt key h : Nat)) ∧ Below W.heap.size W w' := fun W h hh => by
  rw [hCK]
  exact (bit_in key (h : Int) W hkey.1 (by omega) (by omega)).mono fun e w' ⟨h1, h2⟩ => ⟨by rw [h1, Int.toNat_natCast], by rw [h2]; exact (Below.refl _ _).alloc (Nat.le_refl _) _⟩
 have HT := Hh hT
 have A2 := Hh hxs
 have Av := Hh Ay
 have A9 := Hh Be
 have A8 := Hh Ax
 have Br := Hh Bd
 have Ba := Hh Bi
 have Bj := Hh (And.intro Bg Bh)
 have ER := Hh hR
 have EZ := Hh hZz
 have HS := Hh hs
 clear hZ hZz hn0 hLP hCK hnb hbd Bi Ay Be Ax Bd hT hxs hB hl Bg Bh hR hZs lp lk hkey hbb hs
 go_enter Tryz.func16, Tryz.ntmps16
 go_upto_region 1 with (fail)
 have h3 : Has ((((w.alloc (.cells LP.toArray 39)).alloc (.cells CK.toArray 27)).alloc (.cells #[.slice av nb cv, .int .u64 (s : Int)] 50)).alloc (.cells Z 30)) w.heap.size 39 LP.toArray := (((Has.new w _ _).alloc _).alloc _).alloc _
 have h4 : Has ((((w.alloc (.cells LP.toArray 39)).alloc (.cells CK.toArray 27)).alloc (.cells #[.slice av nb cv, .int .u64 (s : Int)] 50)).alloc (.cells Z 30)) (w.heap.size + 1) 27 CK.toArray := by
  have := Has.new (w.alloc (.cells LP.toArray 39)) 27 CK.toArray
  exact ((by simpa using this : Has _ (w.heap.size + 1) _ _).alloc _).alloc _
 have h5 : Has ((((w.alloc (.cells LP.toArray 39)).alloc (.cells CK.toArray 27)).alloc (.cells #[.slice av nb cv, .int .u64 (s : Int)] 50)).alloc (.cells Z 30)) (w.heap.size + 1 + 1) 50 #[.slice av nb cv, .int .u64 (s : Int)] := by
  have := Has.new ((w.alloc (.cells LP.toArray 39)).alloc (.cells CK.toArray 27)) 50 #[.slice av nb cv, .int .u64 (s : Int)]
  exact (by simpa using this : Has _ (w.heap.size + 1 + 1) _ _).alloc _
 have h6 : Has ((((w.alloc (.cells LP.toArray 39)).alloc (.cells CK.toArray 27)).alloc (.cells #[.slice av nb cv, .int .u64 (s : Int)] 50)).alloc (.cells Z 30)) (w.heap.size + 1 + 1 + 1) 30 Z := by
  have := Has.new (((w.alloc (.cells LP.toArray 39)).alloc (.cells CK.toArray 27)).alloc (.cells #[.slice av nb cv, .int .u64 (s : Int)] 50)) 30 Z
  simpa using this
 have hb1 : Below w.heap.size w ((((w.alloc (.cells LP.toArray 39)).alloc (.cells CK.toArray 27)).alloc (.cells #[.slice av nb cv, .int .u64 (s : Int)] 50)).alloc (.cells Z 30)) :=
  ((((Below.refl _ _).alloc (Nat.le_refl _) _).alloc (by simp) _).alloc (by simp; omega) _).alloc (by simp; omega) _
 generalize (((w.alloc (.cells LP.toArray 39)).alloc (.cells CK.toArray 27)).alloc (.cells #[.slice av nb cv, .int .u64 (s : Int)] 50)).alloc (.cells Z 30) = W1 at h3 h4 h5 h6 hb1 ⊢
 have H3 := Hh h3
 have H4 := Hh h4
 have H5 := Hh h5
 have H6 := Hh h6
 have Ao := Hh hb1
 have Cb := Hh (show (Tryz.prog.info? 50).map (·.size) = some (#[Value.slice av nb cv, .int .u64 (s : Int)] : Array Value).size by kernel_rfl)
 clear h3 h4 h5 h6 hb1
 go_wp2_with (refine wpList_load_row rfl 50 (.tmp 5) rfl (w.heap.size + 1 + 1) rfl 50 #[.slice av nb cv, .int .u64 (s : Int)] (0, 0) _ H5.o Tryz.underlying50 rfl Cb.o ?_)
 refine (Av.o _ Ao.o).mono ?_
 rintro _ w2 ⟨rfl, hb2⟩
 have B2 := Hh (Ao.o.trans (hb2.mono Ao.o.size))
 have Bv := Hh hb2
 clear hb2
 go_wp2_with fail
 refine (A9.o _ B2.o).mono ?_
 rintro _ w3 ⟨rfl, hb3⟩
 obtain ⟨t1, t2, t3, t4, t5⟩ := two_nodes w3 Z (ndV n0).toArray (ndV (emptyNd K s0 0)).toArray
 have B7 := Hh t1
 have B8 := Hh t2
 have Ad : Below W1.heap.size W1 w3 := Bv.o.trans (hb3.mono Bv.o.size)
 have hg : RootG w w.heap.size (w.heap.size + 1) (w.heap.size + 1 + 1 + 1) w3.heap.size (w3.heap.size + 1) := ⟨by have := H6.o.lt; have := Ad.size; omega⟩
 have hrw : RootW w w.heap.size (w.heap.size + 1) (w.heap.size + 1 + 1 + 1) w3.heap.size (w3.heap.size + 1) LP CK Z (ndV n0) (ndV (emptyNd K s0 0)) ((((w3.alloc (.cells Z 30)).alloc (.cells Z 30)).setRow w3.heap.size (ndV n0).toArray).setRow (w3.heap.size + 1) (ndV (emptyNd K s0 0)).toArray) :=
  ⟨(H3.o.below Ad H3.o.lt).below t5 (by have := H3.o.lt; have := Ad.size; omega), (H4.o.below Ad H4.o.lt).below t5 (by have := H4.o.lt; have := Ad.size; omega), (H6.o.below Ad H6.o.lt).below t5 (by have := H6.o.lt; have := Ad.size; omega), t3, t4,
    (Ao.o.trans (Ad.mono Ao.o.size)).trans (t5.mono (by have := Ao.o.size; have := Ad.size; omega))⟩
 have HG := Hh hg
 have Ab := Hh hrw
 have Bs := Hh (show IsHash (emptyNd K s0 0).h from empty_hash K s0 HT.o.len 0)
 clear hb3 t1 t2 t3 t4 t5 Ad hg hrw Bv B2 H3 H4 H5 H6 Ao Av A9
 go_upto_region 2 with (first
  | (refine wpList_store_row rfl 30 (.tmp 9) (.tmp 15) rfl w3.heap.size (ndV n0).toArray rfl rfl 30 Z B7.o (Ae.o _ Bj.o.1) (Bo.o _ Bj.o.1) (ndV_one _) ?_)
  | (refine wpList_store_row rfl 30 (.tmp 10) (.tmp 16) rfl (w3.heap.size + 1) (ndV (emptyNd K s0 0)).toArray rfl rfl 30 Z B8.o (Ae.o _ Bs.o) (Bo.o _ Bs.o) (ndV_one _) ?_))
 generalize ((((w3.alloc (.cells Z 30)).alloc (.cells Z 30)).setRow w3.heap.size (ndV n0).toArray).setRow (w3.heap.size + 1) (ndV (emptyNd K s0 0)).toArray) = W4 at Ab ⊢
 obtain ⟨Aj, hG10⟩ : ∃ g, g = w3.heap.size + 1 := ⟨_, rfl⟩
 rw [← hG10] at Ab HG ⊢
 obtain ⟨G9, hG9⟩ : ∃ g, g = w3.heap.size := ⟨_, rfl⟩
 rw [← hG9] at Ab HG ⊢
 obtain ⟨G6, hG6⟩ : ∃ g, g = w.heap.size + 1 + 1 + 1 := ⟨_, rfl⟩
 rw [← hG6] at Ab HG ⊢
 obtain ⟨G4, hG4⟩ : ∃ g, g = w.heap.size + 1 := ⟨_, rfl⟩
 rw [← hG4] at Ab HG ⊢
 clear hG10 hG9 hG6 hG4 B7 B8
 go_wp2_with fail
 go_loopw [8, 17] (fun uv iv wr => ∃ (u h : Nat) (nd : Nd), uv = .int .i64 (u : Int) ∧ iv = .int .i64 (h : Int) ∧ h ≤ 256 ∧ pfAt K s0 (bareB bb) key xs n0 h = .ok (nd, u) ∧ RootW w w.heap.size G4 G6 G9 Aj LP CK Z (ndV nd) (ndV (emptyNd K s0 h)) wr) (fun _ iv _ => 256 - (intOf iv).toNat)
 case atStart => exact ⟨0, 0, n0, rfl, rfl, Nat.zero_le _, rfl, Ab.o⟩
 case round =>
  clear Ab Bs
  obtain ⟨u, h, nd, rfl, rfl, hh, hpf, hrw⟩ := hrel
  have hnh : IsHash nd.h := pfAt_hash HT.o.len Bj.o.1 h hpf
  have hns : nd.s < 18446744073709551616 := pfAt_fits (by rw [Bj.o.2]; exact HS.o) h hpf
  have hun : u ≤ n := by have := (pfAt_sum h hpf).1; rw [A2.o.len] at this; exact this
  have heh : IsHash (emptyNd K s0 h).h := empty_hash K s0 HT.o.len h
  have Ab := Hh hrw
  have A6 := Hh hpf
  have Am := Hh hnh
  have B4 := Hh hns
  have Ar := Hh heh
  clear hpf hrw hnh hns heh
  by_cases hlt : h < 256
  · have hlt' : (h : Int) < 256 := by omega
    go_upto_region 6 with (first
      | (refine wpList_load_row rfl 30 (.tmp 10) rfl Aj rfl 30 (ndV (emptyNd K s0 h)).toArray (0, 0) _ Ab.o.e Tryz.underlying30 rfl (Ae.o _ Ar.o) ?_)
      | (refine wpList_store_row rfl 30 (.tmp 12) (.tmp 20) rfl wr.heap.size (ndV (emptyNd K s0 h)).toArray rfl rfl 30 Z (heap_alloc_new wr _) (Ae.o _ Ar.o) (Bo.o _ Ar.o) (ndV_one _) ?_))
    obtain ⟨hw5, h12⟩ := Ab.o.box Z (ndV (emptyNd K s0 h))
    have Bz : Aj < wr.heap.size := Ab.o.e.lt
    generalize (wr.alloc (.cells Z 30)).setRow wr.heap.size (ndV (emptyNd K s0 h)).toArray = W5 at hw5 h12 ⊢
    generalize wr.heap.size = G12 at h12 Bz ⊢
    have Bw := Hh hw5
    have Az := Hh h12
    clear hw5 h12 Ab
    go_wp2_with (refine wpList_load_row rfl 39 (.tmp 3) rfl w.heap.size rfl 39 LP.toArray (0, 0) _ Bw.o.p Tryz.underlying39 rfl Ce.o ?_)
    refine (A8.o _ h hlt).mono ?_
    rintro _ w6 ⟨rfl, hb6⟩
    have Ah := Hh (Bw.o.below hb6)
    have An := Hh (Az.o.below hb6 Az.o.lt)
    obtain ⟨bt, hbt⟩ : ∃ b, b = bareB bb h := ⟨_, rfl⟩
    rw [← hbt]
    have A7 := Hh hbt
    have c32 := Ah.o.p.cell_is (i := 32) (by rw [List.getElem?_toArray]; exact Ba.o)
    clear hb6 hbt Az Bw
    go_upto_if 24 with (fail)
    go_cut [8] from 18 to 68 (fun uv wx => ∃ (u' : Nat) (x : Nd), uv = .int .i64 (u' : Int) ∧ u' ≤ n ∧ IsHash x.h ∧ x.s < 18446744073709551616 ∧ pfAt K s0 (bareB bb) key xs n0 (h + 1) = pfBr K s0 key h nd x u' ∧ RootW w w.heap.size G4 G6 G9 Aj LP CK Z (ndV nd) (ndV (emptyNd K s0 h)) wx ∧ Has wx G12 30 (ndV x).toArray)
    case first =>
      as_aux_lemma =>
        cases bt with
        | true =>
         have Af := Hh (pfAt_bare h A6.o A7.o.symm)
         go_wp2
         go_meet
         case rel => exact ⟨u, emptyNd K s0 h, rfl, hun, Ar.o, by rw [empty_sum]; decide, Af.o, Ah.o, An.o⟩
        | false =>
         by_cases hu : u = n
         · have hue : ((u : Int) == (n : Int)) = true := by rw [beq_iff_eq]; omega
           have Ag := Hh (show R = .error 20 by
            rw [ER.o]
            exact pf_err (h := h + 1) (by omega) (pfAt_none h A6.o A7.o.symm (List.getElem?_eq_none (by rw [A2.o.len]; omega))))
           have Aa : Has (w6.setRow G6 Z) G6 30 Z := Ah.o.r.setRow
           have hbf : Below w.heap.size w (w6.setRow G6 Z) := Ah.o.bel.trans ((kept_setRow (g := G6) w6 Z).below Ah.o.bel.size (fun j e => by have e' : j = G6 := e; have := HG.o.base; omega))
           have Ac := Hh Aa
           have Bq := Hh hbf
           clear Aa hbf hu
           go_wp2_with (first
            | (refine wpList_build_run (by kernel_rfl) 30 _ rfl #[] (by kernel_rfl) (.agg Z) (Bk.o _) ?_)
            | (refine wpList_store_row rfl 30 (.tmp 6) (.tmp 30) rfl G6 Z rfl rfl 30 Z Ah.o.r Aw.o rfl Au.o ?_))
           refine bodyPost_ret (results_cell_tmp rfl _ _ G6 30 Z (0, 0) _ rfl rfl Ac.o Tryz.underlying30 Aw.o) rfl ?_
           exact ⟨by rw [Ag.o, EZ.o]; rfl, Bq.o⟩
         · have A5 : u < n := by omega
           have hue : ((u : Int) == (n : Int)) = false := by rw [beq_eq_false_iff_ne]; omega
           obtain ⟨x, hx⟩ : ∃ x, xs[u]? = some x := ⟨_, List.getElem?_eq_getElem (by rw [A2.o.len]; exact A5)⟩
           have hxh : IsHash x.h := A2.o.hash x (List.mem_of_getElem? hx)
           have Al : x.s < 18446744073709551616 := A2.o.fits x (List.mem_of_getElem? hx)
           obtain ⟨b, o, ha, hbl, hr⟩ := (A2.o.below Ah.o.bel).at_ (by omega)
           subst ha
           have hrx := hr u x hx
           have hat := at_nodeo b o n c u A5
           have Aa : Has (w6.setRow G12 (ndV x).toArray) G12 30 (ndV x).toArray := An.o.setRow
           have Ai := kept_setRow (g := G12) w6 (ndV x).toArray
           have hg := HG.o.base
           have A4 : RootW w w.heap.size G4 G6 G9 Aj LP CK Z (ndV nd) (ndV (emptyNd K s0 h)) (w6.setRow G12 (ndV x).toArray) :=
            ⟨Ah.o.p.kept Ai (by show ¬ w.heap.size = G12; omega), Ah.o.k.kept Ai (by show ¬ G4 = G12; omega), Ah.o.r.kept Ai (by show ¬ G6 = G12; omega), Ah.o.n.kept Ai (by show ¬ G9 = G12; omega), Ah.o.e.kept Ai (by show ¬ Aj = G12; omega), Ah.o.bel.trans (Ai.below Ah.o.bel.size (fun j e => by have e' : j = G12 := e; omega))⟩
           have B5 := Hh hrx
           have Ac := Hh Aa
           have Ap := Hh A4
           have HX := Hh hx
           have As := Hh hxh
           have Ca := Hh Al
           have By := nd_any x (emptyNd K s0 h) hxh Ar.o
           obtain ⟨sm, hsm⟩ : ∃ b, b = ndSame x (emptyNd K s0 h) := ⟨_, rfl⟩
           rw [← hsm] at By
           have B1 := Hh hsm
           have B0 : u + 1 ≤ n := A5
           have hzr : RootW w w.heap.size G4 G6 G9 Aj LP CK Z (ndV nd) (ndV (emptyNd K s0 h)) (w6.setRow G12 (ndV x).toArray) → Has ((w6.setRow G12 (ndV x).toArray).setRow G6 Z) G6 30 Z ∧ Below w.heap.size w ((w6.setRow G12 (ndV x).toArray).setRow G6 Z) := fun q =>
            ⟨q.r.setRow, q.bel.trans ((kept_setRow (g := G6) (w6.setRow G12 (ndV x).toArray) Z).below q.bel.size (fun j e => by have e' : j = G6 := e; omega))⟩
           have Bx := Hh (hzr A4)
           clear hx hxh Al hr hrx Aa Ai A4 hsm hzr hbl hg hu
           go_upto_region 10 with (first
            | (refine wpList_load_mid rfl 30 (.tmp 34) rfl b (o + u * 33) rfl (ndV x) _ B5.o Tryz.underlying30 rfl (Cd.o x As.o) ?_)
            | (refine wpList_store_row rfl 30 (.tmp 12) (.tmp 35) rfl G12 (ndV x).toArray rfl rfl 30 (ndV (emptyNd K s0 h)).toArray An.o (Ae.o _ As.o) (Bm.o _ _ Ar.o As.o) (ndV_one _) ?_))
           generalize w6.setRow G12 (ndV x).toArray = W7 at Ac Ap Bx ⊢
           clear c32 B5 An Ah
           cases sm with
           | true =>
            have Ag := Hh (show R = .error 21 by
             rw [ER.o]
             exact pf_err (h := h + 1) (by omega) (pfAt_form h A6.o A7.o.symm HX.o B1.o.symm))
            go_wp2_with (first
             | (refine wpList_load_row rfl 30 (.tmp 12) rfl G12 rfl 30 (ndV x).toArray (0, 0) _ Ac.o Tryz.underlying30 rfl (Ae.o _ As.o) ?_)
             | (refine wpList_load_row rfl 30 (.tmp 10) rfl Aj rfl 30 (ndV (emptyNd K s0 h)).toArray (0, 0) _ Ap.o.e Tryz.underlying30 rfl (Ae.o _ Ar.o) ?_)
             | (refine wpList_build_run (by kernel_rfl) 30 _ rfl #[] (by kernel_rfl) (.agg Z) (Bk.o _) ?_)
             | (refine wpList_store_row rfl 30 (.tmp 6) (.tmp 39) rfl G6 Z rfl rfl 30 Z Ap.o.r Aw.o rfl Au.o ?_))
            refine bodyPost_ret (results_cell_tmp rfl _ _ G6 30 Z (0, 0) _ rfl rfl Bx.o.1 Tryz.underlying30 Aw.o) rfl ?_
            exact ⟨by rw [Ag.o, EZ.o]; rfl, Bx.o.2⟩
           | false =>
            have Af := Hh (pfAt_node h A6.o A7.o.symm HX.o B1.o.symm)
            have hul : (u : Int) + 1 ≤ 1000001 := by omega
            go_wp2_with (first
             | (refine wpList_load_row rfl 30 (.tmp 12) rfl G12 rfl 30 (ndV x).toArray (0, 0) _ Ac.o Tryz.underlying30 rfl (Ae.o _ As.o) ?_)
             | (refine wpList_load_row rfl 30 (.tmp 10) rfl Aj rfl 30 (ndV (emptyNd K s0 h)).toArray (0, 0) _ Ap.o.e Tryz.underlying30 rfl (Ae.o _ Ar.o) ?_))
            go_meet
            case rel => exact ⟨u + 1, x, by go_num, B0, As.o, Ca.o, Af.o, Ap.o, Ac.o⟩
    case rest =>
    obtain ⟨w7, hw7⟩ : ∃ y, y = wc := ⟨_, rfl⟩
    subst hw7
    obtain ⟨u', x, rfl, hu', hxh, Al, hpx, hrw, h12⟩ := hcut
    obtain ⟨E, M, hMh, hEM⟩ : ∃ (E : Int) (M : Nd), IsHash M.h ∧ ((nd.s + x.s < 18446744073709551616 ∧ E = 0 ∧ M = (if bitAt key h = 1 then brNd K s0 x nd else brNd K s0 nd x)) ∨ (¬ nd.s + x.s < 18446744073709551616 ∧ E = 10 ∧ M = zNd)) := by
      by_cases hf : nd.s + x.s < 18446744073709551616
      · exact ⟨0, _, by split <;> exact br_hash K s0 HT.o.len _ _, .inl ⟨hf, rfl, rfl⟩⟩
      · exact ⟨10, zNd, zNd_hash, .inr ⟨hf, rfl, rfl⟩⟩
    have hB1 : bitAt key h = 1 → ∀ W, Below w.heap.size w W → Calls Tryz.prog 52 #[.agg (ndV x).toArray, .agg (ndV nd).toArray] W fun e w' => e = .returned (.tuple #[.agg (ndV M).toArray, .int .i64 E]) ∧ Below W.heap.size W w' := fun hb W hW => by
      rcases hEM with ⟨h1, h2, h3⟩ | ⟨h1, h2, h3⟩
      · rw [h2, h3, if_pos hb]
        exact br_fits K s0 W x nd (HT.o.below hW Aq) hxh Am.o (by omega)
      · rw [h2, h3]
        exact br_over W x nd hxh Am.o (by omega) Al B4.o
    have hB0 : ¬ bitAt key h = 1 → ∀ W, Below w.heap.size w W → Calls Tryz.prog 52 #[.agg (ndV nd).toArray, .agg (ndV x).toArray] W fun e w' => e = .returned (.tuple #[.agg (ndV M).toArray, .int .i64 E]) ∧ Below W.heap.size W w' := fun hb W hW => by
      rcases hEM with ⟨h1, h2, h3⟩ | ⟨h1, h2, h3⟩
      · rw [h2, h3, if_neg hb]
        exact br_fits K s0 W nd x (HT.o.below hW Aq) Am.o hxh h1
      · rw [h2, h3]
        exact br_over W nd x Am.o hxh (by omega) B4.o Al
    have Ao := Hh hB1
    have Bp := Hh hB0
    have Bt := Hh hEM
    have Bn := Hh hpx
    have Ab := Hh hrw
    have Az := Hh h12
    have As := Hh hxh
    have Bl := Hh hMh
    clear hB1 hB0 hEM hpx hrw h12 hxh hMh Al An Ah c32 A7 A6
    go_wp2_with (refine wpList_load_row rfl 27 (.tmp 4) rfl G4 rfl 27 CK.toArray (0, 0) _ Ab.o.k Tryz.underlying27 rfl Cc.o ?_)
    refine (Br.o _ h hlt).mono ?_
    rintro _ w8 ⟨rfl, hb8⟩
    have A1 := Hh (Ab.o.below hb8)
    have A0 := Hh (Az.o.below hb8 Az.o.lt)
    obtain ⟨bi, hbi⟩ : ∃ b, b = bitAt key h := ⟨_, rfl⟩
    have hbi2 : bi < 2 := by rw [hbi]; exact bitAt_lt key h
    rw [← hbi] at Ao Bp
    rw [← hbi]
    clear hb8 hbi Ab Az
    go_upto_if 45 with (fail)
    go_cut [13] from 18 to 68 (fun ev wx => ev = .int .i64 E ∧ RootW w w.heap.size G4 G6 G9 Aj LP CK Z (ndV M) (ndV (emptyNd K s0 h)) wx)
    case first =>
      rcases (by omega : bi = 1 ∨ bi = 0) with h0 | h0
      · subst h0
        go_wp2_with (first
         | (refine wpList_load_row rfl 30 (.tmp 12) rfl G12 rfl 30 (ndV x).toArray (0, 0) _ A0.o Tryz.underlying30 rfl (Ae.o _ As.o) ?_)
         | (refine wpList_load_row rfl 30 (.tmp 9) rfl G9 rfl 30 (ndV nd).toArray (0, 0) _ A1.o.n Tryz.underlying30 rfl (Ae.o _ Am.o) ?_))
        refine (Ao.o (by first | rfl | trivial) _ A1.o.bel).mono ?_
        rintro _ w9 ⟨rfl, hb9⟩
        have Ak := Hh (A1.o.below hb9)
        have Af := Hh (Ak.o.setN HG.o (ndV M))
        clear hb9
        go_wp2_with (refine wpList_store_row rfl 30 (.tmp 9) (.tmp 50) rfl G9 (ndV M).toArray rfl rfl 30 (ndV nd).toArray Ak.o.n (Ae.o _ Bl.o) (Bm.o _ _ Am.o Bl.o) (ndV_one _) ?_)
        go_meet
        case rel => exact ⟨rfl, Af.o⟩
      · subst h0
        go_wp2_with (first
         | (refine wpList_load_row rfl 30 (.tmp 12) rfl G12 rfl 30 (ndV x).toArray (0, 0) _ A0.o Tryz.underlying30 rfl (Ae.o _ As.o) ?_)
         | (refine wpList_load_row rfl 30 (.tmp 9) rfl G9 rfl 30 (ndV nd).toArray (0, 0) _ A1.o.n Tryz.underlying30 rfl (Ae.o _ Am.o) ?_))
        refine (Bp.o (by first | decide | trivial | simp) _ A1.o.bel).mono ?_
        rintro _ w9 ⟨rfl, hb9⟩
        have Ak := Hh (A1.o.below hb9)
        have Af := Hh (Ak.o.setN HG.o (ndV M))
        clear hb9
        go_wp2_with (refine wpList_store_row rfl 30 (.tmp 9) (.tmp 56) rfl G9 (ndV M).toArray rfl rfl 30 (ndV nd).toArray Ak.o.n (Ae.o _ Bl.o) (Bm.o _ _ Am.o Bl.o) (ndV_one _) ?_)
        go_meet
        case rel => exact ⟨rfl, Af.o⟩
    case rest =>
    obtain ⟨w9, hw9⟩ : ∃ y, y = wc := ⟨_, rfl⟩
    subst hw9
    obtain ⟨rfl, hrw⟩ := hcut
    have Ak := Hh hrw
    clear hrw A1 A0 Ao Bp
    rcases Bt.o with ⟨hf, hE, hM⟩ | ⟨hf, hE, hM⟩
    · subst hE
      have B9 := Hh (show pfAt K s0 (bareB bb) key xs n0 (h + 1) = .ok (M, u') by
        rw [Bn.o, hM]; unfold pfBr; rw [if_pos hf])
      have B3 := Hh (empty_hash K s0 HT.o.len (h + 1))
      clear hM hf Bt Bn
      go_wp2_with (refine wpList_load_row rfl 30 (.tmp 10) rfl Aj rfl 30 (ndV (emptyNd K s0 h)).toArray (0, 0) _ Ak.o.e Tryz.underlying30 rfl (Ae.o _ Ar.o) ?_)
      refine (br_empty K s0 _ h (HT.o.below Ak.o.bel Aq)).mono ?_
      rintro _ w10 ⟨rfl, Bc⟩
      have Bb := Hh (Ak.o.below Bc)
      have Af := Hh (Bb.o.setE HG.o (ndV (emptyNd K s0 (h + 1))))
      clear Bc
      go_wp2_with (refine wpList_store_row rfl 30 (.tmp 10) (.tmp 66) rfl Aj (ndV (emptyNd K s0 (h + 1))).toArray rfl rfl 30 (ndV (emptyNd K s0 h)).toArray Bb.o.e (Ae.o _ B3.o) (Bm.o _ _ Ar.o B3.o) (ndV_one _) ?_)
      go_roundw
      case rel =>
        have Bf : ∃ (u1 h1 : Nat) (nd1 : Nd), Value.int .i64 (u' : Int) = .int .i64 (u1 : Int) ∧ Value.int .i64 ((h : Int) + 1) = .int .i64 (h1 : Int) ∧ h1 ≤ 256 ∧ pfAt K s0 (bareB bb) key xs n0 h1 = .ok (nd1, u1) ∧ RootW w w.heap.size G4 G6 G9 Aj LP CK Z (ndV nd1) (ndV (emptyNd K s0 h1)) (w10.setRow Aj (ndV (emptyNd K s0 (h + 1))).toArray) := ⟨u', h + 1, M, rfl, rfl, by omega, B9.o, Af.o⟩
        first | exact Bf | ((repeat apply Exists.intro); exact ⟨Bf, rfl⟩)
      case measure => simp [intOf]; omega
    · subst hE
      have Ag := Hh (show R = .error 10 by
        rw [ER.o]
        exact pf_err (h := h + 1) (by omega) (by rw [Bn.o]; unfold pfBr; rw [if_neg hf]))
      have Aa : Has (w9.setRow G6 Z) G6 30 Z := Ak.o.r.setRow
      have hbf : Below w.heap.size w (w9.setRow G6 Z) := Ak.o.bel.trans ((kept_setRow (g := G6) w9 Z).below Ak.o.bel.size (fun j e => by have e' : j = G6 := e; have := HG.o.base; omega))
      have Ac := Hh Aa
      have Bq := Hh hbf
      clear Aa hbf hM hf Bt Bn
      go_wp2_with (first
        | (refine wpList_build_run (by kernel_rfl) 30 _ rfl #[] (by kernel_rfl) (.agg Z) (Bk.o _) ?_)
        | (refine wpList_store_row rfl 30 (.tmp 6) (.tmp 60) rfl G6 Z rfl rfl 30 Z Ak.o.r Aw.o rfl Au.o ?_))
      refine bodyPost_ret (results_cell_tmp rfl _ _ G6 30 Z (0, 0) _ rfl rfl Ac.o Tryz.underlying30 Aw.o) rfl ?_
      exact ⟨by rw [Ag.o, EZ.o]; rfl, Bq.o⟩
  · obtain rfl : h = 256 := by omega
    have c32 := Ab.o.p.cell_is (i := 32) (by rw [List.getElem?_toArray]; exact Ba.o)
    have A3 : R = if u < xs.length then .error 24 else .ok nd := by rw [ER.o]; exact pf_done A6.o
    rw [A2.o.len] at A3
    have Ag := Hh A3
    have Aa : ∀ L : List Value, Has (wr.setRow G6 L.toArray) G6 30 L.toArray ∧ Below w.heap.size w (wr.setRow G6 L.toArray) := fun L => ⟨Ab.o.r.setRow, Ab.o.bel.trans ((kept_setRow (g := G6) wr L.toArray).below Ab.o.bel.size (fun j e => by have e' : j = G6 := e; have := HG.o.base; omega))⟩
    have Ac := Hh Aa
    have B6 := Hh (show Has (wr.setRow G6 Z) G6 30 Z ∧ Below w.heap.size w (wr.setRow G6 Z) by have := Aa (ndV zNd); rwa [← EZ.o] at this)
    clear Aa A3 hlt
    by_cases hu : u < n
    · have hu' : (u : Int) < (n : Int) := by omega
      have Bu := Hh (show R = .error 24 by rw [Ag.o, if_pos hu])
      go_wp2_with (first
        | (refine wpList_build_run (by kernel_rfl) 30 _ rfl #[] (by kernel_rfl) (.agg Z) (Bk.o _) ?_)
        | (refine wpList_store_row rfl 30 (.tmp 6) (.tmp 74) rfl G6 Z rfl rfl 30 Z Ab.o.r Aw.o rfl Au.o ?_))
      refine bodyPost_ret (results_cell_tmp rfl _ _ G6 30 Z (0, 0) _ rfl rfl B6.o.1 Tryz.underlying30 Aw.o) rfl ?_
      exact ⟨by rw [Bu.o, EZ.o]; rfl, B6.o.2⟩
    · have hu' : ¬ (u : Int) < (n : Int) := by omega
      have Bu := Hh (show R = .ok nd by rw [Ag.o, if_neg hu])
      go_wp2_with (first
        | (refine wpList_load_row rfl 30 (.tmp 9) rfl G9 rfl 30 (ndV nd).toArray (0, 0) _ Ab.o.n Tryz.underlying30 rfl (Ae.o _ Am.o) ?_)
        | (refine wpList_store_row rfl 30 (.tmp 6) (.tmp 75) rfl G6 (ndV nd).toArray rfl rfl 30 Z Ab.o.r (Ae.o _ Am.o) (Bo.o _ Am.o) (ndV_one _) ?_))
      refine bodyPost_ret (results_cell_tmp rfl _ _ G6 30 (ndV nd).toArray (0, 0) _ rfl rfl (Ac.o (ndV nd)).1 Tryz.underlying30 (Ae.o _ Am.o)) rfl ?_
      exact ⟨by rw [Bu.o]; rfl, (Ac.o (ndV nd)).2⟩
end Go.Proofs.YtknfbccbdiidjaaGreatDoor
