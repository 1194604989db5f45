/- The walk of CommitLeads. -/
import Derived.Test.YtknfbccbdiidjaaGreatDoorWu
import Derived.Test.YtknfbccbdiidjaaGreatDoorLNum4
import Derived.Test.YtknfbccbdiidjaaGreatDoorLTg1
namespace Go.Proofs.YtknfbccbdiidjaaGreatDoor
set_option linter.unusedVariables false
set_option linter.unusedSimpArgs false
open Go.ChangeShapes Go.WideShapes Go.ChangeAt Go.RowKit Go.Maps

theorem partsT_two {w : World} {pg : Nat} {v0 v1 : Value} {p0 p1 : List Nat} (h : Has w pg 48 #[v0, v1]) (h0 : Bytes w w.heap.size v0 p0) (h1 : Bytes w w.heap.size v1 p1) : Parts w (.slice (some ⟨pg, 0, none⟩) 2 2) [p0, p1] := by
 refine ⟨_, _, rfl, fun _ => ⟨pg, 0, rfl, fun i hi => ?_⟩⟩
 match i, hi with
 | 0, _ => exact ⟨v0, h.cell_is rfl, h0⟩
 | 1, _ => exact ⟨v1, h.cell_is rfl, h1⟩
theorem boxes_lof (w : World) (LH : List Value) (Z : Array Value) : ∃ W1, W1 = ((w.alloc (.cells LH.toArray 27)).alloc (.cells Z 50)) ∧
  Has W1 (w.heap.size) 27 LH.toArray ∧ Has W1 (w.heap.size + 1) 50 Z ∧ Below w.heap.size w W1 := by
 refine ⟨_, rfl, (Has.new w _ _).alloc _, ?_, ((Below.refl _ _).alloc (Nat.le_refl _) _).alloc (by simp) _⟩
 have := Has.new (w.alloc (.cells LH.toArray 27)) 50 Z
 simpa using this
theorem boxes_cle (w : World) (LW LC LS : List Value) : ∃ W1, W1 = (((w.alloc (.cells LW.toArray 41)).alloc (.cells LC.toArray 32)).alloc (.cells LS.toArray 27)) ∧
   Has W1 (w.heap.size) 41 LW.toArray ∧ Has W1 (w.heap.size + 1) 32 LC.toArray ∧ Has W1 (w.heap.size + 1 + 1) 27 LS.toArray ∧ Below w.heap.size w W1 := by
 refine ⟨_, rfl, ((Has.new w _ _).alloc _).alloc _, ?_, ?_, (((Below.refl _ _).alloc (Nat.le_refl _) _).alloc (by simp) _).alloc (by simp; omega) _⟩
 · have := (Has.new (w.alloc (.cells LW.toArray 41)) 32 LC.toArray).alloc (.cells LS.toArray 27)
   simpa using this
 · have := Has.new ((w.alloc (.cells LW.toArray 41)).alloc (.cells LC.toArray 32)) 27 LS.toArray
   simpa using this
set_option maxRecDepth 100000 in
set_option maxHeartbeats 4000000 in
theorem leafOf_is (w : World) (h : List Nat) (hh : IsHash h) (s : Nat) : Calls Tryz.prog 20 #[arr h, .int .u64 (s : Int)] w fun e w' => ∃ a c, e = .returned (leafV (.slice a h.length c) s) ∧ Bytes w' w'.heap.size (.slice a h.length c) h ∧ Below w.heap.size w w' := by
 obtain ⟨ZL, hzl, Aa, hzln⟩ := zero_leafA
 unfold arr
 obtain ⟨LH, hLH⟩ : ∃ L, L = bcells h := ⟨_, rfl⟩
 rw [← hLH]
 obtain ⟨W1, hW1, h1, h2, hb1⟩ := boxes_lof w LH ZL
 have SZ := Hh (show (Tryz.prog.info? 50).map (·.size) = some 2 by kernel_rfl)
 have Ab := Hh (show h.length = 32 from hh.1)
 obtain ⟨B, hB⟩ : ∃ b, b = w.heap.size := ⟨_, rfl⟩
 have hz2 : ZL.size = (#[Value.slice (some ⟨B, 0, none⟩) 32 32, .int .u64 (s : Int)] : Array Value).size := Aa
 have HF := Hh (show Has (W1.setRow (B + 1) #[.slice (some ⟨B, 0, none⟩) 32 32, .int .u64 (s : Int)]) (B + 1) 50 #[.slice (some ⟨B, 0, none⟩) 32 32, .int .u64 (s : Int)] ∧ Bytes (W1.setRow (B + 1) #[.slice (some ⟨B, 0, none⟩) 32 32, .int .u64 (s : Int)]) (W1.setRow (B + 1) #[.slice (some ⟨B, 0, none⟩) 32 32, .int .u64 (s : Int)]).heap.size (.slice (some ⟨B, 0, none⟩) 32 32) h ∧ Below w.heap.size w (W1.setRow (B + 1) #[.slice (some ⟨B, 0, none⟩) 32 32, .int .u64 (s : Int)]) by
  rw [← hB] at h1 h2
  have hk := kept_setRow (g := B + 1) W1 #[.slice (some ⟨B, 0, none⟩) 32 32, .int .u64 (s : Int)]
  refine ⟨h2.setRow, ?_, hb1.trans (hk.below hb1.size (fun j e => by have e' : j = B + 1 := e; omega))⟩
  have h1' := h1.kept hk (fun e => by have e' : B = B + 1 := e; omega)
  rw [hLH] at h1'
  exact box_bytes hh h1')
 have Ac := Hh hz2
 have H2 := Hh (show Has W1 (B + 1) 50 ZL by rw [hB]; exact h2)
 have EW := Hh hW1
 have EB := Hh hB
 clear hLH hh Aa hW1 h1 h2 hb1 hB hz2
 go_enter Tryz.func20, Tryz.ntmps20
 go_upto_region 1 with (fail)
 rw [← EW.o]
 rw [← EB.o]
 clear EB EW
 go_wp2_with (first
  | (refine wpList_build_run (by kernel_rfl) 50 #[(0, .tmp 5), (1, .tmp 6)] rfl #[(0, .slice (some ⟨B, 0, none⟩) 32 32), (1, .int .u64 (s : Int))] (by kernel_rfl) (.agg #[.slice (some ⟨B, 0, none⟩) 32 32, .int .u64 (s : Int)]) (build_leaf2 B s _) ?_)
  | (refine wpList_store_row rfl 50 (.tmp 4) (.tmp 7) rfl (B + 1) #[.slice (some ⟨B, 0, none⟩) 32 32, .int .u64 (s : Int)] rfl rfl 50 ZL H2.o SZ.o Ac.o (by simp [Value.oneCell']) ?_))
 refine bodyPost_ret (results_cell_row rfl _ _ (B + 1) 50 #[.slice (some ⟨B, 0, none⟩) 32 32, .int .u64 (s : Int)] (0, 0) _ rfl HF.o.1 Tryz.underlying50 rfl SZ.o) rfl ?_
 rw [Ab.o]
 exact ⟨_, _, rfl, HF.o.2.1, HF.o.2.2⟩
def HighF (V : World) (LQ LI LP : List Value) (n : Nd) (R : Except Nat Nd) (u : Nat) : Prop :=
 (∀ v, Calls Tryz.prog 20 #[.agg LP.toArray, .int .u64 (n.s : Int)] v fun e w' => ∃ a c, e = .returned (leafV (.slice a n.h.length c) n.s) ∧ Bytes w' w'.heap.size (.slice a n.h.length c) n.h ∧ Below v.heap.size v w') ∧
 (∀ v sa sc, Below V.heap.size V v → Bytes v v.heap.size (.slice sa n.h.length sc) n.h → Calls Tryz.prog 16 #[.agg LQ.toArray, .agg LI.toArray, leafV (.slice sa n.h.length sc) n.s] v fun e w' => e = .returned (.tuple #[.agg (ndV (pfN R)).toArray, .int .i64 (u : Int)]) ∧ Below v.heap.size v w')
theorem high_f {V : World} {q : Pf} {id : List Nat} {n : Nd} {LQ LI LP : List Value} {R : Except Nat Nd} {u : Nat} (hT : Tabs KS SS V) (hq : q.At V) (hid : IsHash id) (hn : IsHash n.h) (hs : n.s < 18446744073709551616) (hLQ : LQ = q.cells) (hLI : LI = bcells id) (hLP : LP = bcells n.h) (hR : R = highR KS SS q id n) (hu : u = pfE R) :
   HighF V LQ LI LP n R u := by
 refine ⟨fun v => ?_, fun v sa sc hv hb => ?_⟩
 · have h := leafOf_is v n.h hn n.s
   unfold arr at h
   rw [← hLP] at h
   exact h
 · have h := pfRoot_is KS SS v (hT.below hv hT.low) q.b hq.hash q.a q.n q.c q.xs (hq.below hv).nodes hq.cap id hid sa n.h sc n.s hb (by rw [hn.1]; decide) hs R hR
   unfold arr at h
   rw [← hLI, ← hu] at h
   rw [hLQ]
   exact h
theorem tag_f (hK : KS.length = 64) {V : World} {D : List Nat} {LD : List Value} {n : Nd} {G R : Nat} {ea : Option Addr} {ec : Nat} (hn : IsHash n.h) (hD : D = anchorK KS SS n) (hLD : LD = bcells D) (hG : Bytes V V.heap.size (.slice (some ⟨G, 0, none⟩) 32 32) n.h) (hR : Has V R 48 #[.slice (some ⟨G, 0, none⟩) 32 32, .slice ea 8 ec]) (hb : Bytes V V.heap.size (.slice ea 8 ec) (eight n.s)) :
  Calls Tryz.prog 21 #[.agg (tabsL SS KS).toArray, .string anS, .slice (some ⟨R, 0, none⟩) 2 2] V fun e w' => e = .returned (.agg LD.toArray) ∧ Below V.heap.size V w' := by
 have h := ttag_is KS SS hK ss_len V anS (by decide) _ [n.h, eight n.s] (partsT_two hR hG hb) (by simp [hn.1, eight_length]) (by simp)
 have e : tagD KS SS anS [n.h, eight n.s].flatten = D := by rw [hD]; unfold anchorK; simp
 rw [e] at h
 unfold arr at h
 rw [← hLD] at h
 exact h
set_option maxRecDepth 100000 in
set_option maxHeartbeats 16000000 in
theorem commitLeads_walk (w : World) (hT : Tabs KS SS w) (p q : Pf) (hp : p.At w) (hq : q.At w) (l : LeafT) (hl : l.ok) (said : List Nat) (hsd : IsHash said) :
   Calls Tryz.prog 4 #[.agg (waysC p q).toArray, .agg l.cells.toArray, arr said] w fun e w' => e = .returned (.bool true) ∧ Below w.heap.size w w' := by
 obtain ⟨zk, hzk, B9, hzkn⟩ := zero_hashT
 obtain ⟨zn, hzn, Ca, hznn⟩ := zero_nodeA
 obtain ⟨zt, -, hzt, Cb, hztn, -, -⟩ := zero_tab
 unfold arr
 obtain ⟨LW, hLW⟩ : ∃ L, L = waysC p q := ⟨_, rfl⟩
 obtain ⟨LC, hLC⟩ : ∃ L, L = l.cells := ⟨_, rfl⟩
 obtain ⟨LS, hLS⟩ : ∃ L, L = bcells said := ⟨_, rfl⟩
 obtain ⟨LP, hLP⟩ : ∃ L, L = p.cells := ⟨_, rfl⟩
 obtain ⟨LQ, hLQ⟩ : ∃ L, L = q.cells := ⟨_, rfl⟩
 obtain ⟨LI, hLI⟩ : ∃ L, L = bcells l.id := ⟨_, rfl⟩
 obtain ⟨KL, hKL⟩ : ∃ L, L = bcells (keyK KS SS l) := ⟨_, rfl⟩
 obtain ⟨LZ, hLZ⟩ : ∃ L, L = bcells (List.replicate 32 0) := ⟨_, rfl⟩
 obtain ⟨CT, hCT⟩ : ∃ C, C = (tabsL SS KS).toArray := ⟨_, rfl⟩
 obtain ⟨R, hR⟩ : ∃ R, R = leadR KS SS p q l := ⟨_, rfl⟩
 obtain ⟨LH, hLH⟩ : ∃ L, L = bcells (leadH R) := ⟨_, rfl⟩
 rw [← hLW, ← hLC, ← hLS]
 have Am : IsHash (leadH R) := by rw [hR]; exact lead_hash ss_len p q l
 have Bm : IsHash (List.replicate 32 0) := ⟨rfl, fun k hk => by rw [List.eq_of_mem_replicate hk]; decide⟩
 have Dt := Hh (show (Tryz.prog.info? 41).map (·.size) = some LW.toArray.size by rw [List.size_toArray, hLW, waysC_len hp.hash hq.hash]; kernel_rfl)
 have Cj := Hh (show (Tryz.prog.info? 32).map (·.size) = some LC.toArray.size by rw [List.size_toArray, hLC, LeafT.len hl]; kernel_rfl)
 have B4 := Hh (show (Tryz.prog.info? 32).map (·.size) = some LC.length by rw [hLC, LeafT.len hl]; kernel_rfl)
 have Ck := Hh (show ∀ (L : List Value) (b : List Nat), L = bcells b → IsHash b → (Tryz.prog.info? 27).map (·.size) = some L.toArray.size ∧ zk.size = L.toArray.size ∧ L.toArray.all (·.oneCell') = true ∧ (Tryz.prog.info? 27).map (·.size) = some L.length from fun L b h1 h2 => by
   have e : L.length = 32 := by rw [h1, bcells_length, h2.1]
   exact ⟨by rw [List.size_toArray, e]; kernel_rfl, by rw [B9, List.size_toArray, e], by rw [h1]; exact all_oneCell_toArray (bcells_one b), by rw [e]; kernel_rfl⟩)
 have C3 := Hh (Ck.o LS said hLS hsd)
 have Ae := Hh (Ck.o LH _ hLH Am)
 have C1 := Hh (Ck.o LI _ hLI hl.id)
 have D6 := Hh (show (Tryz.prog.info? 39).map (·.size) = some LP.length by rw [hLP, show p.cells.length = 33 from pcells_len hp.hash _ _ _]; kernel_rfl)
 have D7 := Hh (show (Tryz.prog.info? 39).map (·.size) = some LQ.length by rw [hLQ, show q.cells.length = 33 from pcells_len hq.hash _ _ _]; kernel_rfl)
 have C4 := Hh (show (Tryz.prog.info? 56).map (·.size) = some CT.size ∧ zt.size = CT.size by rw [hCT, List.size_toArray, tabs_length KS SS ks_len ss_len, Cb]; exact ⟨by kernel_rfl, rfl⟩)
 have C5 := Hh (show (Tryz.prog.info? 56).map (·.size) = some CT.toList.length by rw [Array.length_toList]; exact C4.o.1)
 have C0 := Hh (show CT.all (·.oneCell') = true by rw [hCT]; kernel_rfl)
 have Ag := Hh (show ∀ n : Nd, IsHash n.h → (Tryz.prog.info? 30).map (·.size) = some (ndV n).toArray.size ∧ zn.size = (ndV n).length from fun n hn => ⟨by rw [List.size_toArray, ndV_len hn]; kernel_rfl, by rw [Ca, ndV_len hn]⟩)
 have Ci := Hh (show ∀ (v : World) B, Has v B 41 LW.toArray → v.rangeAt B 0 LP ∧ v.rangeAt B 33 LQ from fun v B h => by rw [hLW] at h; rw [hLP, hLQ]; exact ways_at hp.hash h)
 have Dn := Hh (show ∀ (v : World) B, Has v B 41 LW.toArray → v.cell? ⟨B, 32, none⟩ = some (.slice p.a p.n p.c) ∧ v.cell? ⟨B, 65, none⟩ = some (.slice q.a q.n q.c) from fun v B h => by
   have h1 := (Ci.o v B h).1 32 (.slice p.a p.n p.c) (by rw [hLP]; exact pcells_row hp.hash _ _ _)
   have h2 := (Ci.o v B h).2 32 (.slice q.a q.n q.c) (by rw [hLQ]; exact pcells_row hq.hash _ _ _)
   exact ⟨h1, h2⟩)
 have D1 := Hh (show ∀ (v : World) B, Has v B 32 LC.toArray → v.rangeAt B 0 LI from fun v B h => by rw [hLC] at h; rw [hLI]; exact coL_id h)
 have Bb := Hh (show ∀ v, Below w.heap.size w v → Calls Tryz.prog 13 #[.agg LW.toArray, .agg LC.toArray] v fun e w' => e = .returned (.tuple #[.agg LH.toArray, .int .i64 (leadE R : Int)]) ∧ Below v.heap.size v w' from fun v hv => by
   have h := coLead_is KS SS v (hT.below hv hT.low) p q (hp.below hv) (hq.below hv) l hl
   rw [← hR] at h
   unfold arr at h
   rw [← hLW, ← hLC, ← hLH] at h
   exact h)
 have Bt := Hh (show ∀ v, Below w.heap.size w v → Calls Tryz.prog 14 #[.agg LW.toArray, .agg LS.toArray, .agg LC.toArray] v fun e w' => e = .returned (.int .i64 (chkR R said : Int)) ∧ Below v.heap.size v w' from fun v hv => by
   have h := coCheck_is KS SS v (hT.below hv hT.low) p q (hp.below hv) (hq.below hv) said hsd l hl
   rw [← hR] at h
   unfold arr at h
   rw [← hLW, ← hLC, ← hLS] at h
   exact h)
 have Cw := Hh (show ∀ v, Calls Tryz.prog 15 #[.agg LC.toArray] v fun e w' => e = .returned (.int .i64 (leafE l)) ∧ w' = v.alloc (.cells LC.toArray 32) from fun v => by
   have h := leafCheck_is v l hl
   rw [← hLC] at h
   exact h)
 have Bw := Hh (show ∀ v, (Op.equalIn 10000 27 (.agg LZ.toArray) (.agg LZ.toArray)).run Tryz.prog v = .ok true v from fun v => by rw [hLZ, hash_eqC _ _ Bm Bm v, decide_eq_true rfl])
 have Di := Hh (show ∀ v, (Instr.build 27 #[]).run Tryz.prog v = .ok (.agg LZ.toArray) v from fun v => by rw [hLZ]; exact build_h0C v)
 have Ct := Hh (show ∀ (b : List Nat) (L : List Value), L = bcells b → IsHash b → ∀ v, (Op.equalIn 10000 27 (.agg LS.toArray) (.agg L.toArray)).run Tryz.prog v = .ok (decide (said = b)) v from fun b L h1 h2 v => by rw [hLS, h1]; exact hash_eqC said b hsd h2 v)
 have Cs := Hh (show ∀ v, (Op.equalIn 10000 27 (.agg LH.toArray) (.agg LH.toArray)).run Tryz.prog v = .ok true v from fun v => by rw [hLH, hash_eqC _ _ Am Am v, decide_eq_true rfl])
 have Ds := Hh (show ∀ v, Below w.heap.size w v → Tabs KS SS v from fun v hv => hT.below hv hT.low)
 obtain ⟨W1, hW1, h1, h2, h3, hb1⟩ := boxes_cle w LW LC LS
 have Dm := Hh (headC_is W1 (hT.below hb1 hT.low))
 have EW := Hh hW1
 have H1 := Hh h1
 have H2 := Hh h2
 have H3 := Hh h3
 have Cr := Hh hb1
 have HP := Hh hp
 have HQ := Hh hq
 have HL := Hh hl
 have Dv := Hh hLC
 have Du := Hh hKL
 have Dx := Hh hLP
 have Dy := Hh hLQ
 have Dw := Hh hLI
 have Cc := Hh hLH
 have C9 := Hh hLZ
 have C8 := Hh hCT
 have ER := Hh hR
 clear hLW hLC hLS hLP hLQ hLI hKL hLZ hCT hR hLH Am Bm hp hq hl hsd hT B9 Ca Cb hW1 h1 h2 h3 hb1
 go_enter Tryz.func4, Tryz.ntmps4
 go_upto_region 1 with (fail)
 rw [← EW.o]
 obtain ⟨B, hB⟩ : ∃ y, y = w.heap.size := ⟨_, rfl⟩
 rw [← hB] at H1 H2 H3 ⊢
 clear hB EW
 go_wp2_with fail
 refine Dm.o.mono ?_
 rintro _ W2 ⟨rfl, hb2⟩
 have Ce := Hh (Cr.o.trans (hb2.mono Cr.o.size))
 have h1 := H1.o.below hb2 H1.o.lt
 have h2 := H2.o.below hb2 H2.o.lt
 have h3 := H3.o.below hb2 H3.o.lt
 have Ar := Hh (show ∀ v, Below W2.heap.size W2 v → Has v B 41 LW.toArray ∧ Has v (B + 1) 32 LC.toArray ∧ Has v (B + 2) 27 LS.toArray ∧ Below w.heap.size w v from fun v hv => ⟨h1.below hv h1.lt, h2.below hv h2.lt, h3.below hv h3.lt, Ce.o.trans (hv.mono Ce.o.size)⟩)
 clear hb2 h1 h2 h3 H1 H2 H3 Cr Dm
 have hs2 := Ar.o W2 (Below.refl _ _)
 have c32 := (Dn.o W2 B hs2.1).1
 have c65 := (Dn.o W2 B hs2.1).2
 obtain ⟨pn, hpn⟩ : ∃ n, n = p.n := ⟨_, rfl⟩
 obtain ⟨qn, hqn⟩ : ∃ n, n = q.n := ⟨_, rfl⟩
 rw [← hpn] at c32
 rw [← hqn] at c65
 obtain ⟨pa, hpa⟩ : ∃ n, n = p.a := ⟨_, rfl⟩
 obtain ⟨qa', hqa⟩ : ∃ n, n = q.a := ⟨_, rfl⟩
 obtain ⟨pc, hpc⟩ : ∃ n, n = p.c := ⟨_, rfl⟩
 obtain ⟨qcc, hqcc⟩ : ∃ n, n = q.c := ⟨_, rfl⟩
 rw [← hpa, ← hpc] at c32
 rw [← hqa, ← hqcc] at c65
 clear hs2 hpn hqn hpa hqa hpc hqcc
 by_cases hp3 : 300 < pn
 · have hd : decide ((300 : Int) < (pn : Int)) = true := decide_eq_true (by omega)
   clear hp3
   go_wp2_with fail
   go_ret
   exact ⟨rfl, Ce.o⟩
 have hd : decide ((300 : Int) < (pn : Int)) = false := decide_eq_false (by omega)
 by_cases hq3 : 300 < qn
 · have hd2 : decide ((300 : Int) < (qn : Int)) = true := decide_eq_true (by omega)
   clear hp3 hq3
   go_wp2_with fail
   go_ret
   exact ⟨rfl, Ce.o⟩
 have hd2 : decide ((300 : Int) < (qn : Int)) = false := decide_eq_false (by omega)
 clear hp3 hq3
 have Cf := Hh (Ar.o W2 (Below.refl _ _))
 obtain ⟨E, hE⟩ : ∃ x, x = leadE R := ⟨_, rfl⟩
 obtain ⟨F, hF⟩ : ∃ x, x = chkR R said := ⟨_, rfl⟩
 rw [← hE] at Bb
 rw [← hF] at Bt
 have EE := Hh hE
 have EF := Hh hF
 clear hE hF
 go_wp2_with (first
   | (refine wpList_load_row rfl 41 (.tmp 3) rfl B rfl 41 LW.toArray (0, 0) _ Cf.o.1 Tryz.underlying41 rfl Dt.o ?_)
   | (refine wpList_load_row rfl 32 (.tmp 4) rfl (B + 1) rfl 32 LC.toArray (0, 0) _ Cf.o.2.1 Tryz.underlying32 rfl Cj.o ?_))
 refine (Bb.o W2 Cf.o.2.2.2).mono ?_
 rintro _ W3 ⟨rfl, hb3⟩
 obtain ⟨h7, hb7⟩ := new_row W3 27 zk LH.toArray
 have H7 := Hh h7
 have Dg := Hh (hb3.trans (hb7.mono hb3.size))
 clear hd hd2 c32 c65 hb3 h7 hb7
 go_upto_region 6 with (refine wpList_store_row rfl 27 (.tmp 7) (.tmp 35) rfl W3.heap.size LH.toArray rfl rfl 27 zk (heap_alloc_new W3 _) Ae.o.1 Ae.o.2.1 Ae.o.2.2.1 ?_)
 obtain ⟨W4, hW4⟩ : ∃ V, V = (W3.alloc (.cells zk 27)).setRow W3.heap.size LH.toArray := ⟨_, rfl⟩
 obtain ⟨G7, hG7⟩ : ∃ y, y = W3.heap.size := ⟨_, rfl⟩
 have h7 := H7.o
 have hb7 := Dg.o
 rw [← hW4, ← hG7] at h7
 rw [← hW4] at hb7 ⊢
 rw [← hG7]
 have B3 := Hh (Ar.o W4 hb7)
 have Be := Hh hb7
 have Cn := Hh h7
 clear hW4 hG7 h7 hb7 H7 Dg
 go_wp2_with (first
   | (refine wpList_load_row rfl 41 (.tmp 3) rfl B rfl 41 LW.toArray (0, 0) _ B3.o.1 Tryz.underlying41 rfl Dt.o ?_)
   | (refine wpList_load_row rfl 32 (.tmp 4) rfl (B + 1) rfl 32 LC.toArray (0, 0) _ B3.o.2.1 Tryz.underlying32 rfl Cj.o ?_)
   | (refine wpList_load_row rfl 27 (.tmp 5) rfl (B + 2) rfl 27 LS.toArray (0, 0) _ B3.o.2.2.1 Tryz.underlying27 rfl C3.o.1 ?_))
 refine (Bt.o W4 B3.o.2.2.2).mono ?_
 rintro _ W5 ⟨rfl, hb5⟩
 have A4 := Hh (Be.o.trans (hb5.mono Be.o.size))
 have Co := Hh (Cn.o.below hb5 Cn.o.lt)
 have Dq := Hh (Ar.o W5 A4.o)
 clear hb5 Cn B3 Be Cf
 obtain ⟨c0, hc0⟩ : ∃ c, c = leafE l := ⟨_, rfl⟩
 rw [← hc0] at Cw
 have C7 := Hh hc0
 clear hc0
 go_wp2_with (refine wpList_load_row rfl 32 (.tmp 4) rfl (B + 1) rfl 32 LC.toArray (0, 0) _ Dq.o.2.1 Tryz.underlying32 rfl Cj.o ?_)
 refine (Cw.o W5).mono ?_
 rintro _ W6 ⟨rfl, hW6⟩
 have hb6 : Below W5.heap.size W5 W6 := by rw [hW6]; exact (Below.refl _ _).alloc (Nat.le_refl _) _
 have Ah := Hh (A4.o.trans (hb6.mono A4.o.size))
 have Cp := Hh (Co.o.below hb6 Co.o.lt)
 have Cg := Hh (Ar.o W6 Ah.o)
 clear hW6 hb6 Co Dq A4
 by_cases hbad : leafBad l = true
 · have hc1 : c0 = 1 := by rw [C7.o]; unfold leafE; rw [if_pos hbad]
   have he1 : R = .error 1 := by rw [ER.o]; exact lead_bad hbad
   have hE1 : E = 1 := by rw [EE.o, he1]; rfl
   have hF1 : F = 1 := by rw [EF.o, he1]; rfl
   subst hc1
   subst hE1
   subst hF1
   clear he1 hbad
   go_wp2_with (refine wpList_load_row rfl 32 (.tmp 4) rfl (B + 1) rfl 32 LC.toArray (0, 0) _ Cg.o.2.1 Tryz.underlying32 rfl Cj.o ?_)
   refine (Cw.o W6).mono ?_
   rintro _ W7 ⟨rfl, hW7⟩
   have Cu := Hh (show Below w.heap.size w W7 by rw [hW7]; exact Cg.o.2.2.2.alloc Cg.o.2.2.2.size _)
   clear hW7
   go_wp2_with fail
   go_ret
   exact ⟨rfl, Cu.o⟩
 have hc1 : c0 = 0 := by rw [C7.o]; unfold leafE; rw [if_neg hbad]
 have A6 := Hh hbad
 subst hc1
 clear hbad
 obtain ⟨R1, hR1⟩ : ∃ R, R = lowR KS SS p l := ⟨_, rfl⟩
 have Aq := Hh (show IsHash (pfN R1).h ∧ (pfN R1).s < 18446744073709551616 by rw [hR1]; exact ⟨pf_hash ss_len (leaf_hash KS SS ss_len _ _), pf_fits HL.o.am⟩)
 obtain ⟨u1, hu1⟩ : ∃ u, u = pfE R1 := ⟨_, rfl⟩
 have Cl := Hh hR1
 have Bu := Hh (show (u1 = 0 ∧ R1 = .ok (pfN R1)) ∨ (u1 ≠ 0 ∧ R1 = .error u1) by rw [hu1]; exact pf_case hR1)
 have A7 := Hh (root_f ss_len (S := fun _ => False) (V := W6) (fun v hv => ⟨Ds.o v (Ar.o v (Ah.o.trans ((hv.below (Nat.le_refl _) (fun _ h => h.elim)).mono Ah.o.size))).2.2.2, HP.o.below (Ar.o v (Ah.o.trans ((hv.below (Nat.le_refl _) (fun _ h => h.elim)).mono Ah.o.size))).2.2.2⟩) HL.o A6.o Dv.o Du.o Dx.o hR1 hu1)
 clear hR1 hu1
 go_upto_region 9 with (fail)
 go_cut [10, 11] from 17 (fun v10 v11 wx => ∃ G, v10 = .pointer (some ⟨G, 0, none⟩) ∧ v11 = .int .i64 (u1 : Int) ∧ Has wx G 30 (ndV (pfN R1)).toArray ∧ Below W6.heap.size W6 wx)
 case first =>
   have hS0 : Below W6.heap.size W6 W6.drew := (Below.refl _ _).drew
   have An := Hh (show ∀ v, Below W6.heap.size W6 v → v.rangeAt B 0 LP ∧ v.rangeAt (B + 1) 0 LC ∧ Kept (fun _ => False) W6 v from fun v hv => by
     have h := Ar.o v (Ah.o.trans (hv.mono Ah.o.size))
     exact ⟨(Ci.o v B h.1).1, h.2.1.row0, Kept.of_below hv⟩)
   refine wp_region_noPanic ?_
   refine wp_region_held_drew (S := (fun v => Below W6.heap.size W6 v)) (by kernel_rfl) hS0 (fun hH0 => ?_)
   apply tl 0 rfl ?hv hH0 ?_
   case hv => intro w' hS; go_simp; try rfl
   simp only [qc]
   refine tk 1 (v := (.agg LP.toArray)) rfl (yieldsIf_load_mid (by kernel_rfl) 39 (.tmp 54) rfl B 0 rfl LP _ (fun w' h => (An.o _ h).1) Tryz.underlying39 rfl D6.o) hH0 ?_
   simp only [qc]
   refine tk 2 (v := (.agg LC.toArray)) rfl (yieldsIf_load_mid (by kernel_rfl) 32 (.tmp 4) rfl (B + 1) 0 rfl LC _ (fun w' h => (An.o _ h).2.1) Tryz.underlying32 rfl B4.o) hH0 ?_
   simp only [qc]
   refine tk 4 (v := (.agg LC.toArray)) rfl (yieldsIf_load_mid (by kernel_rfl) 32 (.tmp 4) rfl (B + 1) 0 rfl LC _ (fun w' h => (An.o _ h).2.1) Tryz.underlying32 rfl B4.o) hH0 ?_
   simp only [qc]
   refine rdy [3, 10] (AllReadyH.cons rfl (fun KK hKK => ?_) (ar1 rfl fun KK hKK => ?_))
   · go_simp
     refine (A7.o.1 _ (An.o _ hH0).2.2).mono ?_
     rintro _ xk ⟨rfl, hbk⟩
     have hs3 := Below.trans hH0 (hbk.mono hH0.size)
     try replace hz9 := hz9.below hbk hz9.lt
     clear hbk
     refine hKK _ _ hs3 fun hH1 => ?_
     clear hKK KK
     try simp only [qc]
     refine rdy [5, 10] (AllReadyH.cons rfl (fun KK hKK => ?_) (ar1 rfl fun KK hKK => ?_))
     · go_simp
       refine (A7.o.2.1 xk).mono ?_
       rintro _ xs ⟨sa, sc, rfl, hbw, hbs⟩
       have hs5 := Below.trans hH1 (hbs.mono hH1.size)
       try replace hz9 := hz9.below hbs hz9.lt
       clear hbs
       refine hKK _ _ hs5 fun hH2 => ?_
       clear hKK KK
       try simp only [qc]
       refine rdy [6, 10] (AllReadyH.cons rfl (fun KK hKK => ?_) (ar1 rfl fun KK hKK => ?_))
       · go_simp
         refine (A7.o.2.2 _ sa sc (An.o _ hH2).2.2 hbw).mono ?_
         rintro _ xr ⟨rfl, hbr⟩
         have hs6 := Below.trans hH2 (hbr.mono hH2.size)
         try replace hz9 := hz9.below hbr hz9.lt
         clear hbr hbw
         refine hKK _ _ hs6 fun hH3 => ?_
         clear hKK KK
         try simp only [qc]
         apply tl 7 rfl ?hv hH3 ?_
         case hv => intro w' hS; go_simp; try rfl
         simp only [qc]
         apply tl 8 rfl ?hv hH3 ?_
         case hv => intro w' hS; go_simp; try rfl
         simp only [qc]
         apply tl 9 rfl ?hv hH3 ?_
         case hv => intro w' hS; go_simp; try rfl
         simp only [qc]
         refine rdy [10] (ar1 rfl fun KK hKK => ?_)
         go_simp
         obtain ⟨xa, G9, hxa, hG9, Ad, hz9, hg9, Ac⟩ := al_step (W := W6) hH3 zn 30
         first | rw [← hxa] | (change KK _ (xr.alloc (.cells zn 30)); rw [← hxa])
         first | rw [← hG9] | (have hq : W6.heap.size = G9 := hG9.symm; rw [hq]; clear hq)
         clear hG9 hxa
         try replace hbw := bytes_up hbw Ac
         clear Ac
         refine hKK _ _ Ad fun hH4 => ?_
         clear hKK KK
         try simp only [qc]
         refine rdy [11] (ar1 rfl fun KK hKK => ?_)
         refine step_store_mid rfl 30 (.tmp 10) (.tmp 61) rfl G9 0 (ndV (pfN R1)).toArray rfl rfl (hz9.there 0 _ (by rw [List.size_toArray, (Ag.o _ Aq.o.1).2]; exact Nat.le_of_eq (Nat.zero_add _))) (Ag.o _ Aq.o.1).1 (ndV_one _) ?_
         have Aa := set_box hH4 hz9 hg9 (Below.size hH4) (Ag.o _ Aq.o.1).2
         obtain ⟨xb, hxb⟩ : ∃ y, y = xa.setCells G9 0 (ndV (pfN R1)) := ⟨_, rfl⟩
         rw [← hxb] at Aa
         change KK _ (xa.setCells G9 0 (ndV (pfN R1)))
         rw [← hxb]
         have Ab := Aa.1
         clear hxb
         refine hKK _ _ Ab fun hH5 => ?_
         clear hKK KK
         try simp only [qc]
         apply tl 12 rfl ?hv hH5 ?_
         case hv => intro w' hS; go_simp; try rfl
         simp only [qc]
         refine wpAnyH_done (by kernel_rfl) ?_ _
         refine NoPanic.normal ?_
         have Ai := Hh Aa.2.1
         have Aj := Hh Ab
         clear Aa Ab
         go_wp2_with fail
         go_meet
         case rel => exact ⟨G9, rfl, rfl, Ai.o, Aj.o⟩
       · go_simp
         obtain ⟨xa, G9, hxa, hG9, Ad, hz9, hg9, Ac⟩ := al_step (W := W6) hH2 zn 30
         first | rw [← hxa] | (change KK _ (xs.alloc (.cells zn 30)); rw [← hxa])
         first | rw [← hG9] | (have hq : W6.heap.size = G9 := hG9.symm; rw [hq]; clear hq)
         clear hG9 hxa
         try replace hbw := bytes_up hbw Ac
         clear Ac
         refine hKK _ _ Ad fun hH3 => ?_
         clear hKK KK
         try simp only [qc]
         refine rdy [6] (ar1 rfl fun KK hKK => ?_)
         go_simp
         refine (A7.o.2.2 _ sa sc (An.o _ hH3).2.2 hbw).mono ?_
         rintro _ xr ⟨rfl, hbr⟩
         have hs6 := Below.trans hH3 (hbr.mono hH3.size)
         try replace hz9 := hz9.below hbr hz9.lt
         clear hbr hbw
         refine hKK _ _ hs6 fun hH4 => ?_
         clear hKK KK
         try simp only [qc]
         apply tl 7 rfl ?hv hH4 ?_
         case hv => intro w' hS; go_simp; try rfl
         simp only [qc]
         apply tl 8 rfl ?hv hH4 ?_
         case hv => intro w' hS; go_simp; try rfl
         simp only [qc]
         apply tl 9 rfl ?hv hH4 ?_
         case hv => intro w' hS; go_simp; try rfl
         simp only [qc]
         refine rdy [11] (ar1 rfl fun KK hKK => ?_)
         refine step_store_mid rfl 30 (.tmp 10) (.tmp 61) rfl G9 0 (ndV (pfN R1)).toArray rfl rfl (hz9.there 0 _ (by rw [List.size_toArray, (Ag.o _ Aq.o.1).2]; exact Nat.le_of_eq (Nat.zero_add _))) (Ag.o _ Aq.o.1).1 (ndV_one _) ?_
         have Aa := set_box hH4 hz9 hg9 (Below.size hH4) (Ag.o _ Aq.o.1).2
         obtain ⟨xb, hxb⟩ : ∃ y, y = xr.setCells G9 0 (ndV (pfN R1)) := ⟨_, rfl⟩
         rw [← hxb] at Aa
         change KK _ (xr.setCells G9 0 (ndV (pfN R1)))
         rw [← hxb]
         have Ab := Aa.1
         clear hxb
         refine hKK _ _ Ab fun hH5 => ?_
         clear hKK KK
         try simp only [qc]
         apply tl 12 rfl ?hv hH5 ?_
         case hv => intro w' hS; go_simp; try rfl
         simp only [qc]
         refine wpAnyH_done (by kernel_rfl) ?_ _
         refine NoPanic.normal ?_
         have Ai := Hh Aa.2.1
         have Aj := Hh Ab
         clear Aa Ab
         go_wp2_with fail
         go_meet
         case rel => exact ⟨G9, rfl, rfl, Ai.o, Aj.o⟩
     · go_simp
       obtain ⟨xa, G9, hxa, hG9, Ad, hz9, hg9, Ac⟩ := al_step (W := W6) hH1 zn 30
       first | rw [← hxa] | (change KK _ (xk.alloc (.cells zn 30)); rw [← hxa])
       first | rw [← hG9] | (have hq : W6.heap.size = G9 := hG9.symm; rw [hq]; clear hq)
       clear hG9 hxa
       try replace hbw := bytes_up hbw Ac
       clear Ac
       refine hKK _ _ Ad fun hH2 => ?_
       clear hKK KK
       try simp only [qc]
       refine rdy [5] (ar1 rfl fun KK hKK => ?_)
       go_simp
       refine (A7.o.2.1 xa).mono ?_
       rintro _ xs ⟨sa, sc, rfl, hbw, hbs⟩
       have hs5 := Below.trans hH2 (hbs.mono hH2.size)
       try replace hz9 := hz9.below hbs hz9.lt
       clear hbs
       refine hKK _ _ hs5 fun hH3 => ?_
       clear hKK KK
       try simp only [qc]
       refine rdy [6] (ar1 rfl fun KK hKK => ?_)
       go_simp
       refine (A7.o.2.2 _ sa sc (An.o _ hH3).2.2 hbw).mono ?_
       rintro _ xr ⟨rfl, hbr⟩
       have hs6 := Below.trans hH3 (hbr.mono hH3.size)
       try replace hz9 := hz9.below hbr hz9.lt
       clear hbr hbw
       refine hKK _ _ hs6 fun hH4 => ?_
       clear hKK KK
       try simp only [qc]
       apply tl 7 rfl ?hv hH4 ?_
       case hv => intro w' hS; go_simp; try rfl
       simp only [qc]
       apply tl 8 rfl ?hv hH4 ?_
       case hv => intro w' hS; go_simp; try rfl
       simp only [qc]
       apply tl 9 rfl ?hv hH4 ?_
       case hv => intro w' hS; go_simp; try rfl
       simp only [qc]
       refine rdy [11] (ar1 rfl fun KK hKK => ?_)
       refine step_store_mid rfl 30 (.tmp 10) (.tmp 61) rfl G9 0 (ndV (pfN R1)).toArray rfl rfl (hz9.there 0 _ (by rw [List.size_toArray, (Ag.o _ Aq.o.1).2]; exact Nat.le_of_eq (Nat.zero_add _))) (Ag.o _ Aq.o.1).1 (ndV_one _) ?_
       have Aa := set_box hH4 hz9 hg9 (Below.size hH4) (Ag.o _ Aq.o.1).2
       obtain ⟨xb, hxb⟩ : ∃ y, y = xr.setCells G9 0 (ndV (pfN R1)) := ⟨_, rfl⟩
       rw [← hxb] at Aa
       change KK _ (xr.setCells G9 0 (ndV (pfN R1)))
       rw [← hxb]
       have Ab := Aa.1
       clear hxb
       refine hKK _ _ Ab fun hH5 => ?_
       clear hKK KK
       try simp only [qc]
       apply tl 12 rfl ?hv hH5 ?_
       case hv => intro w' hS; go_simp; try rfl
       simp only [qc]
       refine wpAnyH_done (by kernel_rfl) ?_ _
       refine NoPanic.normal ?_
       have Ai := Hh Aa.2.1
       have Aj := Hh Ab
       clear Aa Ab
       go_wp2_with fail
       go_meet
       case rel => exact ⟨G9, rfl, rfl, Ai.o, Aj.o⟩
   · go_simp
     obtain ⟨xa, G9, hxa, hG9, Ad, hz9, hg9, Ac⟩ := al_step (W := W6) hH0 zn 30
     first | rw [← hxa] | (change KK _ (W6.drew.alloc (.cells zn 30)); rw [← hxa])
     first | rw [← hG9] | (have hq : W6.heap.size = G9 := hG9.symm; rw [hq]; clear hq)
     clear hG9 hxa
     try replace hbw := bytes_up hbw Ac
     clear Ac
     refine hKK _ _ Ad fun hH1 => ?_
     clear hKK KK
     try simp only [qc]
     refine rdy [3] (ar1 rfl fun KK hKK => ?_)
     go_simp
     refine (A7.o.1 _ (An.o _ hH1).2.2).mono ?_
     rintro _ xk ⟨rfl, hbk⟩
     have hs3 := Below.trans hH1 (hbk.mono hH1.size)
     try replace hz9 := hz9.below hbk hz9.lt
     clear hbk
     refine hKK _ _ hs3 fun hH2 => ?_
     clear hKK KK
     try simp only [qc]
     refine rdy [5] (ar1 rfl fun KK hKK => ?_)
     go_simp
     refine (A7.o.2.1 xk).mono ?_
     rintro _ xs ⟨sa, sc, rfl, hbw, hbs⟩
     have hs5 := Below.trans hH2 (hbs.mono hH2.size)
     try replace hz9 := hz9.below hbs hz9.lt
     clear hbs
     refine hKK _ _ hs5 fun hH3 => ?_
     clear hKK KK
     try simp only [qc]
     refine rdy [6] (ar1 rfl fun KK hKK => ?_)
     go_simp
     refine (A7.o.2.2 _ sa sc (An.o _ hH3).2.2 hbw).mono ?_
     rintro _ xr ⟨rfl, hbr⟩
     have hs6 := Below.trans hH3 (hbr.mono hH3.size)
     try replace hz9 := hz9.below hbr hz9.lt
     clear hbr hbw
     refine hKK _ _ hs6 fun hH4 => ?_
     clear hKK KK
     try simp only [qc]
     apply tl 7 rfl ?hv hH4 ?_
     case hv => intro w' hS; go_simp; try rfl
     simp only [qc]
     apply tl 8 rfl ?hv hH4 ?_
     case hv => intro w' hS; go_simp; try rfl
     simp only [qc]
     apply tl 9 rfl ?hv hH4 ?_
     case hv => intro w' hS; go_simp; try rfl
     simp only [qc]
     refine rdy [11] (ar1 rfl fun KK hKK => ?_)
     refine step_store_mid rfl 30 (.tmp 10) (.tmp 61) rfl G9 0 (ndV (pfN R1)).toArray rfl rfl (hz9.there 0 _ (by rw [List.size_toArray, (Ag.o _ Aq.o.1).2]; exact Nat.le_of_eq (Nat.zero_add _))) (Ag.o _ Aq.o.1).1 (ndV_one _) ?_
     have Aa := set_box hH4 hz9 hg9 (Below.size hH4) (Ag.o _ Aq.o.1).2
     obtain ⟨xb, hxb⟩ : ∃ y, y = xr.setCells G9 0 (ndV (pfN R1)) := ⟨_, rfl⟩
     rw [← hxb] at Aa
     change KK _ (xr.setCells G9 0 (ndV (pfN R1)))
     rw [← hxb]
     have Ab := Aa.1
     clear hxb
     refine hKK _ _ Ab fun hH5 => ?_
     clear hKK KK
     try simp only [qc]
     apply tl 12 rfl ?hv hH5 ?_
     case hv => intro w' hS; go_simp; try rfl
     simp only [qc]
     refine wpAnyH_done (by kernel_rfl) ?_ _
     refine NoPanic.normal ?_
     have Ai := Hh Aa.2.1
     have Aj := Hh Ab
     clear Aa Ab
     go_wp2_with fail
     go_meet
     case rel => exact ⟨G9, rfl, rfl, Ai.o, Aj.o⟩
 case rest =>
 obtain ⟨W9, hW9⟩ : ∃ x, x = wc := ⟨_, rfl⟩
 subst hW9
 obtain ⟨D0, rfl, rfl, B6, hb9⟩ := hcut
 have A5 := Hh (Ah.o.trans (hb9.mono Ah.o.size))
 have By := Hh B6
 have Cd := Hh (Cp.o.below hb9 Cp.o.lt)
 have Dr := Hh (Ar.o W9 A5.o)
 clear B6 hb9 Cp Cg Ah
 by_cases hu0 : u1 = 0
 rotate_left
 · have hR1 : R1 = .error u1 := by
     rcases Bu.o with ⟨h, _⟩ | ⟨_, h⟩
     · exact absurd h hu0
     · exact h
   have hRe : R = .error u1 := by rw [ER.o]; exact lead_err1 A6.o (by rw [← Cl.o]; exact hR1)
   have hE1 : E = u1 := by rw [EE.o, hRe]; rfl
   have hF1 : F = u1 := by rw [EF.o, hRe]; rfl
   have hH0 : LH = LZ := by rw [Cc.o, hRe, C9.o]; rfl
   have hne : ((u1 : Int) != 0) = true := by rw [bne_iff_ne]; omega
   have hee : ((u1 : Int) == (u1 : Int)) = true := by simp
   have hqz := Bw.o
   subst hE1
   subst hF1
   subst hH0
   have Cq := Hh Cd.o.row0
   clear hR1 hRe hu0
   go_wp2_with (first
     | (refine wpList_load_midG rfl 27 (.tmp 7) rfl G7 0 rfl LH _ Cq.o Tryz.underlying27 rfl Ae.o.2.2.2 ?_)
     | (refine wpList_build_run rfl 27 #[] rfl #[] (by kernel_rfl) (.agg LH.toArray) (Di.o _) ?_))
   go_ret
   exact ⟨rfl, Dr.o.2.2.2⟩
 have B0 := Hh (show R1 = .ok (pfN R1) by
   rcases Bu.o with ⟨_, h⟩ | ⟨h, _⟩
   · exact h
   · exact absurd hu0 h)
 subst hu0
 obtain ⟨n1, hn1⟩ : ∃ n, n = pfN R1 := ⟨_, rfl⟩
 have Bf := Aq.o
 have Az := By.o
 rw [← hn1] at Bf Az
 have HN := Hh Bf
 have Cv := Hh Az
 have Da := Hh hn1
 clear Bf Az hn1 Aq By
 have D4 := Hh (show ∀ v, Calls Tryz.prog 19 #[] v fun e w' => e = .returned (.agg CT) ∧ Below v.heap.size v w' from fun v => by
   have h := make_is v
   rw [tab_words, ← C8.o] at h
   exact h)
 go_wp2_with fail
 refine (D4.o W9).mono ?_
 rintro _ Bo ⟨rfl, Bk⟩
 obtain ⟨h12, B5⟩ := new_row Bo 56 zt CT
 have De := Hh h12
 have Bq := Hh (Bk.trans (B5.mono Bk.size))
 clear Bk h12 B5
 go_upto_region 13 with (refine wpList_store_row rfl 56 (.tmp 12) (.tmp 78) rfl Bo.heap.size CT rfl rfl 56 zt (heap_alloc_new Bo _) C4.o.1 C4.o.2 C0.o ?_)
 obtain ⟨Bp, hW11⟩ : ∃ V, V = (Bo.alloc (.cells zt 56)).setRow Bo.heap.size CT := ⟨_, rfl⟩
 obtain ⟨Dc, hG12⟩ : ∃ y, y = Bo.heap.size := ⟨_, rfl⟩
 have h12 := De.o
 have A2 := Bq.o
 rw [← hW11, ← hG12] at h12
 rw [← hW11] at A2 ⊢
 rw [← hG12]
 have Ba := Hh (Cv.o.below A2 Cv.o.lt)
 have Bc := Hh (Cd.o.below A2 Cd.o.lt)
 have Ax := Hh (A5.o.trans (A2.mono A5.o.size))
 have Au := Hh h12
 obtain ⟨h13, Ap⟩ := new_row Bp 30 zn (ndV n1).toArray
 have Df := Hh h13
 have Br := Hh Ap
 have Cy := Hh (show (ndV n1).toArray.all (·.oneCell') = true from ndV_one _)
 have Bj := Hh (Ag.o n1 HN.o.1)
 have C6 := Hh (show zn.size = (ndV n1).toArray.size by rw [List.size_toArray]; exact Bj.o.2)
 clear hW11 hG12 h12 A2 h13 Ap De Bq Cv Cd A5 Dr
 go_upto_region 14 with (first
   | (refine wpList_load_row rfl 30 (.tmp 10) rfl D0 rfl 30 (ndV n1).toArray (0, 0) _ Ba.o Tryz.underlying30 rfl Bj.o.1 ?_)
   | (refine wpList_store_row rfl 30 (.tmp 13) (.tmp 79) rfl Bp.heap.size (ndV n1).toArray rfl rfl 30 zn (heap_alloc_new Bp _) Bj.o.1 C6.o Cy.o ?_))
 obtain ⟨Al, hW13⟩ : ∃ V, V = (Bp.alloc (.cells zn 30)).setRow Bp.heap.size (ndV n1).toArray := ⟨_, rfl⟩
 obtain ⟨Bn, hG13⟩ : ∃ y, y = Bp.heap.size := ⟨_, rfl⟩
 have h13 := Df.o
 have Ap := Br.o
 rw [← hW13, ← hG13] at h13
 rw [← hW13] at Ap ⊢
 rw [← hG13]
 have Av := Hh (Au.o.below Ap Au.o.lt)
 have Bd := Hh (Bc.o.below Ap Bc.o.lt)
 have Ak := Hh (Ax.o.trans (Ap.mono Ax.o.size))
 have Aw := Hh h13
 clear hW13 hG13 h13 Ap Df Br Au Bc Ax Ba
 have Bh := Hh (Ar.o Al Ak.o)
 obtain ⟨R2, hR2⟩ : ∃ R, R = highR KS SS q l.id n1 := ⟨_, rfl⟩
 have A1 := Hh (show IsHash (pfN R2).h ∧ (pfN R2).s < 18446744073709551616 by rw [hR2]; exact ⟨pf_hash ss_len (leaf_hash KS SS ss_len _ _), pf_fits HN.o.2⟩)
 obtain ⟨u2, hu2⟩ : ∃ u, u = pfE R2 := ⟨_, rfl⟩
 obtain ⟨LN, hLN⟩ : ∃ L, L = bcells n1.h := ⟨_, rfl⟩
 have Bv := Hh (show (u2 = 0 ∧ R2 = .ok (pfN R2)) ∨ (u2 ≠ 0 ∧ R2 = .error u2) by rw [hu2]; exact pf_case hR2)
 have Bx := Hh (high_f (V := Al) (Ds.o Al Bh.o.2.2.2) (HQ.o.below Bh.o.2.2.2) HL.o.id HN.o.1 HN.o.2 Dy.o Dw.o hLN hR2 hu2)
 have Db := Hh hR2
 have C2 := Hh (Ck.o LN n1.h hLN HN.o.1)
 have D5 := Hh (show ∀ v, Has v Bn 30 (ndV n1).toArray → v.rangeAt Bn 0 LN ∧ v.cell? ⟨Bn, 32, none⟩ = some (.int .u64 (n1.s : Int)) from fun v hv => ⟨fun j u hu => by
   refine hv.row0 j u ?_
   rw [hLN] at hu
   rw [ndV, ncells, List.getElem?_append_left (List.getElem?_eq_some_iff.1 hu).1]
   exact hu, hv.cell_is (by rw [List.getElem?_toArray]; exact nd_sum_at HN.o.1)⟩)
 clear hR2 hu2 hLN
 simp only [Act.put]
 go_cut [14, 15] from 17 (fun v14 v15 wx => ∃ G, v14 = .pointer (some ⟨G, 0, none⟩) ∧ v15 = .int .i64 (u2 : Int) ∧ Has wx G 30 (ndV (pfN R2)).toArray ∧ Below Al.heap.size Al wx)
 case first =>
   have hS0 : Below Al.heap.size Al Al.drew := (Below.refl _ _).drew
   have An := Hh (show ∀ v, Below Al.heap.size Al v → v.rangeAt B 33 LQ ∧ v.rangeAt (B + 1) 0 LI ∧ v.rangeAt Bn 0 LN ∧ v.cell? ⟨Bn, 32, none⟩ = some (.int .u64 (n1.s : Int)) from fun v hv => by
     have h := Ar.o v (Ak.o.trans (hv.mono Ak.o.size))
     have h2 := D5.o v (Aw.o.below hv Aw.o.lt)
     exact ⟨(Ci.o v B h.1).2, D1.o v _ h.2.1, h2.1, h2.2⟩)
   obtain ⟨NS, hNS⟩ : ∃ s, s = n1.s := ⟨_, rfl⟩
   refine wp_region_noPanic ?_
   refine wp_region_held_drew (S := (fun v => Below Al.heap.size Al v)) (by kernel_rfl) hS0 (fun hH0 => ?_)
   apply tl 0 rfl ?hv hH0 ?_
   case hv => intro w' hS; go_simp; try rfl
   simp only [qc]
   refine tk 1 (v := (.agg LQ.toArray)) rfl (yieldsIf_load_mid (by kernel_rfl) 39 (.tmp 81) rfl B 33 rfl LQ _ (fun w' h => (An.o _ h).1) Tryz.underlying39 rfl D7.o) hH0 ?_
   simp only [qc]
   apply tl 2 rfl ?hv hH0 ?_
   case hv => intro w' hS; go_simp; try rfl
   simp only [qc]
   refine tk 3 (v := (.agg LI.toArray)) rfl (yieldsIf_load_mid (by kernel_rfl) 27 (.tmp 83) rfl (B + 1) 0 rfl LI _ (fun w' h => (An.o _ h).2.1) Tryz.underlying27 rfl C1.o.2.2.2) hH0 ?_
   simp only [qc]
   apply tl 4 rfl ?hv hH0 ?_
   case hv => intro w' hS; go_simp; try rfl
   simp only [qc]
   refine tk 5 (v := (.agg LN.toArray)) rfl (yieldsIf_load_mid (by kernel_rfl) 27 (.tmp 85) rfl Bn 0 rfl LN _ (fun w' h => (An.o _ h).2.2.1) Tryz.underlying27 rfl C2.o.2.2.2) hH0 ?_
   simp only [qc]
   apply tl 6 rfl ?hv hH0 ?_
   case hv => intro w' hS; go_simp; try rfl
   simp only [qc]
   refine tl 7 (v := (.int .u64 (n1.s : Int))) rfl (by intro w' hS; have z0 := (An.o w' hS).2.2.2; go_simp; try rfl) hH0 ?_
   simp only [qc]
   refine rdy [8, 13] (AllReadyH.cons rfl (fun KK hKK => ?_) (ar1 rfl fun KK hKK => ?_))
   · go_simp
     refine (Bx.o.1 Al.drew).mono ?_
     rintro _ xs ⟨sa, sc, rfl, hbw, hbs⟩
     have hs5 := Below.trans hH0 (hbs.mono hH0.size)
     try replace hz9 := hz9.below hbs hz9.lt
     clear hbs
     refine hKK _ _ hs5 fun hH1 => ?_
     clear hKK KK
     try simp only [qc]
     refine rdy [9, 13] (AllReadyH.cons rfl (fun KK hKK => ?_) (ar1 rfl fun KK hKK => ?_))
     · go_simp
       refine (Bx.o.2 _ sa sc hH1 hbw).mono ?_
       rintro _ xr ⟨rfl, hbr⟩
       have hs6 := Below.trans hH1 (hbr.mono hH1.size)
       try replace hz9 := hz9.below hbr hz9.lt
       clear hbr hbw
       refine hKK _ _ hs6 fun hH2 => ?_
       clear hKK KK
       try simp only [qc]
       apply tl 10 rfl ?hv hH2 ?_
       case hv => intro w' hS; go_simp; try rfl
       simp only [qc]
       apply tl 11 rfl ?hv hH2 ?_
       case hv => intro w' hS; go_simp; try rfl
       simp only [qc]
       apply tl 12 rfl ?hv hH2 ?_
       case hv => intro w' hS; go_simp; try rfl
       simp only [qc]
       refine rdy [13] (ar1 rfl fun KK hKK => ?_)
       go_simp
       obtain ⟨xa, G9, hxa, hG9, Ad, hz9, hg9, Ac⟩ := al_step (W := Al) hH2 zn 30
       first | rw [← hxa] | (change KK _ (xr.alloc (.cells zn 30)); rw [← hxa])
       first | rw [← hG9] | (have hq : Al.heap.size = G9 := hG9.symm; rw [hq]; clear hq)
       clear hG9 hxa
       try replace hbw := bytes_up hbw Ac
       clear Ac
       refine hKK _ _ Ad fun hH3 => ?_
       clear hKK KK
       try simp only [qc]
       refine rdy [14] (ar1 rfl fun KK hKK => ?_)
       refine step_store_mid rfl 30 (.tmp 14) (.tmp 91) rfl G9 0 (ndV (pfN R2)).toArray rfl rfl (hz9.there 0 _ (by rw [List.size_toArray, (Ag.o _ A1.o.1).2]; exact Nat.le_of_eq (Nat.zero_add _))) (Ag.o _ A1.o.1).1 (ndV_one _) ?_
       have Aa := set_box hH3 hz9 hg9 (Below.size hH3) (Ag.o _ A1.o.1).2
       obtain ⟨xb, hxb⟩ : ∃ y, y = xa.setCells G9 0 (ndV (pfN R2)) := ⟨_, rfl⟩
       rw [← hxb] at Aa
       change KK _ (xa.setCells G9 0 (ndV (pfN R2)))
       rw [← hxb]
       have Ab := Aa.1
       clear hxb
       refine hKK _ _ Ab fun hH4 => ?_
       clear hKK KK
       try simp only [qc]
       apply tl 15 rfl ?hv hH4 ?_
       case hv => intro w' hS; go_simp; try rfl
       simp only [qc]
       refine wpAnyH_done (by kernel_rfl) ?_ _
       refine NoPanic.normal ?_
       have Ai := Hh Aa.2.1
       have Aj := Hh Ab
       clear Aa Ab
       go_wp2_with fail
       go_meet
       case rel => exact ⟨G9, rfl, rfl, Ai.o, Aj.o⟩
     · go_simp
       obtain ⟨xa, G9, hxa, hG9, Ad, hz9, hg9, Ac⟩ := al_step (W := Al) hH1 zn 30
       first | rw [← hxa] | (change KK _ (xs.alloc (.cells zn 30)); rw [← hxa])
       first | rw [← hG9] | (have hq : Al.heap.size = G9 := hG9.symm; rw [hq]; clear hq)
       clear hG9 hxa
       try replace hbw := bytes_up hbw Ac
       clear Ac
       refine hKK _ _ Ad fun hH2 => ?_
       clear hKK KK
       try simp only [qc]
       refine rdy [9] (ar1 rfl fun KK hKK => ?_)
       go_simp
       refine (Bx.o.2 _ sa sc hH2 hbw).mono ?_
       rintro _ xr ⟨rfl, hbr⟩
       have hs6 := Below.trans hH2 (hbr.mono hH2.size)
       try replace hz9 := hz9.below hbr hz9.lt
       clear hbr hbw
       refine hKK _ _ hs6 fun hH3 => ?_
       clear hKK KK
       try simp only [qc]
       apply tl 10 rfl ?hv hH3 ?_
       case hv => intro w' hS; go_simp; try rfl
       simp only [qc]
       apply tl 11 rfl ?hv hH3 ?_
       case hv => intro w' hS; go_simp; try rfl
       simp only [qc]
       apply tl 12 rfl ?hv hH3 ?_
       case hv => intro w' hS; go_simp; try rfl
       simp only [qc]
       refine rdy [14] (ar1 rfl fun KK hKK => ?_)
       refine step_store_mid rfl 30 (.tmp 14) (.tmp 91) rfl G9 0 (ndV (pfN R2)).toArray rfl rfl (hz9.there 0 _ (by rw [List.size_toArray, (Ag.o _ A1.o.1).2]; exact Nat.le_of_eq (Nat.zero_add _))) (Ag.o _ A1.o.1).1 (ndV_one _) ?_
       have Aa := set_box hH3 hz9 hg9 (Below.size hH3) (Ag.o _ A1.o.1).2
       obtain ⟨xb, hxb⟩ : ∃ y, y = xr.setCells G9 0 (ndV (pfN R2)) := ⟨_, rfl⟩
       rw [← hxb] at Aa
       change KK _ (xr.setCells G9 0 (ndV (pfN R2)))
       rw [← hxb]
       have Ab := Aa.1
       clear hxb
       refine hKK _ _ Ab fun hH4 => ?_
       clear hKK KK
       try simp only [qc]
       apply tl 15 rfl ?hv hH4 ?_
       case hv => intro w' hS; go_simp; try rfl
       simp only [qc]
       refine wpAnyH_done (by kernel_rfl) ?_ _
       refine NoPanic.normal ?_
       have Ai := Hh Aa.2.1
       have Aj := Hh Ab
       clear Aa Ab
       go_wp2_with fail
       go_meet
       case rel => exact ⟨G9, rfl, rfl, Ai.o, Aj.o⟩
   · go_simp
     obtain ⟨xa, G9, hxa, hG9, Ad, hz9, hg9, Ac⟩ := al_step (W := Al) hH0 zn 30
     first | rw [← hxa] | (change KK _ (Al.drew.alloc (.cells zn 30)); rw [← hxa])
     first | rw [← hG9] | (have hq : Al.heap.size = G9 := hG9.symm; rw [hq]; clear hq)
     clear hG9 hxa
     try replace hbw := bytes_up hbw Ac
     clear Ac
     refine hKK _ _ Ad fun hH1 => ?_
     clear hKK KK
     try simp only [qc]
     refine rdy [8] (ar1 rfl fun KK hKK => ?_)
     go_simp
     refine (Bx.o.1 xa).mono ?_
     rintro _ xs ⟨sa, sc, rfl, hbw, hbs⟩
     have hs5 := Below.trans hH1 (hbs.mono hH1.size)
     try replace hz9 := hz9.below hbs hz9.lt
     clear hbs
     refine hKK _ _ hs5 fun hH2 => ?_
     clear hKK KK
     try simp only [qc]
     refine rdy [9] (ar1 rfl fun KK hKK => ?_)
     go_simp
     refine (Bx.o.2 _ sa sc hH2 hbw).mono ?_
     rintro _ xr ⟨rfl, hbr⟩
     have hs6 := Below.trans hH2 (hbr.mono hH2.size)
     try replace hz9 := hz9.below hbr hz9.lt
     clear hbr hbw
     refine hKK _ _ hs6 fun hH3 => ?_
     clear hKK KK
     try simp only [qc]
     apply tl 10 rfl ?hv hH3 ?_
     case hv => intro w' hS; go_simp; try rfl
     simp only [qc]
     apply tl 11 rfl ?hv hH3 ?_
     case hv => intro w' hS; go_simp; try rfl
     simp only [qc]
     apply tl 12 rfl ?hv hH3 ?_
     case hv => intro w' hS; go_simp; try rfl
     simp only [qc]
     refine rdy [14] (ar1 rfl fun KK hKK => ?_)
     refine step_store_mid rfl 30 (.tmp 14) (.tmp 91) rfl G9 0 (ndV (pfN R2)).toArray rfl rfl (hz9.there 0 _ (by rw [List.size_toArray, (Ag.o _ A1.o.1).2]; exact Nat.le_of_eq (Nat.zero_add _))) (Ag.o _ A1.o.1).1 (ndV_one _) ?_
     have Aa := set_box hH3 hz9 hg9 (Below.size hH3) (Ag.o _ A1.o.1).2
     obtain ⟨xb, hxb⟩ : ∃ y, y = xr.setCells G9 0 (ndV (pfN R2)) := ⟨_, rfl⟩
     rw [← hxb] at Aa
     change KK _ (xr.setCells G9 0 (ndV (pfN R2)))
     rw [← hxb]
     have Ab := Aa.1
     clear hxb
     refine hKK _ _ Ab fun hH4 => ?_
     clear hKK KK
     try simp only [qc]
     apply tl 15 rfl ?hv hH4 ?_
     case hv => intro w' hS; go_simp; try rfl
     simp only [qc]
     refine wpAnyH_done (by kernel_rfl) ?_ _
     refine NoPanic.normal ?_
     have Ai := Hh Aa.2.1
     have Aj := Hh Ab
     clear Aa Ab
     go_wp2_with fail
     go_meet
     case rel => exact ⟨G9, rfl, rfl, Ai.o, Aj.o⟩
 case rest =>
 obtain ⟨Af, hW14⟩ : ∃ x, x = wc := ⟨_, rfl⟩
 subst hW14
 obtain ⟨As, rfl, rfl, B7, A8⟩ := hcut
 have Ay := Hh (Ak.o.trans (A8.mono Ak.o.size))
 have Bz := Hh B7
 have A3 := Hh (Bd.o.below A8 Bd.o.lt)
 have A9 := Hh (Av.o.below A8 Av.o.lt)
 have B2 := Hh (Ar.o Af Ay.o)
 clear B7 A8 Bd Av Aw Bh Ak
 by_cases hu0 : u2 = 0
 rotate_left
 · have hR1 : R2 = .error u2 := by
     rcases Bv.o with ⟨h, _⟩ | ⟨_, h⟩
     · exact absurd h hu0
     · exact h
   have hRe : R = .error u2 := by rw [ER.o]; exact lead_err2 A6.o (n := n1) (by rw [← Cl.o, Da.o]; exact B0.o) (by rw [← Db.o]; exact hR1)
   have hE1 : E = u2 := by rw [EE.o, hRe]; rfl
   have hF1 : F = u2 := by rw [EF.o, hRe]; rfl
   have hH0 : LH = LZ := by rw [Cc.o, hRe, C9.o]; rfl
   have hne : ((u2 : Int) != 0) = true := by rw [bne_iff_ne]; omega
   have hee : ((u2 : Int) == (u2 : Int)) = true := by simp
   have hqz := Bw.o
   subst hE1
   subst hF1
   subst hH0
   have Cq := Hh A3.o.row0
   clear hR1 hRe hu0
   go_wp2_with (first
     | (refine wpList_load_midG rfl 27 (.tmp 7) rfl G7 0 rfl LH _ Cq.o Tryz.underlying27 rfl Ae.o.2.2.2 ?_)
     | (refine wpList_build_run rfl 27 #[] rfl #[] (by kernel_rfl) (.agg LH.toArray) (Di.o _) ?_))
   go_ret
   exact ⟨rfl, B2.o.2.2.2⟩
 have Cx := Hh (show R2 = .ok (pfN R2) by
   rcases Bv.o with ⟨_, h⟩ | ⟨h, _⟩
   · exact h
   · exact absurd hu0 h)
 subst hu0
 obtain ⟨n2, hn2⟩ : ∃ n, n = pfN R2 := ⟨_, rfl⟩
 have Bg := A1.o
 have A0 := Bz.o
 rw [← hn2] at Bg A0
 have HM := Hh Bg
 have Dl := Hh A0
 have Dz := Hh hn2
 clear Bg A0 hn2 A1 Bz
 have hRO : R = .ok (anchorK KS SS n2) := by
   rw [ER.o, Dz.o]
   exact lead_ok (n := n1) A6.o (by rw [← Cl.o, Da.o]; exact B0.o) (by rw [← Db.o]; exact Cx.o)
 have hE0 : E = 0 := by rw [EE.o, hRO]; rfl
 have hDD : leadH R = anchorK KS SS n2 := by rw [hRO]; rfl
 have Dk := Hh (show F = if leadH R = said then 0 else 30 by rw [EF.o, hDD, hRO]; rfl)
 have D2 := Hh hDD
 have D3 := Hh (show IsHash (leadH R) by rw [ER.o]; exact lead_hash ss_len p q l)
 subst hE0
 clear hRO hDD
 go_upto_region 17 with (fail)
 go_cut [16] from 17 (fun v16 wx => ∃ G, v16 = .pointer (some ⟨G, 0, none⟩) ∧ Has wx G 27 LH.toArray ∧ Below Af.heap.size Af wx)
 case first =>
   have hS0 : Below Af.heap.size Af Af.drew := (Below.refl _ _).drew
   have An := Hh (show ∀ v, Below Af.heap.size Af v → v.rangeAt Dc 0 CT.toList ∧ v.cell? ⟨As, 32, none⟩ = some (.int .u64 (n2.s : Int)) ∧ Bytes v v.heap.size (.slice (some ⟨As, 0, none⟩) 32 32) n2.h from fun v hv => by
     have h1 := A9.o.below hv A9.o.lt
     have h2 := Dl.o.below hv Dl.o.lt
     refine ⟨by simpa using h1.row0, h2.cell_is (by rw [List.getElem?_toArray]; exact nd_sum_at HM.o.1), nd_bytes HM.o.1 h2 (Nat.ne_of_lt h2.lt)⟩)
   have Ch := Hh (show ∀ v R' ea ec, Below Af.heap.size Af v → Has v R' 48 #[.slice (some ⟨As, 0, none⟩) 32 32, .slice ea 8 ec] → Bytes v v.heap.size (.slice ea 8 ec) (eight n2.s) → Calls Tryz.prog 21 #[.agg CT, .string anS, .slice (some ⟨R', 0, none⟩) 2 2] v fun e w' => e = .returned (.agg LH.toArray) ∧ Below v.heap.size v w' from fun v R' ea ec hv h1 h2 => by
     rw [C8.o]
     exact tag_f ks_len HM.o.1 D2.o Cc.o (An.o v hv).2.2 h1 h2)
   have Dj := Hh (fun v => eight_is v n2.s HM.o.2)
   have Ao := Hh (show zk.size = LH.length by rw [← List.size_toArray]; exact Ae.o.2.1)
   refine wp_region_noPanic ?_
   refine wp_region_held_drew (S := (fun v => Below Af.heap.size Af v)) (by kernel_rfl) hS0 (fun hH0 => ?_)
   refine tk 0 (v := (.agg CT.toList.toArray)) rfl (yieldsIf_load_mid (by kernel_rfl) 56 (.tmp 12) rfl Dc 0 rfl CT.toList _ (fun w' h => (An.o _ h).1) Tryz.underlying56 rfl C5.o) hH0 ?_
   simp only [qc]
   apply tl 1 rfl ?hv hH0 ?_
   case hv => intro w' hS; go_simp; try rfl
   simp only [qc]
   apply tl 2 rfl ?hv hH0 ?_
   case hv => intro w' hS; go_simp; try rfl
   simp only [qc]
   apply tl 3 rfl ?hv hH0 ?_
   case hv => intro w' hS; go_simp; try rfl
   simp only [qc]
   refine tl 4 (v := (.int .u64 (n2.s : Int))) rfl (by intro w' hS; have z0 := (An.o w' hS).2.1; go_simp; try rfl) hH0 ?_
   simp only [qc]
   refine rdy [5, 8] (AllReadyH.cons rfl (fun KK hKK => ?_) (ar1 rfl fun KK hKK => ?_))
   · go_simp
     refine (Dj.o Af.drew).mono ?_
     rintro _ xe ⟨⟨ea, ec, rfl, hbe⟩, hne⟩
     have hs5 := Below.trans hH0 (hne.mono hH0.size)
     try replace hz9 := hz9.below hne hz9.lt
     clear hne
     refine hKK _ _ hs5 fun hH1 => ?_
     clear hKK KK
     try simp only [qc]
     refine rdy [6, 8] (AllReadyH.cons rfl (fun KK hKK => ?_) (ar1 rfl fun KK hKK => ?_))
     · refine step_buildN rfl 121 48 2 _ rfl _ 1 24 Tryz.underlying121 info_slice [.tmp 110, .tmp 113] rfl [.slice (some ⟨As, 0, none⟩) 32 32, .slice ea 8 ec] rfl (by simp [Value.cells]) rfl rfl (by decide) (by decide) (by decide) ?_
       obtain ⟨x6, RR, hx6, hRR, hs6, hp6, -, hn6⟩ := al_step (W := Af) hH1 #[.slice (some ⟨As, 0, none⟩) 32 32, .slice ea 8 ec] 48
       first | rw [← hx6] | (change KK _ (xe.alloc (.cells #[.slice (some ⟨As, 0, none⟩) 32 32, .slice ea 8 ec] 48)); rw [← hx6])
       first | rw [← hRR] | (have hq : Af.heap.size = RR := hRR.symm; rw [hq]; clear hq)
       replace hbe := bytes_up hbe hn6
       try replace hz9 := hz9.below hn6 hz9.lt
       clear hRR hx6 hn6
       refine hKK _ _ hs6 fun hH2 => ?_
       clear hKK KK
       try simp only [qc]
       refine rdy [7, 8] (AllReadyH.cons rfl (fun KK hKK => ?_) (ar1 rfl fun KK hKK => ?_))
       · go_simp
         refine (Ch.o _ RR ea ec hH2 hp6 hbe).mono ?_
         rintro _ xt ⟨rfl, hnt⟩
         have hs7 := Below.trans hH2 (hnt.mono hH2.size)
         try replace hz9 := hz9.below hnt hz9.lt
         clear hnt hbe hp6
         refine hKK _ _ hs7 fun hH3 => ?_
         clear hKK KK
         try simp only [qc]
         refine rdy [8] (ar1 rfl fun KK hKK => ?_)
         go_simp
         obtain ⟨xa, G9, hxa, hG9, Ad, hz9, hg9, Ac⟩ := al_step (W := Af) hH3 zk 27
         first | rw [← hxa] | (change KK _ (xt.alloc (.cells zk 27)); rw [← hxa])
         first | rw [← hG9] | (have hq : Af.heap.size = G9 := hG9.symm; rw [hq]; clear hq)
         clear hG9 hxa
         try replace hbe := bytes_up hbe Ac
         try replace hp6 := hp6.below Ac hp6.lt
         clear Ac
         refine hKK _ _ Ad fun hH4 => ?_
         clear hKK KK
         try simp only [qc]
         refine rdy [9] (ar1 rfl fun KK hKK => ?_)
         refine step_store_mid rfl 27 (.tmp 16) (.tmp 115) rfl G9 0 LH.toArray rfl rfl (hz9.there 0 _ (by rw [List.size_toArray, Ao.o]; exact Nat.le_of_eq (Nat.zero_add _))) Ae.o.1 (Ae.o.2.2.1) ?_
         have Aa := set_box hH4 hz9 hg9 (Below.size hH4) Ao.o
         obtain ⟨xb, hxb⟩ : ∃ y, y = xa.setCells G9 0 LH := ⟨_, rfl⟩
         rw [← hxb] at Aa
         change KK _ (xa.setCells G9 0 LH)
         rw [← hxb]
         have Ab := Aa.1
         clear hxb
         refine hKK _ _ Ab fun hH5 => ?_
         clear hKK KK
         try simp only [qc]
         refine wpAnyH_done (by kernel_rfl) ?_ _
         refine NoPanic.normal ?_
         have Ai := Hh Aa.2.1
         have Aj := Hh Ab
         clear Aa Ab
         go_wp2_with fail
         go_meet
         case rel => exact ⟨G9, rfl, Ai.o, Aj.o⟩
       · go_simp
         obtain ⟨xa, G9, hxa, hG9, Ad, hz9, hg9, Ac⟩ := al_step (W := Af) hH2 zk 27
         first | rw [← hxa] | (change KK _ (x6.alloc (.cells zk 27)); rw [← hxa])
         first | rw [← hG9] | (have hq : Af.heap.size = G9 := hG9.symm; rw [hq]; clear hq)
         clear hG9 hxa
         try replace hbe := bytes_up hbe Ac
         try replace hp6 := hp6.below Ac hp6.lt
         clear Ac
         refine hKK _ _ Ad fun hH3 => ?_
         clear hKK KK
         try simp only [qc]
         refine rdy [7] (ar1 rfl fun KK hKK => ?_)
         go_simp
         refine (Ch.o _ RR ea ec hH3 hp6 hbe).mono ?_
         rintro _ xt ⟨rfl, hnt⟩
         have hs7 := Below.trans hH3 (hnt.mono hH3.size)
         try replace hz9 := hz9.below hnt hz9.lt
         clear hnt hbe hp6
         refine hKK _ _ hs7 fun hH4 => ?_
         clear hKK KK
         try simp only [qc]
         refine rdy [9] (ar1 rfl fun KK hKK => ?_)
         refine step_store_mid rfl 27 (.tmp 16) (.tmp 115) rfl G9 0 LH.toArray rfl rfl (hz9.there 0 _ (by rw [List.size_toArray, Ao.o]; exact Nat.le_of_eq (Nat.zero_add _))) Ae.o.1 (Ae.o.2.2.1) ?_
         have Aa := set_box hH4 hz9 hg9 (Below.size hH4) Ao.o
         obtain ⟨xb, hxb⟩ : ∃ y, y = xt.setCells G9 0 LH := ⟨_, rfl⟩
         rw [← hxb] at Aa
         change KK _ (xt.setCells G9 0 LH)
         rw [← hxb]
         have Ab := Aa.1
         clear hxb
         refine hKK _ _ Ab fun hH5 => ?_
         clear hKK KK
         try simp only [qc]
         refine wpAnyH_done (by kernel_rfl) ?_ _
         refine NoPanic.normal ?_
         have Ai := Hh Aa.2.1
         have Aj := Hh Ab
         clear Aa Ab
         go_wp2_with fail
         go_meet
         case rel => exact ⟨G9, rfl, Ai.o, Aj.o⟩
     · go_simp
       obtain ⟨xa, G9, hxa, hG9, Ad, hz9, hg9, Ac⟩ := al_step (W := Af) hH1 zk 27
       first | rw [← hxa] | (change KK _ (xe.alloc (.cells zk 27)); rw [← hxa])
       first | rw [← hG9] | (have hq : Af.heap.size = G9 := hG9.symm; rw [hq]; clear hq)
       clear hG9 hxa
       try replace hbe := bytes_up hbe Ac
       try replace hp6 := hp6.below Ac hp6.lt
       clear Ac
       refine hKK _ _ Ad fun hH2 => ?_
       clear hKK KK
       try simp only [qc]
       refine rdy [6] (ar1 rfl fun KK hKK => ?_)
       refine step_buildN rfl 121 48 2 _ rfl _ 1 24 Tryz.underlying121 info_slice [.tmp 110, .tmp 113] rfl [.slice (some ⟨As, 0, none⟩) 32 32, .slice ea 8 ec] rfl (by simp [Value.cells]) rfl rfl (by decide) (by decide) (by decide) ?_
       obtain ⟨x6, RR, hx6, hRR, hs6, hp6, -, hn6⟩ := al_step (W := Af) hH2 #[.slice (some ⟨As, 0, none⟩) 32 32, .slice ea 8 ec] 48
       first | rw [← hx6] | (change KK _ (xa.alloc (.cells #[.slice (some ⟨As, 0, none⟩) 32 32, .slice ea 8 ec] 48)); rw [← hx6])
       first | rw [← hRR] | (have hq : Af.heap.size = RR := hRR.symm; rw [hq]; clear hq)
       replace hbe := bytes_up hbe hn6
       try replace hz9 := hz9.below hn6 hz9.lt
       clear hRR hx6 hn6
       refine hKK _ _ hs6 fun hH3 => ?_
       clear hKK KK
       try simp only [qc]
       refine rdy [7] (ar1 rfl fun KK hKK => ?_)
       go_simp
       refine (Ch.o _ RR ea ec hH3 hp6 hbe).mono ?_
       rintro _ xt ⟨rfl, hnt⟩
       have hs7 := Below.trans hH3 (hnt.mono hH3.size)
       try replace hz9 := hz9.below hnt hz9.lt
       clear hnt hbe hp6
       refine hKK _ _ hs7 fun hH4 => ?_
       clear hKK KK
       try simp only [qc]
       refine rdy [9] (ar1 rfl fun KK hKK => ?_)
       refine step_store_mid rfl 27 (.tmp 16) (.tmp 115) rfl G9 0 LH.toArray rfl rfl (hz9.there 0 _ (by rw [List.size_toArray, Ao.o]; exact Nat.le_of_eq (Nat.zero_add _))) Ae.o.1 (Ae.o.2.2.1) ?_
       have Aa := set_box hH4 hz9 hg9 (Below.size hH4) Ao.o
       obtain ⟨xb, hxb⟩ : ∃ y, y = xt.setCells G9 0 LH := ⟨_, rfl⟩
       rw [← hxb] at Aa
       change KK _ (xt.setCells G9 0 LH)
       rw [← hxb]
       have Ab := Aa.1
       clear hxb
       refine hKK _ _ Ab fun hH5 => ?_
       clear hKK KK
       try simp only [qc]
       refine wpAnyH_done (by kernel_rfl) ?_ _
       refine NoPanic.normal ?_
       have Ai := Hh Aa.2.1
       have Aj := Hh Ab
       clear Aa Ab
       go_wp2_with fail
       go_meet
       case rel => exact ⟨G9, rfl, Ai.o, Aj.o⟩
   · go_simp
     obtain ⟨xa, G9, hxa, hG9, Ad, hz9, hg9, Ac⟩ := al_step (W := Af) hH0 zk 27
     first | rw [← hxa] | (change KK _ (Af.drew.alloc (.cells zk 27)); rw [← hxa])
     first | rw [← hG9] | (have hq : Af.heap.size = G9 := hG9.symm; rw [hq]; clear hq)
     clear hG9 hxa
     try replace hbe := bytes_up hbe Ac
     try replace hp6 := hp6.below Ac hp6.lt
     clear Ac
     refine hKK _ _ Ad fun hH1 => ?_
     clear hKK KK
     try simp only [qc]
     refine rdy [5] (ar1 rfl fun KK hKK => ?_)
     go_simp
     refine (Dj.o xa).mono ?_
     rintro _ xe ⟨⟨ea, ec, rfl, hbe⟩, hne⟩
     have hs5 := Below.trans hH1 (hne.mono hH1.size)
     try replace hz9 := hz9.below hne hz9.lt
     clear hne
     refine hKK _ _ hs5 fun hH2 => ?_
     clear hKK KK
     try simp only [qc]
     refine rdy [6] (ar1 rfl fun KK hKK => ?_)
     refine step_buildN rfl 121 48 2 _ rfl _ 1 24 Tryz.underlying121 info_slice [.tmp 110, .tmp 113] rfl [.slice (some ⟨As, 0, none⟩) 32 32, .slice ea 8 ec] rfl (by simp [Value.cells]) rfl rfl (by decide) (by decide) (by decide) ?_
     obtain ⟨x6, RR, hx6, hRR, hs6, hp6, -, hn6⟩ := al_step (W := Af) hH2 #[.slice (some ⟨As, 0, none⟩) 32 32, .slice ea 8 ec] 48
     first | rw [← hx6] | (change KK _ (xe.alloc (.cells #[.slice (some ⟨As, 0, none⟩) 32 32, .slice ea 8 ec] 48)); rw [← hx6])
     first | rw [← hRR] | (have hq : Af.heap.size = RR := hRR.symm; rw [hq]; clear hq)
     replace hbe := bytes_up hbe hn6
     try replace hz9 := hz9.below hn6 hz9.lt
     clear hRR hx6 hn6
     refine hKK _ _ hs6 fun hH3 => ?_
     clear hKK KK
     try simp only [qc]
     refine rdy [7] (ar1 rfl fun KK hKK => ?_)
     go_simp
     refine (Ch.o _ RR ea ec hH3 hp6 hbe).mono ?_
     rintro _ xt ⟨rfl, hnt⟩
     have hs7 := Below.trans hH3 (hnt.mono hH3.size)
     try replace hz9 := hz9.below hnt hz9.lt
     clear hnt hbe hp6
     refine hKK _ _ hs7 fun hH4 => ?_
     clear hKK KK
     try simp only [qc]
     refine rdy [9] (ar1 rfl fun KK hKK => ?_)
     refine step_store_mid rfl 27 (.tmp 16) (.tmp 115) rfl G9 0 LH.toArray rfl rfl (hz9.there 0 _ (by rw [List.size_toArray, Ao.o]; exact Nat.le_of_eq (Nat.zero_add _))) Ae.o.1 (Ae.o.2.2.1) ?_
     have Aa := set_box hH4 hz9 hg9 (Below.size hH4) Ao.o
     obtain ⟨xb, hxb⟩ : ∃ y, y = xt.setCells G9 0 LH := ⟨_, rfl⟩
     rw [← hxb] at Aa
     change KK _ (xt.setCells G9 0 LH)
     rw [← hxb]
     have Ab := Aa.1
     clear hxb
     refine hKK _ _ Ab fun hH5 => ?_
     clear hKK KK
     try simp only [qc]
     refine wpAnyH_done (by kernel_rfl) ?_ _
     refine NoPanic.normal ?_
     have Ai := Hh Aa.2.1
     have Aj := Hh Ab
     clear Aa Ab
     go_wp2_with fail
     go_meet
     case rel => exact ⟨G9, rfl, Ai.o, Aj.o⟩
 case rest =>
 obtain ⟨D8, hW17⟩ : ∃ x, x = wc := ⟨_, rfl⟩
 subst hW17
 obtain ⟨Dd, rfl, B8, Bl⟩ := hcut
 have Bs := Hh (Ay.o.trans (Bl.mono Ay.o.size))
 have B1 := Hh B8.row0
 have Dp := Hh (A3.o.below Bl A3.o.lt).row0
 have Bi := Hh (Ar.o D8 Bs.o)
 have Do := Hh Bi.o.2.2.1.row0
 obtain ⟨b, hb⟩ : ∃ b, b = decide (said = leadH R) := ⟨_, rfl⟩
 have hes : ∀ v, (Op.equalIn 10000 27 (.agg LS.toArray) (.agg LH.toArray)).run Tryz.prog v = .ok b v := fun v => by rw [hb]; exact Ct.o _ LH Cc.o D3.o v
 have Dh := Hh hb
 have hel := Cs.o
 clear hb B8 Bl A3 B2
 cases b with
 | true =>
   have hf : F = 0 := by rw [Dk.o, if_pos (of_decide_eq_true Dh.o.symm).symm]
   subst hf
   go_wp2_with (first
     | (refine wpList_load_midG rfl 27 (.tmp 7) rfl G7 0 rfl LH _ Dp.o Tryz.underlying27 rfl Ae.o.2.2.2 ?_)
     | (refine wpList_load_midG rfl 27 (.tmp 16) rfl Dd 0 rfl LH _ B1.o Tryz.underlying27 rfl Ae.o.2.2.2 ?_)
     | (refine wpList_load_midG rfl 27 (.tmp 5) rfl (B + 2) 0 rfl LS _ Do.o Tryz.underlying27 rfl C3.o.2.2.2 ?_))
   go_ret
   exact ⟨rfl, Bi.o.2.2.2⟩
 | false =>
   have hf : F = 30 := by rw [Dk.o, if_neg (fun e => (of_decide_eq_false Dh.o.symm) e.symm)]
   subst hf
   go_wp2_with (first
     | (refine wpList_load_midG rfl 27 (.tmp 7) rfl G7 0 rfl LH _ Dp.o Tryz.underlying27 rfl Ae.o.2.2.2 ?_)
     | (refine wpList_load_midG rfl 27 (.tmp 16) rfl Dd 0 rfl LH _ B1.o Tryz.underlying27 rfl Ae.o.2.2.2 ?_)
     | (refine wpList_load_midG rfl 27 (.tmp 5) rfl (B + 2) 0 rfl LS _ Do.o Tryz.underlying27 rfl C3.o.2.2.2 ?_))
   go_ret
   exact ⟨rfl, Bi.o.2.2.2⟩
section
/- CommitLeads: a proof of two parts as an argument; one with too many nodes. -/

structure Pf.Any (p : Pf) (w : World) : Prop where
 hash : IsHash p.b
 nodes : NodesAt w p.a p.n p.xs
section
variable {H : Type} {enc : TypeId × Value → H} {w : World} {base : Nat} {spare : Nat → Bool} {held : Bool}
set_option maxRecDepth 100000 in
theorem open_ways {m : Nat} {cs : List Value} {y : Option (DataW H × List MemPlace)} (h : DataW.trod enc Tryz.prog w base spare held m 41 cs = y) (hy : y.isSome = true) (hl : cs.length = 66) :
  ∃ p q : Pf, cs = waysC p q ∧ p.Any w ∧ q.Any w := by
 obtain ⟨z, rfl⟩ := Option.isSome_iff_exists.1 hy
 obtain ⟨xs, m2, _, _, _, hn, hf⟩ := DataW.trod_struct Tryz.underlying41 h
 have hn2 : xs.length = 2 := hn
 have Aa : ∀ j, j < 2 → (xs[j]?).isSome = true := fun j hj => by rw [List.getElem?_eq_getElem (by omega)]; rfl
 have hc : Tryz.prog.cellsOf 39 = 33 := by kernel_rfl
 obtain ⟨b0, a0, n0, c0, x0, e0, h0, g0, _⟩ := open_proof (cs := (cs.drop 0).take 33) (by rw [← hc]; exact hf 0 _ rfl) (Aa 0 (by decide)) (by rw [List.length_take, List.length_drop]; omega)
 obtain ⟨b1, a1, n1, c1, x1, e1, h1, g1, _⟩ := open_proof (cs := (cs.drop 33).take 33) (by rw [← hc]; exact hf 1 _ rfl) (Aa 1 (by decide)) (by rw [List.length_take, List.length_drop]; omega)
 refine ⟨⟨b0, a0, n0, c0, x0⟩, ⟨b1, a1, n1, c1, x1⟩, ?_, ⟨h0, g0⟩, ⟨h1, g1⟩⟩
 have f0 := cut_list cs 0 33
 have f1 := cut_list cs 33 33
 have f2 : cs.drop 66 = [] := List.drop_eq_nil_of_le (by omega)
 simp only [Nat.reduceAdd] at f0 f1
 rw [e1, f2, List.append_nil] at f1
 rw [e0, f1, List.drop_zero] at f0
 rw [f0]
 rfl
set_option maxRecDepth 100000 in
theorem open_waysV {base' : Nat} {r : Reach} {v : Value} {d : DataW H} {p : List MemPlace} (hv : Value.okWide Tryz.prog w r base' 41 v) (h : DataW.Trod enc Tryz.prog w base spare held 41 v d p) :
  ∃ p q : Pf, v = .agg (waysC p q).toArray ∧ p.Any w ∧ q.Any w := by
 obtain ⟨cs, rfl, hs⟩ := okWide_struct Tryz.underlying41 hv
 obtain ⟨fuel, hf⟩ := h
 have hf' : DataW.trod enc Tryz.prog w base spare held fuel 41 cs.toList = some (d, p) := by simpa [Value.cells] using hf
 have hc : Tryz.prog.cellsOf 41 = 66 := by kernel_rfl
 obtain ⟨p, q, h1, h2, h3⟩ := open_ways hf' rfl (by rw [Array.length_toList, hs, hc])
 exact ⟨p, q, by rw [← h1], h2, h3⟩
end
set_option maxRecDepth 100000 in
set_option maxHeartbeats 4000000 in
theorem commitLeads_many (w : World) (hT : Tabs KS SS w) (p q : Pf) (hp : IsHash p.b) (hq : IsHash q.b) (hmany : 300 < p.n ∨ 300 < q.n) (l : LeafT) (hl : l.ok) (said : List Nat) (hsd : IsHash said) :
   Calls Tryz.prog 4 #[.agg (waysC p q).toArray, .agg l.cells.toArray, arr said] w fun e w' => e = .returned (.bool true) ∧ Below w.heap.size w w' := by
 unfold arr
 obtain ⟨LW, hLW⟩ : ∃ L, L = waysC p q := ⟨_, rfl⟩
 obtain ⟨LC, hLC⟩ : ∃ L, L = l.cells := ⟨_, rfl⟩
 obtain ⟨LS, hLS⟩ : ∃ L, L = bcells said := ⟨_, rfl⟩
 rw [← hLW, ← hLC, ← hLS]
 obtain ⟨pn, hpn⟩ : ∃ n, n = p.n := ⟨_, rfl⟩
 obtain ⟨qn, hqn⟩ : ∃ n, n = q.n := ⟨_, rfl⟩
 obtain ⟨pa, hpa⟩ : ∃ n, n = p.a := ⟨_, rfl⟩
 obtain ⟨qa', hqa⟩ : ∃ n, n = q.a := ⟨_, rfl⟩
 obtain ⟨pc, hpc⟩ : ∃ n, n = p.c := ⟨_, rfl⟩
 obtain ⟨qcc, hqcc⟩ : ∃ n, n = q.c := ⟨_, rfl⟩
 have Ad := Hh (show ∀ (v : World) B, Has v B 41 LW.toArray → v.cell? ⟨B, 32, none⟩ = some (.slice pa pn pc) ∧ v.cell? ⟨B, 65, none⟩ = some (.slice qa' qn qcc) from fun v B h => by
   rw [hLW] at h
   have h0 := ways_at hp h
   rw [hpa, hpn, hpc, hqa, hqn, hqcc]
   exact ⟨h0.1 32 (.slice p.a p.n p.c) (pcells_row hp _ _ _), h0.2 32 (.slice q.a q.n q.c) (pcells_row hq _ _ _)⟩)
 rw [← hpn, ← hqn] at hmany
 obtain ⟨W1, hW1, h1, h2, h3, hb1⟩ := boxes_cle w LW LC LS
 have Ac := Hh (headC_is W1 (hT.below hb1 hT.low))
 have EW := Hh hW1
 have H1 := Hh h1
 have Aa := Hh hb1
 have Ae := Hh hmany
 clear hLW hLC hLS hpn hqn hpa hqa hpc hqcc hT hp hq hl hsd hW1 h1 h2 h3 hb1 hmany
 go_enter Tryz.func4, Tryz.ntmps4
 go_upto_region 1 with (fail)
 rw [← EW.o]
 obtain ⟨B, hB⟩ : ∃ y, y = w.heap.size := ⟨_, rfl⟩
 rw [← hB] at H1 ⊢
 clear hB EW
 go_wp2_with fail
 refine Ac.o.mono ?_
 rintro _ W2 ⟨rfl, hb2⟩
 have Ab := Hh (Aa.o.trans (hb2.mono Aa.o.size))
 have h1 := H1.o.below hb2 H1.o.lt
 have c32 := (Ad.o W2 B h1).1
 have c65 := (Ad.o W2 B h1).2
 clear hb2 h1 H1 Aa Ac
 by_cases hp3 : 300 < pn
 · have hd : decide ((300 : Int) < (pn : Int)) = true := decide_eq_true (by omega)
   clear hp3
   go_wp2_with fail
   go_ret
   exact ⟨rfl, Ab.o⟩
 have hq3 : 300 < qn := by rcases Ae.o with h | h <;> omega
 have hd : decide ((300 : Int) < (pn : Int)) = false := decide_eq_false (by omega)
 have hd2 : decide ((300 : Int) < (qn : Int)) = true := decide_eq_true (by omega)
 clear hp3 hq3
 go_wp2_with fail
 go_ret
 exact ⟨rfl, Ab.o⟩
theorem commitLeads_any (w : World) (hT : Tabs KS SS w) (p q : Pf) (hp : p.Any w) (hq : q.Any w) (l : LeafT) (hl : l.ok) (said : List Nat) (hsd : IsHash said) :
   Calls Tryz.prog 4 #[.agg (waysC p q).toArray, .agg l.cells.toArray, arr said] w fun e w' => e = .returned (.bool true) ∧ Below w.heap.size w w' := by
 by_cases hm : 300 < p.n ∨ 300 < q.n
 · exact commitLeads_many w hT p q hp.hash hq.hash hm l hl said hsd
 · exact commitLeads_walk w hT p q ⟨hp.hash, hp.nodes, by omega⟩ ⟨hq.hash, hq.nodes, by omega⟩ l hl said hsd
end
end Go.Proofs.YtknfbccbdiidjaaGreatDoor
