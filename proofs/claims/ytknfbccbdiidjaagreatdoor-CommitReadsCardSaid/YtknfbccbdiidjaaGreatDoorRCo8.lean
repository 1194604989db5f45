/- The walks of Lead and Check: what an output says, by a proof. -/
import Derived.Test.YtknfbccbdiidjaaGreatDoorWs
import Derived.Test.YtknfbccbdiidjaaGreatDoorRCo7
import Derived.Test.YtknfbccbdiidjaaGreatDoorRPf6
namespace Go.Proofs.YtknfbccbdiidjaaGreatDoor
set_option linter.unusedVariables false
set_option linter.unusedSimpArgs false
open Go.ChangeShapes Go.WideShapes Go.ChangeAt Go.RowKit Go.Maps

structure Pf where
 b : List Nat
 a : Option Addr
 n : Nat
 c : Nat
 xs : List Nd
def Pf.cells (p : Pf) : List Value := pcells p.b p.a p.n p.c
structure Pf.At (p : Pf) (w : World) : Prop where
 hash : IsHash p.b
 nodes : NodesAt w p.a p.n p.xs
 cap : p.n ≤ 1000000
theorem Pf.At.below {p : Pf} {w w' : World} (h : p.At w) (hb : Below w.heap.size w w') : p.At w' := ⟨h.hash, h.nodes.below hb, h.cap⟩
def lowR (K s0 : List Wd) (p : Pf) (l : LeafT) : Except Nat Nd := pfRoot K s0 (bareB p.b) (keyK K s0 l) p.xs (leafNd K s0 (leafB l) l.am)
def highR (K s0 : List Wd) (q : Pf) (id : List Nat) (n : Nd) : Except Nat Nd := pfRoot K s0 (bareB q.b) id q.xs (leafNd K s0 n.h n.s)
def leadR (K s0 : List Wd) (p q : Pf) (l : LeafT) : Except Nat (List Nat) :=
 if leafBad l = true then .error 1 else match lowR K s0 p l with
  | .error e => .error e
  | .ok n => match highR K s0 q l.id n with
   | .error e => .error e
   | .ok m => .ok (anchorK K s0 m)
def leadE : Except Nat (List Nat) → Nat
 | .error e => e
 | .ok _ => 0
def leadH : Except Nat (List Nat) → List Nat
 | .error _ => List.replicate 32 0
 | .ok h => h
def waysC (p q : Pf) : List Value := p.cells ++ q.cells
theorem waysC_len {p q : Pf} (hp : IsHash p.b) (hq : IsHash q.b) : (waysC p q).length = 66 := by
 unfold waysC Pf.cells
 rw [List.length_append, pcells_len hp, pcells_len hq]
theorem waysC_one (p q : Pf) : (waysC p q).toArray.all (·.oneCell') = true := by
 refine all_oneCell_toArray fun v hv => ?_
 have e : ∀ r : Pf, ∀ v ∈ r.cells, v.oneCell' = true := fun r v hv => by
   have := pcells_one r.b r.a r.n r.c
   rw [Array.all_eq_true'] at this
   exact this v (by simpa [Pf.cells] using hv)
 rcases List.mem_append.1 hv with hv | hv
 · exact e p v hv
 · exact e q v hv
theorem ways_at {v : World} {B : Nat} {p q : Pf} (hp : IsHash p.b) (h : Has v B 41 (waysC p q).toArray) : v.rangeAt B 0 p.cells ∧ v.rangeAt B 33 q.cells := by
 have hl : p.cells.length = 33 := pcells_len hp _ _ _
 refine ⟨fun j u hu => ?_, fun j u hu => ?_⟩
 · rw [Nat.zero_add]
   refine h.cell_is ?_
   rw [List.getElem?_toArray]
   unfold waysC
   rw [List.getElem?_append_left (List.getElem?_eq_some_iff.1 hu).1]
   exact hu
 · refine h.cell_is ?_
   rw [List.getElem?_toArray]
   unfold waysC
   rw [List.getElem?_append_right (by omega), hl, show 33 + j - 33 = j by omega]
   exact hu
theorem zero_nodeA : ∃ Z : Array Value, (∀ w, (zeroValue 30).run Tryz.prog w = .ok (.agg Z) w) ∧ Z.size = 33 ∧ ¬ Z = #[] := by
 have hs : (ndV zNd).toArray.size = 33 := by kernel_rfl
 exact ⟨(ndV zNd).toArray, fun w => by kernel_rfl, hs, fun e => by rw [e] at hs; cases hs⟩
theorem results_cellA_tmp {fn : Func} {p q : Tmp} {ty e n : TypeId} (h : fn.results = #[.cell p ty, .tmp q]) (tmps : Array Value) (w : World) (g : Nat) (t : TypeId) (cs : Array Value) (fr : Nat × Nat) (v : Value)
  (hp : tmps.getD p undef = .pointer (some ⟨g, 0, none⟩)) (hq : tmps.getD q undef = v) (hg : w.heap[g]? = some (.cells cs t fr))
  (hu : Tryz.prog.underlying ty = some (.array n e)) (hi : (Tryz.prog.info? ty).map (·.size) = some cs.size) :
  (results fn tmps).run Tryz.prog w = .ok (.tuple #[.agg cs, v]) w := by
 have hp' : tmps[p]?.getD undef = .pointer (some ⟨g, 0, none⟩) := by simpa using hp
 have hq' : tmps[q]?.getD undef = v := by simpa using hq
 simp [results, h, hp', hq', asAddr, run_loadVar_row w g t ty cs fr _ hg hu rfl hi]
theorem bytes_up {w w' : World} {v : Value} {b : List Nat} (h : Bytes w w.heap.size v b) (hb : Below w.heap.size w w') : Bytes w' w'.heap.size v b := by
 obtain ⟨a, c, e, h1, h2, h3⟩ := h
 refine ⟨a, c, e, h1, h2, fun h0 => ?_⟩
 obtain ⟨bg, bo, e2, hne, hc⟩ := h3 h0
 have hlt : bg < w.heap.size := by
  have := hc 0 h0
  exact World.block_lt_of_cell? w _ this
 refine ⟨bg, bo, e2, by have := hb.size; omega, fun i hi => ?_⟩
 exact cell_held (Kept.of_below (S := fun _ => False) hb) (hc i hi) (fun e => e)
theorem leafB_123 {l : LeafT} (hl : l.ok) : (leafB l).length = 123 := by
 have e1 := hl.id.1
 have e2 := hl.ow.1
 have e3 := hl.sp.1
 unfold leafB
 rw [List.length_flatMap]
 unfold recsOf recB
 simp [List.length_append, e1, e2, e3, eight_len', szB]
theorem build_h0C (w : World) : (Instr.build 27 #[]).run Tryz.prog w = .ok (.agg (bcells (List.replicate 32 0)).toArray) w := by kernel_rfl
theorem boxes_lead (w : World) (LW LC : List Value) (Z : Array Value) : ∃ W1, W1 = (((((w.alloc (.cells LW.toArray 41))).alloc (.cells LC.toArray 32))).alloc (.cells Z 27)) ∧
   Has W1 (w.heap.size) 41 LW.toArray ∧ Has W1 (w.heap.size + 1) 32 LC.toArray ∧ Has W1 (w.heap.size + 1 + 1) 27 Z ∧ Below w.heap.size w W1 := by
 refine ⟨_, rfl, ?_, ?_, ?_, ?_⟩
 · have := Has.new w 41 LW.toArray
   exact ((this).alloc _).alloc _
 · have := Has.new (w.alloc (.cells LW.toArray 41)) 32 LC.toArray
   exact ((by simpa using this : Has _ (w.heap.size + 1) _ _)).alloc _
 · have := Has.new (((w.alloc (.cells LW.toArray 41))).alloc (.cells LC.toArray 32)) 27 Z
   exact (by simpa using this : Has _ (w.heap.size + 1 + 1) _ _)
 · exact (((Below.refl _ _).alloc (Nat.le_refl _) _).alloc (by simp) _).alloc (by simp; omega) _
theorem lead_err1 {K s0 : List Wd} {p q : Pf} {l : LeafT} {e : Nat} (hb : ¬ leafBad l = true) (h : lowR K s0 p l = .error e) : leadR K s0 p q l = .error e := by
 unfold leadR
 rw [if_neg hb, h]
theorem lead_err2 {K s0 : List Wd} {p q : Pf} {l : LeafT} {e : Nat} {n : Nd} (hb : ¬ leafBad l = true) (h1 : lowR K s0 p l = .ok n) (h2 : highR K s0 q l.id n = .error e) : leadR K s0 p q l = .error e := by
 unfold leadR
 rw [if_neg hb, h1]
 dsimp only
 rw [h2]
theorem lead_ok {K s0 : List Wd} {p q : Pf} {l : LeafT} {n m : Nd} (hb : ¬ leafBad l = true) (h1 : lowR K s0 p l = .ok n) (h2 : highR K s0 q l.id n = .ok m) : leadR K s0 p q l = .ok (anchorK K s0 m) := by
 unfold leadR
 rw [if_neg hb, h1]
 dsimp only
 rw [h2]
theorem pf_case {K s0 : List Wd} {bare : Nat → Bool} {key : List Nat} {nodes : List Nd} {n0 : Nd} {R : Except Nat Nd} (h : R = pfRoot K s0 bare key nodes n0) : (pfE R = 0 ∧ R = .ok (pfN R)) ∨ (pfE R ≠ 0 ∧ R = .error (pfE R)) := by
 cases R with
 | error e =>
  refine .inr ⟨?_, rfl⟩
  show e ≠ 0
  rcases pf_errs h.symm with e1 | e1 | e1 | e1 <;> rw [e1] <;> decide
 | ok n => exact .inl ⟨rfl, rfl⟩
set_option maxRecDepth 100000 in
set_option maxHeartbeats 16000000 in
theorem coLead_is (K s0 : List Wd) (w : World) (hT : Tabs K s0 w) (p q : Pf) (hp : p.At w) (hq : q.At w) (l : LeafT) (hl : l.ok) :
   Calls Tryz.prog 13 #[.agg (waysC p q).toArray, .agg l.cells.toArray] w fun e w' => e = .returned (.tuple #[arr (leadH (leadR K s0 p q l)), .int .i64 (leadE (leadR K s0 p q l) : Nat)]) ∧ Below w.heap.size w w' := by
 obtain ⟨zk, hzk, hzks, hzkn⟩ := zero_hashT
 obtain ⟨zn, hzn, hzns, hznn⟩ := zero_nodeA
 obtain ⟨LW, hLW⟩ : ∃ L, L = waysC p q := ⟨_, rfl⟩
 obtain ⟨LC, hLC⟩ : ∃ L, L = l.cells := ⟨_, rfl⟩
 obtain ⟨LP, hLP⟩ : ∃ L, L = p.cells := ⟨_, rfl⟩
 obtain ⟨LQ, hLQ⟩ : ∃ L, L = q.cells := ⟨_, rfl⟩
 obtain ⟨KL, hKL⟩ : ∃ L, L = bcells (keyK K s0 l) := ⟨_, rfl⟩
 obtain ⟨LI, hLI⟩ : ∃ L, L = bcells l.id := ⟨_, rfl⟩
 obtain ⟨R, hR⟩ : ∃ R, R = leadR K s0 p q l := ⟨_, rfl⟩
 obtain ⟨ZH, hZH⟩ : ∃ y, y = bcells (List.replicate 32 0) := ⟨_, rfl⟩
 rw [← hLW, ← hLC, ← hR]
 unfold arr
 have SZC := Lib.hid (show (Tryz.prog.info? 32).map (·.size) = some LC.toArray.size by rw [List.size_toArray, hLC, LeafT.len hl]; kernel_rfl)
 have SZCL := Lib.hid (show (Tryz.prog.info? 32).map (·.size) = some LC.length by rw [hLC, LeafT.len hl]; kernel_rfl)
 have SZP := Lib.hid (show (Tryz.prog.info? 39).map (·.size) = some LP.length by rw [hLP, show p.cells.length = 33 from pcells_len hp.hash _ _ _]; kernel_rfl)
 have SZQ := Lib.hid (show (Tryz.prog.info? 39).map (·.size) = some LQ.length by rw [hLQ, show q.cells.length = 33 from pcells_len hq.hash _ _ _]; kernel_rfl)
 have SZI := Lib.hid (show (Tryz.prog.info? 27).map (·.size) = some LI.length by rw [hLI, bcells_length, hl.id.1]; kernel_rfl)
 have SZH := Lib.hid (show ∀ D : List Nat, IsHash D → (Tryz.prog.info? 27).map (·.size) = some (bcells D).toArray.size ∧ zk.size = (bcells D).toArray.size from fun D hD => ⟨by rw [List.size_toArray, bcells_length, hD.1]; kernel_rfl, by rw [hzks, List.size_toArray, bcells_length, hD.1]⟩)
 have SZN := Lib.hid (show ∀ n : Nd, IsHash n.h → (Tryz.prog.info? 30).map (·.size) = some (ndV n).toArray.size ∧ zn.size = (ndV n).length from fun n hn => ⟨by rw [List.size_toArray, ndV_len hn]; kernel_rfl, by rw [hzns, ndV_len hn]⟩)
 have HBH := Lib.hid (show ∀ v, (Instr.build 27 #[]).run Tryz.prog v = .ok (.agg ZH.toArray) v from fun v => by rw [hZH]; exact build_h0C v)
 have HWR := Lib.hid (show ∀ (v : World) B, Has v B 41 LW.toArray → v.rangeAt B 0 LP ∧ v.rangeAt B 33 LQ from fun v B h => by rw [hLP, hLQ]; exact ways_at hp.hash (by rw [← hLW]; exact h))
 have HCR := Lib.hid (show ∀ (v : World) B, Has v B 32 LC.toArray → v.rangeAt B 0 LI from fun v B h => by rw [hLI]; exact coL_id (by rw [← hLC]; exact h))
 have EP := Lib.hid hLP
 have EQ := Lib.hid hLQ
 have ELC := Lib.hid hLC
 have EKL := Lib.hid hKL
 have ELI := Lib.hid hLI
 have ER := Lib.hid hR
 have EZH := Lib.hid hZH
 have HP := Lib.hid hp
 have HQ := Lib.hid hq
 have HL := Lib.hid hl
 have HT := Lib.hid hT
 have HTV := Lib.hid (show ∀ v, Below w.heap.size w v → Tabs K s0 v from fun v hv => hT.below hv hT.low)
 obtain ⟨W1, hW1, h1, h2, h3, hb1⟩ := boxes_lead w LW LC zk
 have EW := Lib.hid hW1
 have H1 := Lib.hid h1
 have H2 := Lib.hid h2
 have H3 := Lib.hid h3
 have HB1 := Lib.hid hb1
 clear hLW hLC hLP hLQ hKL hLI hR hZH hp hq hl hT hW1 h1 h2 h3 hb1 hzks hzns
 go_enter Tryz.func13, Tryz.ntmps13
 go_upto_region 1 with (fail)
 rw [← EW.out]
 obtain ⟨B, hB⟩ : ∃ y, y = w.heap.size := ⟨_, rfl⟩
 rw [← hB] at H1 H2 H3 ⊢
 have EB := Lib.hid hB
 clear hB EW
 go_wp2_with (refine wpList_load_row rfl 32 (.tmp 3) rfl (B + 1) rfl 32 LC.toArray (0, 0) _ H2.out Tryz.underlying32 rfl SZC.out ?_)
 have hck := leafCheck_is W1 l HL.out
 rw [← ELC.out] at hck
 obtain ⟨c, hc⟩ : ∃ c, c = leafE l := ⟨_, rfl⟩
 rw [← hc] at hck
 have HCK := Lib.hid hck
 have EC := Lib.hid hc
 clear hck hc
 refine HCK.out.mono ?_
 rintro _ W2 ⟨rfl, hW2⟩
 have hb2 : Below W1.heap.size W1 W2 := by rw [hW2]; exact (Below.refl _ _).alloc (Nat.le_refl _) _
 have HB2 := Lib.hid (HB1.out.trans (hb2.mono HB1.out.size))
 have HW2 := Lib.hid (H1.out.below hb2 H1.out.lt)
 have HC2 := Lib.hid (H2.out.below hb2 H2.out.lt)
 have HZ2 := Lib.hid (H3.out.below hb2 H3.out.lt)
 clear hW2 hb2 H1 H2 H3 HB1 HCK
 have HOUT := Lib.hid (show ∀ (v : World), Has v (B + 2) 27 zk → Below w.heap.size w v → Has (v.setRow (B + 2) ZH.toArray) (B + 2) 27 ZH.toArray ∧ Below w.heap.size w (v.setRow (B + 2) ZH.toArray) from fun v h hb => by
   refine ⟨h.setRow, hb.trans ((kept_setRow (g := B + 2) v ZH.toArray).below hb.size (fun j e => by have e' : j = B + 2 := e; have := EB.out; omega))⟩)
 have SZZ := Lib.hid (show (Tryz.prog.info? 27).map (·.size) = some ZH.toArray.size ∧ zk.size = ZH.toArray.size ∧ ZH.toArray.all (·.oneCell') = true by
   rw [EZH.out]
   have hz : IsHash (List.replicate 32 0) := ⟨rfl, fun k hk => by rw [List.eq_of_mem_replicate hk]; decide⟩
   exact ⟨(SZH.out _ hz).1, (SZH.out _ hz).2, all_oneCell_toArray (bcells_one _)⟩)
 by_cases hbad : leafBad l = true
 · have hc1 : c = 1 := by rw [EC.out]; unfold leafE; rw [if_pos hbad]
   have HF := Lib.hid (show R = .error 1 by rw [ER.out]; unfold leadR; rw [if_pos hbad])
   subst hc1
   clear hbad
   go_wp2_with (first
    | (refine wpList_build_run rfl 27 #[] rfl #[] (by kernel_rfl) (.agg ZH.toArray) (HBH.out _) ?_)
    | (refine wpList_store_row rfl 27 (.tmp 4) (.tmp 14) rfl (B + 2) ZH.toArray rfl rfl 27 zk HZ2.out SZZ.out.1 SZZ.out.2.1 SZZ.out.2.2 ?_))
   have HS := Lib.hid (HOUT.out W2 HZ2.out HB2.out)
   refine bodyPost_ret (results_cellA_tmp rfl _ _ (B + 2) 27 ZH.toArray (0, 0) _ rfl rfl HS.out.1 Tryz.underlying27 SZZ.out.1) rfl ?_
   exact ⟨by rw [HF.out, EZH.out]; rfl, HS.out.2⟩
 · have hc0 : c = 0 := by rw [EC.out]; unfold leafE; rw [if_neg hbad]
   have HBAD := Lib.hid hbad
   subst hc0
   clear hbad
   obtain ⟨R1, hR1⟩ : ∃ R, R = lowR K s0 p l := ⟨_, rfl⟩
   have hn1 : IsHash (pfN R1).h ∧ (pfN R1).s < 18446744073709551616 := by
    rw [hR1]
    exact ⟨pf_hash HT.out.len (leaf_hash K s0 HT.out.len _ _), pf_fits HL.out.am⟩
   have ER1 := Lib.hid hR1
   have HN1 := Lib.hid hn1
   obtain ⟨u1, hu1⟩ : ∃ u, u = pfE R1 := ⟨_, rfl⟩
   have hcs1 := pf_case ER1.out
   rw [← hu1] at hcs1
   have HCS1 := Lib.hid hcs1
   have EU1 := Lib.hid hu1
   clear hu1 hcs1
   have LEN123 := Lib.hid (show (leafB l).length ≤ 1000000 by rw [leafB_123 HL.out]; decide)
   clear hR1 hn1
   go_upto_region 4 with (fail)
   go_cut [7, 8] from 10 (fun v7 v8 wx => ∃ G7, v7 = .pointer (some ⟨G7, 0, none⟩) ∧ v8 = .int .i64 (u1 : Int) ∧ Has wx G7 30 (ndV (pfN R1)).toArray ∧ Below W2.heap.size W2 wx)
   case first =>
    have hS0 : Below W2.heap.size W2 W2.drew := (Below.refl _ _).drew
    have HR4 := Lib.hid (show ∀ v, Below W2.heap.size W2 v → v.rangeAt B 0 LP ∧ v.rangeAt (B + 1) 0 LC from fun v hv => ⟨(HWR.out v B (HW2.out.below hv HW2.out.lt)).1, (HC2.out.below hv HC2.out.lt).row0⟩)
    have HTB := Lib.hid (show ∀ v, Below W2.heap.size W2 v → Tabs K s0 v ∧ p.At v from fun v hv => ⟨HTV.out v (HB2.out.trans (hv.mono HB2.out.size)), HP.out.below (HB2.out.trans (hv.mono HB2.out.size))⟩)
    refine wp_region_noPanic ?_
    refine wp_region_held_drew (S := (fun v => Below W2.heap.size W2 v)) (by kernel_rfl) hS0 (fun hH0 => ?_)
    apply tk 0 (v := _) rfl (Or.inl ⟨by kernel_rfl, ?hv⟩) hH0 ?_
    case hv => intro w' hS; go_simp; try exact rfl
    simp only [Act.put, qa]
    refine tk 1 (v := (.agg LP.toArray)) rfl (yieldsIf_load_mid (by kernel_rfl) 39 (.tmp 17) rfl B 0 rfl LP _ (fun w' h => (HR4.out _ h).1) Tryz.underlying39 rfl SZP.out) hH0 ?_
    simp only [Act.put, qa]
    refine tk 2 (v := (.agg LC.toArray)) rfl (yieldsIf_load_mid (by kernel_rfl) 32 (.tmp 3) rfl (B + 1) 0 rfl LC _ (fun w' h => (HR4.out _ h).2) Tryz.underlying32 rfl SZCL.out) hH0 ?_
    simp only [Act.put, qa]
    refine tk 4 (v := (.agg LC.toArray)) rfl (yieldsIf_load_mid (by kernel_rfl) 32 (.tmp 3) rfl (B + 1) 0 rfl LC _ (fun w' h => (HR4.out _ h).2) Tryz.underlying32 rfl SZCL.out) hH0 ?_
    simp only [Act.put, qa]
    refine wpAnyH_ready (rs := [3, 10]) (by kernel_rfl) (by simp) ?_
    refine AllReadyH.cons rfl (fun KK hKK => ?_) (AllReadyH.cons rfl (fun KK hKK => ?_) AllReadyH.nil)
    · go_simp
      have hky := lfKey_is K s0 W2.drew (HTB.out _ hH0).1 l HL.out
      unfold arr at hky
      rw [← ELC.out, ← EKL.out] at hky
      refine hky.mono ?_
      rintro _ xk ⟨rfl, hbk⟩
      have hs3 : Below W2.heap.size W2 xk := Below.trans hH0 (hbk.mono hH0.size)
      try replace hz9 := hz9.below hbk hz9.lt
      clear hky hbk
      refine Shut.out hKK _ _ hs3 (fun hH1 => ?_)
      clear hKK KK
      try simp only [Act.put, qa]
      refine wpAnyH_ready (rs := [5, 10]) (by kernel_rfl) (by simp) ?_
      refine AllReadyH.cons rfl (fun KK hKK => ?_) (AllReadyH.cons rfl (fun KK hKK => ?_) AllReadyH.nil)
      · go_simp
        have hsm := lfSum_is xk l HL.out
        rw [← ELC.out] at hsm
        refine hsm.mono ?_
        rintro _ xs ⟨hbs, hor⟩
        obtain ⟨sv, rfl, hby⟩ := sum_good HBAD.out hor
        obtain ⟨sa, sc, hsv, hbq⟩ := hby
        subst hsv
        have hbw : Bytes xs xs.heap.size (.slice sa (leafB l).length sc) (leafB l) := ⟨_, _, rfl, hbq⟩
        clear hbq
        have hs5 : Below W2.heap.size W2 xs := Below.trans hH1 (hbs.mono hH1.size)
        try replace hz9 := hz9.below hbs hz9.lt
        clear hsm hor hbs
        refine Shut.out hKK _ _ hs5 (fun hH2 => ?_)
        clear hKK KK
        try simp only [Act.put, qa]
        refine wpAnyH_ready (rs := [6, 10]) (by kernel_rfl) (by simp) ?_
        refine AllReadyH.cons rfl (fun KK hKK => ?_) (AllReadyH.cons rfl (fun KK hKK => ?_) AllReadyH.nil)
        · go_simp
          have hrt := pfRoot_is K s0 xs (HTB.out _ hH2).1 p.b HP.out.hash p.a p.n p.c p.xs (HTB.out _ hH2).2.nodes HP.out.cap (keyK K s0 l) (tagD_hash K s0 HT.out.len _ _) sa (leafB l) sc l.am hbw LEN123.out HL.out.am R1 ER1.out
          unfold arr at hrt
          rw [← EKL.out, show (pcells p.b p.a p.n p.c) = LP from EP.out.symm, ← EU1.out] at hrt
          refine hrt.mono ?_
          rintro _ xr ⟨rfl, hbr⟩
          have hs6 : Below W2.heap.size W2 xr := Below.trans hH2 (hbr.mono hH2.size)
          try replace hz9 := hz9.below hbr hz9.lt
          clear hrt hbr hbw
          refine Shut.out hKK _ _ hs6 (fun hH3 => ?_)
          clear hKK KK
          try simp only [Act.put, qa]
          apply tk 7 (v := _) rfl (Or.inl ⟨by kernel_rfl, ?hv⟩) hH3 ?_
          case hv => intro w' hS; go_simp; try exact rfl
          simp only [Act.put, qa]
          apply tk 8 (v := _) rfl (Or.inl ⟨by kernel_rfl, ?hv⟩) hH3 ?_
          case hv => intro w' hS; go_simp; try exact rfl
          simp only [Act.put, qa]
          apply tk 9 (v := _) rfl (Or.inl ⟨by kernel_rfl, ?hv⟩) hH3 ?_
          case hv => intro w' hS; go_simp; try exact rfl
          simp only [Act.put, qa]
          refine wpAnyH_ready (rs := [10]) (by kernel_rfl) (by simp) ?_
          refine AllReadyH.cons rfl (fun KK hKK => ?_) AllReadyH.nil
          go_simp
          obtain ⟨xa, hxa⟩ : ∃ y, y = xr.alloc (.cells zn 30) := ⟨_, rfl⟩
          have hnxa : Below xr.heap.size xr xa := by rw [hxa]; exact (Below.refl _ _).alloc (Nat.le_refl _) _
          have hsxa : Below W2.heap.size W2 xa := Below.trans hH3 (hnxa.mono hH3.size)
          have hz9 : Has xa xr.heap.size 30 zn := by rw [hxa]; exact Has.new _ _ _
          have hg9 : W2.heap.size ≤ xr.heap.size := hH3.size
          first | rw [← hxa] | (change KK _ (xr.alloc (.cells zn 30)); rw [← hxa])
          obtain ⟨G9, hG9⟩ : ∃ y, y = xr.heap.size := ⟨_, rfl⟩
          first | rw [← hG9] | (have hq : W2.heap.size = G9 := hG9.symm; rw [hq]; clear hq)
          rw [← hG9] at hz9 hg9
          clear hG9
          clear hxa
          try replace hbw := bytes_up hbw hnxa
          clear hnxa
          refine Shut.out hKK _ _ hsxa (fun hH4 => ?_)
          clear hKK KK
          try simp only [Act.put, qa]
          refine wpAnyH_ready (rs := [11]) (by kernel_rfl) (by simp) ?_
          refine AllReadyH.cons rfl (fun KK hKK => ?_) AllReadyH.nil
          refine step_store_mid rfl 30 (.tmp 7) (.tmp 24) rfl G9 0 (ndV (pfN R1)).toArray rfl rfl (hz9.there 0 _ (by rw [List.size_toArray, (SZN.out _ HN1.out.1).2]; exact Nat.le_of_eq (Nat.zero_add _))) (SZN.out _ HN1.out.1).1 (ndV_one _) ?_
          have hset := set_box hH4 hz9 hg9 (Below.size hH4) (SZN.out _ HN1.out.1).2
          obtain ⟨xb, hxb⟩ : ∃ y, y = xa.setCells G9 0 (ndV (pfN R1)) := ⟨_, rfl⟩
          rw [← hxb] at hset
          change KK _ (xa.setCells G9 0 (ndV (pfN R1)))
          rw [← hxb]
          have hsxb := hset.1
          clear hxb
          refine Shut.out hKK _ _ hsxb (fun hH5 => ?_)
          clear hKK KK
          try simp only [Act.put, qa]
          apply tk 12 (v := _) rfl (Or.inl ⟨by kernel_rfl, ?hv⟩) hH5 ?_
          case hv => intro w' hS; go_simp; try exact rfl
          simp only [Act.put, qa]
          refine wpAnyH_done (by kernel_rfl) ?_ _
          refine NoPanic.normal ?_
          have HG := Lib.hid hset.2.1
          have HS := Lib.hid hsxb
          clear hset hsxb
          go_wp2_with fail
          go_meet
          case rel => exact ⟨G9, rfl, rfl, HG.out, HS.out⟩
        · go_simp
          obtain ⟨xa, hxa⟩ : ∃ y, y = xs.alloc (.cells zn 30) := ⟨_, rfl⟩
          have hnxa : Below xs.heap.size xs xa := by rw [hxa]; exact (Below.refl _ _).alloc (Nat.le_refl _) _
          have hsxa : Below W2.heap.size W2 xa := Below.trans hH2 (hnxa.mono hH2.size)
          have hz9 : Has xa xs.heap.size 30 zn := by rw [hxa]; exact Has.new _ _ _
          have hg9 : W2.heap.size ≤ xs.heap.size := hH2.size
          first | rw [← hxa] | (change KK _ (xs.alloc (.cells zn 30)); rw [← hxa])
          obtain ⟨G9, hG9⟩ : ∃ y, y = xs.heap.size := ⟨_, rfl⟩
          first | rw [← hG9] | (have hq : W2.heap.size = G9 := hG9.symm; rw [hq]; clear hq)
          rw [← hG9] at hz9 hg9
          clear hG9
          clear hxa
          try replace hbw := bytes_up hbw hnxa
          clear hnxa
          refine Shut.out hKK _ _ hsxa (fun hH3 => ?_)
          clear hKK KK
          try simp only [Act.put, qa]
          refine wpAnyH_ready (rs := [6]) (by kernel_rfl) (by simp) ?_
          refine AllReadyH.cons rfl (fun KK hKK => ?_) AllReadyH.nil
          go_simp
          have hrt := pfRoot_is K s0 xa (HTB.out _ hH3).1 p.b HP.out.hash p.a p.n p.c p.xs (HTB.out _ hH3).2.nodes HP.out.cap (keyK K s0 l) (tagD_hash K s0 HT.out.len _ _) sa (leafB l) sc l.am hbw LEN123.out HL.out.am R1 ER1.out
          unfold arr at hrt
          rw [← EKL.out, show (pcells p.b p.a p.n p.c) = LP from EP.out.symm, ← EU1.out] at hrt
          refine hrt.mono ?_
          rintro _ xr ⟨rfl, hbr⟩
          have hs6 : Below W2.heap.size W2 xr := Below.trans hH3 (hbr.mono hH3.size)
          try replace hz9 := hz9.below hbr hz9.lt
          clear hrt hbr hbw
          refine Shut.out hKK _ _ hs6 (fun hH4 => ?_)
          clear hKK KK
          try simp only [Act.put, qa]
          apply tk 7 (v := _) rfl (Or.inl ⟨by kernel_rfl, ?hv⟩) hH4 ?_
          case hv => intro w' hS; go_simp; try exact rfl
          simp only [Act.put, qa]
          apply tk 8 (v := _) rfl (Or.inl ⟨by kernel_rfl, ?hv⟩) hH4 ?_
          case hv => intro w' hS; go_simp; try exact rfl
          simp only [Act.put, qa]
          apply tk 9 (v := _) rfl (Or.inl ⟨by kernel_rfl, ?hv⟩) hH4 ?_
          case hv => intro w' hS; go_simp; try exact rfl
          simp only [Act.put, qa]
          refine wpAnyH_ready (rs := [11]) (by kernel_rfl) (by simp) ?_
          refine AllReadyH.cons rfl (fun KK hKK => ?_) AllReadyH.nil
          refine step_store_mid rfl 30 (.tmp 7) (.tmp 24) rfl G9 0 (ndV (pfN R1)).toArray rfl rfl (hz9.there 0 _ (by rw [List.size_toArray, (SZN.out _ HN1.out.1).2]; exact Nat.le_of_eq (Nat.zero_add _))) (SZN.out _ HN1.out.1).1 (ndV_one _) ?_
          have hset := set_box hH4 hz9 hg9 (Below.size hH4) (SZN.out _ HN1.out.1).2
          obtain ⟨xb, hxb⟩ : ∃ y, y = xr.setCells G9 0 (ndV (pfN R1)) := ⟨_, rfl⟩
          rw [← hxb] at hset
          change KK _ (xr.setCells G9 0 (ndV (pfN R1)))
          rw [← hxb]
          have hsxb := hset.1
          clear hxb
          refine Shut.out hKK _ _ hsxb (fun hH5 => ?_)
          clear hKK KK
          try simp only [Act.put, qa]
          apply tk 12 (v := _) rfl (Or.inl ⟨by kernel_rfl, ?hv⟩) hH5 ?_
          case hv => intro w' hS; go_simp; try exact rfl
          simp only [Act.put, qa]
          refine wpAnyH_done (by kernel_rfl) ?_ _
          refine NoPanic.normal ?_
          have HG := Lib.hid hset.2.1
          have HS := Lib.hid hsxb
          clear hset hsxb
          go_wp2_with fail
          go_meet
          case rel => exact ⟨G9, rfl, rfl, HG.out, HS.out⟩
      · go_simp
        obtain ⟨xa, hxa⟩ : ∃ y, y = xk.alloc (.cells zn 30) := ⟨_, rfl⟩
        have hnxa : Below xk.heap.size xk xa := by rw [hxa]; exact (Below.refl _ _).alloc (Nat.le_refl _) _
        have hsxa : Below W2.heap.size W2 xa := Below.trans hH1 (hnxa.mono hH1.size)
        have hz9 : Has xa xk.heap.size 30 zn := by rw [hxa]; exact Has.new _ _ _
        have hg9 : W2.heap.size ≤ xk.heap.size := hH1.size
        first | rw [← hxa] | (change KK _ (xk.alloc (.cells zn 30)); rw [← hxa])
        obtain ⟨G9, hG9⟩ : ∃ y, y = xk.heap.size := ⟨_, rfl⟩
        first | rw [← hG9] | (have hq : W2.heap.size = G9 := hG9.symm; rw [hq]; clear hq)
        rw [← hG9] at hz9 hg9
        clear hG9
        clear hxa
        try replace hbw := bytes_up hbw hnxa
        clear hnxa
        refine Shut.out hKK _ _ hsxa (fun hH2 => ?_)
        clear hKK KK
        try simp only [Act.put, qa]
        refine wpAnyH_ready (rs := [5]) (by kernel_rfl) (by simp) ?_
        refine AllReadyH.cons rfl (fun KK hKK => ?_) AllReadyH.nil
        go_simp
        have hsm := lfSum_is xa l HL.out
        rw [← ELC.out] at hsm
        refine hsm.mono ?_
        rintro _ xs ⟨hbs, hor⟩
        obtain ⟨sv, rfl, hby⟩ := sum_good HBAD.out hor
        obtain ⟨sa, sc, hsv, hbq⟩ := hby
        subst hsv
        have hbw : Bytes xs xs.heap.size (.slice sa (leafB l).length sc) (leafB l) := ⟨_, _, rfl, hbq⟩
        clear hbq
        have hs5 : Below W2.heap.size W2 xs := Below.trans hH2 (hbs.mono hH2.size)
        try replace hz9 := hz9.below hbs hz9.lt
        clear hsm hor hbs
        refine Shut.out hKK _ _ hs5 (fun hH3 => ?_)
        clear hKK KK
        try simp only [Act.put, qa]
        refine wpAnyH_ready (rs := [6]) (by kernel_rfl) (by simp) ?_
        refine AllReadyH.cons rfl (fun KK hKK => ?_) AllReadyH.nil
        go_simp
        have hrt := pfRoot_is K s0 xs (HTB.out _ hH3).1 p.b HP.out.hash p.a p.n p.c p.xs (HTB.out _ hH3).2.nodes HP.out.cap (keyK K s0 l) (tagD_hash K s0 HT.out.len _ _) sa (leafB l) sc l.am hbw LEN123.out HL.out.am R1 ER1.out
        unfold arr at hrt
        rw [← EKL.out, show (pcells p.b p.a p.n p.c) = LP from EP.out.symm, ← EU1.out] at hrt
        refine hrt.mono ?_
        rintro _ xr ⟨rfl, hbr⟩
        have hs6 : Below W2.heap.size W2 xr := Below.trans hH3 (hbr.mono hH3.size)
        try replace hz9 := hz9.below hbr hz9.lt
        clear hrt hbr hbw
        refine Shut.out hKK _ _ hs6 (fun hH4 => ?_)
        clear hKK KK
        try simp only [Act.put, qa]
        apply tk 7 (v := _) rfl (Or.inl ⟨by kernel_rfl, ?hv⟩) hH4 ?_
        case hv => intro w' hS; go_simp; try exact rfl
        simp only [Act.put, qa]
        apply tk 8 (v := _) rfl (Or.inl ⟨by kernel_rfl, ?hv⟩) hH4 ?_
        case hv => intro w' hS; go_simp; try exact rfl
        simp only [Act.put, qa]
        apply tk 9 (v := _) rfl (Or.inl ⟨by kernel_rfl, ?hv⟩) hH4 ?_
        case hv => intro w' hS; go_simp; try exact rfl
        simp only [Act.put, qa]
        refine wpAnyH_ready (rs := [11]) (by kernel_rfl) (by simp) ?_
        refine AllReadyH.cons rfl (fun KK hKK => ?_) AllReadyH.nil
        refine step_store_mid rfl 30 (.tmp 7) (.tmp 24) rfl G9 0 (ndV (pfN R1)).toArray rfl rfl (hz9.there 0 _ (by rw [List.size_toArray, (SZN.out _ HN1.out.1).2]; exact Nat.le_of_eq (Nat.zero_add _))) (SZN.out _ HN1.out.1).1 (ndV_one _) ?_
        have hset := set_box hH4 hz9 hg9 (Below.size hH4) (SZN.out _ HN1.out.1).2
        obtain ⟨xb, hxb⟩ : ∃ y, y = xr.setCells G9 0 (ndV (pfN R1)) := ⟨_, rfl⟩
        rw [← hxb] at hset
        change KK _ (xr.setCells G9 0 (ndV (pfN R1)))
        rw [← hxb]
        have hsxb := hset.1
        clear hxb
        refine Shut.out hKK _ _ hsxb (fun hH5 => ?_)
        clear hKK KK
        try simp only [Act.put, qa]
        apply tk 12 (v := _) rfl (Or.inl ⟨by kernel_rfl, ?hv⟩) hH5 ?_
        case hv => intro w' hS; go_simp; try exact rfl
        simp only [Act.put, qa]
        refine wpAnyH_done (by kernel_rfl) ?_ _
        refine NoPanic.normal ?_
        have HG := Lib.hid hset.2.1
        have HS := Lib.hid hsxb
        clear hset hsxb
        go_wp2_with fail
        go_meet
        case rel => exact ⟨G9, rfl, rfl, HG.out, HS.out⟩
    · go_simp
      obtain ⟨xa, hxa⟩ : ∃ y, y = W2.drew.alloc (.cells zn 30) := ⟨_, rfl⟩
      have hnxa : Below W2.drew.heap.size W2.drew xa := by rw [hxa]; exact (Below.refl _ _).alloc (Nat.le_refl _) _
      have hsxa : Below W2.heap.size W2 xa := Below.trans hH0 (hnxa.mono hH0.size)
      have hz9 : Has xa W2.drew.heap.size 30 zn := by rw [hxa]; exact Has.new _ _ _
      have hg9 : W2.heap.size ≤ W2.drew.heap.size := hH0.size
      first | rw [← hxa] | (change KK _ (W2.drew.alloc (.cells zn 30)); rw [← hxa])
      obtain ⟨G9, hG9⟩ : ∃ y, y = W2.drew.heap.size := ⟨_, rfl⟩
      first | rw [← hG9] | (have hq : W2.heap.size = G9 := hG9.symm; rw [hq]; clear hq)
      rw [← hG9] at hz9 hg9
      clear hG9
      clear hxa
      try replace hbw := bytes_up hbw hnxa
      clear hnxa
      refine Shut.out hKK _ _ hsxa (fun hH1 => ?_)
      clear hKK KK
      try simp only [Act.put, qa]
      refine wpAnyH_ready (rs := [3]) (by kernel_rfl) (by simp) ?_
      refine AllReadyH.cons rfl (fun KK hKK => ?_) AllReadyH.nil
      go_simp
      have hky := lfKey_is K s0 xa (HTB.out _ hH1).1 l HL.out
      unfold arr at hky
      rw [← ELC.out, ← EKL.out] at hky
      refine hky.mono ?_
      rintro _ xk ⟨rfl, hbk⟩
      have hs3 : Below W2.heap.size W2 xk := Below.trans hH1 (hbk.mono hH1.size)
      try replace hz9 := hz9.below hbk hz9.lt
      clear hky hbk
      refine Shut.out hKK _ _ hs3 (fun hH2 => ?_)
      clear hKK KK
      try simp only [Act.put, qa]
      refine wpAnyH_ready (rs := [5]) (by kernel_rfl) (by simp) ?_
      refine AllReadyH.cons rfl (fun KK hKK => ?_) AllReadyH.nil
      go_simp
      have hsm := lfSum_is xk l HL.out
      rw [← ELC.out] at hsm
      refine hsm.mono ?_
      rintro _ xs ⟨hbs, hor⟩
      obtain ⟨sv, rfl, hby⟩ := sum_good HBAD.out hor
      obtain ⟨sa, sc, hsv, hbq⟩ := hby
      subst hsv
      have hbw : Bytes xs xs.heap.size (.slice sa (leafB l).length sc) (leafB l) := ⟨_, _, rfl, hbq⟩
      clear hbq
      have hs5 : Below W2.heap.size W2 xs := Below.trans hH2 (hbs.mono hH2.size)
      try replace hz9 := hz9.below hbs hz9.lt
      clear hsm hor hbs
      refine Shut.out hKK _ _ hs5 (fun hH3 => ?_)
      clear hKK KK
      try simp only [Act.put, qa]
      refine wpAnyH_ready (rs := [6]) (by kernel_rfl) (by simp) ?_
      refine AllReadyH.cons rfl (fun KK hKK => ?_) AllReadyH.nil
      go_simp
      have hrt := pfRoot_is K s0 xs (HTB.out _ hH3).1 p.b HP.out.hash p.a p.n p.c p.xs (HTB.out _ hH3).2.nodes HP.out.cap (keyK K s0 l) (tagD_hash K s0 HT.out.len _ _) sa (leafB l) sc l.am hbw LEN123.out HL.out.am R1 ER1.out
      unfold arr at hrt
      rw [← EKL.out, show (pcells p.b p.a p.n p.c) = LP from EP.out.symm, ← EU1.out] at hrt
      refine hrt.mono ?_
      rintro _ xr ⟨rfl, hbr⟩
      have hs6 : Below W2.heap.size W2 xr := Below.trans hH3 (hbr.mono hH3.size)
      try replace hz9 := hz9.below hbr hz9.lt
      clear hrt hbr hbw
      refine Shut.out hKK _ _ hs6 (fun hH4 => ?_)
      clear hKK KK
      try simp only [Act.put, qa]
      apply tk 7 (v := _) rfl (Or.inl ⟨by kernel_rfl, ?hv⟩) hH4 ?_
      case hv => intro w' hS; go_simp; try exact rfl
      simp only [Act.put, qa]
      apply tk 8 (v := _) rfl (Or.inl ⟨by kernel_rfl, ?hv⟩) hH4 ?_
      case hv => intro w' hS; go_simp; try exact rfl
      simp only [Act.put, qa]
      apply tk 9 (v := _) rfl (Or.inl ⟨by kernel_rfl, ?hv⟩) hH4 ?_
      case hv => intro w' hS; go_simp; try exact rfl
      simp only [Act.put, qa]
      refine wpAnyH_ready (rs := [11]) (by kernel_rfl) (by simp) ?_
      refine AllReadyH.cons rfl (fun KK hKK => ?_) AllReadyH.nil
      refine step_store_mid rfl 30 (.tmp 7) (.tmp 24) rfl G9 0 (ndV (pfN R1)).toArray rfl rfl (hz9.there 0 _ (by rw [List.size_toArray, (SZN.out _ HN1.out.1).2]; exact Nat.le_of_eq (Nat.zero_add _))) (SZN.out _ HN1.out.1).1 (ndV_one _) ?_
      have hset := set_box hH4 hz9 hg9 (Below.size hH4) (SZN.out _ HN1.out.1).2
      obtain ⟨xb, hxb⟩ : ∃ y, y = xr.setCells G9 0 (ndV (pfN R1)) := ⟨_, rfl⟩
      rw [← hxb] at hset
      change KK _ (xr.setCells G9 0 (ndV (pfN R1)))
      rw [← hxb]
      have hsxb := hset.1
      clear hxb
      refine Shut.out hKK _ _ hsxb (fun hH5 => ?_)
      clear hKK KK
      try simp only [Act.put, qa]
      apply tk 12 (v := _) rfl (Or.inl ⟨by kernel_rfl, ?hv⟩) hH5 ?_
      case hv => intro w' hS; go_simp; try exact rfl
      simp only [Act.put, qa]
      refine wpAnyH_done (by kernel_rfl) ?_ _
      refine NoPanic.normal ?_
      have HG := Lib.hid hset.2.1
      have HS := Lib.hid hsxb
      clear hset hsxb
      go_wp2_with fail
      go_meet
      case rel => exact ⟨G9, rfl, rfl, HG.out, HS.out⟩
   case rest =>
    obtain ⟨W4, hW4⟩ : ∃ x, x = wc := ⟨_, rfl⟩
    subst hW4
    obtain ⟨G7, rfl, rfl, hg7, hb4⟩ := hcut
    have HB4 := Lib.hid (HB2.out.trans (hb4.mono HB2.out.size))
    have HW4 := Lib.hid (HW2.out.below hb4 HW2.out.lt)
    have HC4 := Lib.hid (HC2.out.below hb4 HC2.out.lt)
    have HZ4 := Lib.hid (HZ2.out.below hb4 HZ2.out.lt)
    have HG7 := Lib.hid hg7
    clear hg7 hb4 HB2 HW2 HC2 HZ2
    by_cases hu0 : u1 = 0
    · have HOK1 := Lib.hid (show R1 = .ok (pfN R1) by
        rcases HCS1.out with ⟨_, e⟩ | ⟨e, _⟩
        · exact e
        · exact absurd hu0 e)
      obtain ⟨n1, hn1⟩ : ∃ n, n = pfN R1 := ⟨_, rfl⟩
      have HG7' := HG7.out
      have HN1' := HN1.out
      rw [← hn1] at HG7' HN1'
      have HG8 := Lib.hid HG7'
      have HN8 := Lib.hid HN1'
      have EN1 := Lib.hid hn1
      obtain ⟨R2, hR2⟩ : ∃ R, R = highR K s0 q l.id n1 := ⟨_, rfl⟩
      have hn2 : IsHash (pfN R2).h ∧ (pfN R2).s < 18446744073709551616 := by
        rw [hR2]
        exact ⟨pf_hash HT.out.len (leaf_hash K s0 HT.out.len _ _), pf_fits HN8.out.2⟩
      have HN2 := Lib.hid hn2
      obtain ⟨u2, hu2⟩ : ∃ u, u = pfE R2 := ⟨_, rfl⟩
      have hcs2 := pf_case hR2
      rw [← hu2] at hcs2
      have HCS2 := Lib.hid hcs2
      have EU2 := Lib.hid hu2
      have ER2 := Lib.hid hR2
      have SZNL := Lib.hid (show (Tryz.prog.info? 30).map (·.size) = some (ndV n1).length by have := (SZN.out n1 HN8.out.1).1; rwa [List.size_toArray] at this)
      have LEN32 := Lib.hid (show n1.h.length ≤ 1000000 by rw [HN8.out.1.1]; decide)
      subst hu0
      clear HG7' HN1' hn1 hR2 hn2 hu2 hcs2 HG7 HN1
      go_upto_region 7 with (fail)
      go_cut [8, 9] from 10 (fun v8 v9 wx => ∃ G9, v9 = .pointer (some ⟨G9, 0, none⟩) ∧ v8 = .int .i64 (u2 : Int) ∧ Has wx G9 30 (ndV (pfN R2)).toArray ∧ Below W4.heap.size W4 wx)
      case first =>
        have hS0 : Below W4.heap.size W4 W4.drew := (Below.refl _ _).drew
        have HR7 := Lib.hid (show ∀ v, Below W4.heap.size W4 v → v.rangeAt B 33 LQ ∧ v.rangeAt (B + 1) 0 LI ∧ v.rangeAt G7 0 (ndV n1) from fun v hv => ⟨(HWR.out v B (HW4.out.below hv HW4.out.lt)).2, HCR.out v (B + 1) (HC4.out.below hv HC4.out.lt), (HG8.out.below hv HG8.out.lt).row0⟩)
        have HTB := Lib.hid (show ∀ v, Below W4.heap.size W4 v → Tabs K s0 v ∧ q.At v from fun v hv => ⟨HTV.out v (HB4.out.trans (hv.mono HB4.out.size)), HQ.out.below (HB4.out.trans (hv.mono HB4.out.size))⟩)
        refine wp_region_noPanic ?_
        refine wp_region_held_drew (S := (fun v => Below W4.heap.size W4 v)) (by kernel_rfl) hS0 (fun hH0 => ?_)
        apply tk 0 (v := _) rfl (Or.inl ⟨by kernel_rfl, ?hv⟩) hH0 ?_
        case hv => intro w' hS; go_simp; try exact rfl
        simp only [Act.put, qa]
        refine tk 1 (v := (.agg LQ.toArray)) rfl (yieldsIf_load_mid (by kernel_rfl) 39 (.tmp 31) rfl B 33 rfl LQ _ (fun w' h => (HR7.out _ h).1) Tryz.underlying39 rfl SZQ.out) hH0 ?_
        simp only [Act.put, qa]
        apply tk 2 (v := _) rfl (Or.inl ⟨by kernel_rfl, ?hv⟩) hH0 ?_
        case hv => intro w' hS; go_simp; try exact rfl
        simp only [Act.put, qa]
        refine tk 3 (v := (.agg LI.toArray)) rfl (yieldsIf_load_mid (by kernel_rfl) 27 (.tmp 33) rfl (B + 1) 0 rfl LI _ (fun w' h => (HR7.out _ h).2.1) Tryz.underlying27 rfl SZI.out) hH0 ?_
        simp only [Act.put, qa]
        refine tk 4 (v := (.agg (ndV n1).toArray)) rfl (yieldsIf_load_mid (by kernel_rfl) 30 (.tmp 7) rfl G7 0 rfl (ndV n1) _ (fun w' h => (HR7.out _ h).2.2) Tryz.underlying30 rfl SZNL.out) hH0 ?_
        simp only [Act.put, qa]
        refine wpAnyH_ready (rs := [5, 10]) (by kernel_rfl) (by simp) ?_
        refine AllReadyH.cons rfl (fun KK hKK => ?_) (AllReadyH.cons rfl (fun KK hKK => ?_) AllReadyH.nil)
        · go_simp
          refine (coHigh_is W4.drew n1 HN8.out.1 HN8.out.2).mono ?_
          rintro _ xs ⟨sv, rfl, hby, hbs⟩
          obtain ⟨sa, sc, hsv, hbq⟩ := hby
          subst hsv
          have hbw : Bytes xs xs.heap.size (.slice sa n1.h.length sc) n1.h := ⟨_, _, rfl, hbq⟩
          clear hbq
          have hs5 : Below W4.heap.size W4 xs := Below.trans hH0 (hbs.mono hH0.size)
          try replace hz9 := hz9.below hbs hz9.lt
          clear hbs
          refine Shut.out hKK _ _ hs5 (fun hH1 => ?_)
          clear hKK KK
          try simp only [Act.put, qa]
          refine wpAnyH_ready (rs := [6, 10]) (by kernel_rfl) (by simp) ?_
          refine AllReadyH.cons rfl (fun KK hKK => ?_) (AllReadyH.cons rfl (fun KK hKK => ?_) AllReadyH.nil)
          · go_simp
            have hrt := pfRoot_is K s0 xs (HTB.out _ hH1).1 q.b HQ.out.hash q.a q.n q.c q.xs (HTB.out _ hH1).2.nodes HQ.out.cap l.id HL.out.id sa n1.h sc n1.s hbw LEN32.out HN8.out.2 R2 ER2.out
            unfold arr at hrt
            rw [← ELI.out, show (pcells q.b q.a q.n q.c) = LQ from EQ.out.symm, ← EU2.out] at hrt
            refine hrt.mono ?_
            rintro _ xr ⟨rfl, hbr⟩
            have hs6 : Below W4.heap.size W4 xr := Below.trans hH1 (hbr.mono hH1.size)
            try replace hz9 := hz9.below hbr hz9.lt
            clear hrt hbr hbw
            refine Shut.out hKK _ _ hs6 (fun hH2 => ?_)
            clear hKK KK
            try simp only [Act.put, qa]
            apply tk 7 (v := _) rfl (Or.inl ⟨by kernel_rfl, ?hv⟩) hH2 ?_
            case hv => intro w' hS; go_simp; try exact rfl
            simp only [Act.put, qa]
            apply tk 8 (v := _) rfl (Or.inl ⟨by kernel_rfl, ?hv⟩) hH2 ?_
            case hv => intro w' hS; go_simp; try exact rfl
            simp only [Act.put, qa]
            apply tk 9 (v := _) rfl (Or.inl ⟨by kernel_rfl, ?hv⟩) hH2 ?_
            case hv => intro w' hS; go_simp; try exact rfl
            simp only [Act.put, qa]
            refine wpAnyH_ready (rs := [10]) (by kernel_rfl) (by simp) ?_
            refine AllReadyH.cons rfl (fun KK hKK => ?_) AllReadyH.nil
            go_simp
            obtain ⟨xa, hxa⟩ : ∃ y, y = xr.alloc (.cells zn 30) := ⟨_, rfl⟩
            have hnxa : Below xr.heap.size xr xa := by rw [hxa]; exact (Below.refl _ _).alloc (Nat.le_refl _) _
            have hsxa : Below W4.heap.size W4 xa := Below.trans hH2 (hnxa.mono hH2.size)
            have hz9 : Has xa xr.heap.size 30 zn := by rw [hxa]; exact Has.new _ _ _
            have hg9 : W4.heap.size ≤ xr.heap.size := hH2.size
            first | rw [← hxa] | (change KK _ (xr.alloc (.cells zn 30)); rw [← hxa])
            obtain ⟨G9, hG9⟩ : ∃ y, y = xr.heap.size := ⟨_, rfl⟩
            first | rw [← hG9] | (have hq : W4.heap.size = G9 := hG9.symm; rw [hq]; clear hq)
            rw [← hG9] at hz9 hg9
            clear hG9
            clear hxa
            try replace hbw := bytes_up hbw hnxa
            clear hnxa
            refine Shut.out hKK _ _ hsxa (fun hH3 => ?_)
            clear hKK KK
            try simp only [Act.put, qa]
            refine wpAnyH_ready (rs := [11]) (by kernel_rfl) (by simp) ?_
            refine AllReadyH.cons rfl (fun KK hKK => ?_) AllReadyH.nil
            refine step_store_mid rfl 30 (.tmp 9) (.tmp 38) rfl G9 0 (ndV (pfN R2)).toArray rfl rfl (hz9.there 0 _ (by rw [List.size_toArray, (SZN.out _ HN2.out.1).2]; exact Nat.le_of_eq (Nat.zero_add _))) (SZN.out _ HN2.out.1).1 (ndV_one _) ?_
            have hset := set_box hH3 hz9 hg9 (Below.size hH3) (SZN.out _ HN2.out.1).2
            obtain ⟨xb, hxb⟩ : ∃ y, y = xa.setCells G9 0 (ndV (pfN R2)) := ⟨_, rfl⟩
            rw [← hxb] at hset
            change KK _ (xa.setCells G9 0 (ndV (pfN R2)))
            rw [← hxb]
            have hsxb := hset.1
            clear hxb
            refine Shut.out hKK _ _ hsxb (fun hH4 => ?_)
            clear hKK KK
            try simp only [Act.put, qa]
            apply tk 12 (v := _) rfl (Or.inl ⟨by kernel_rfl, ?hv⟩) hH4 ?_
            case hv => intro w' hS; go_simp; try exact rfl
            simp only [Act.put, qa]
            refine wpAnyH_done (by kernel_rfl) ?_ _
            refine NoPanic.normal ?_
            have HG := Lib.hid hset.2.1
            have HS := Lib.hid hsxb
            clear hset hsxb
            go_wp2_with fail
            go_meet
            case rel => exact ⟨G9, rfl, rfl, HG.out, HS.out⟩
          · go_simp
            obtain ⟨xa, hxa⟩ : ∃ y, y = xs.alloc (.cells zn 30) := ⟨_, rfl⟩
            have hnxa : Below xs.heap.size xs xa := by rw [hxa]; exact (Below.refl _ _).alloc (Nat.le_refl _) _
            have hsxa : Below W4.heap.size W4 xa := Below.trans hH1 (hnxa.mono hH1.size)
            have hz9 : Has xa xs.heap.size 30 zn := by rw [hxa]; exact Has.new _ _ _
            have hg9 : W4.heap.size ≤ xs.heap.size := hH1.size
            first | rw [← hxa] | (change KK _ (xs.alloc (.cells zn 30)); rw [← hxa])
            obtain ⟨G9, hG9⟩ : ∃ y, y = xs.heap.size := ⟨_, rfl⟩
            first | rw [← hG9] | (have hq : W4.heap.size = G9 := hG9.symm; rw [hq]; clear hq)
            rw [← hG9] at hz9 hg9
            clear hG9
            clear hxa
            try replace hbw := bytes_up hbw hnxa
            clear hnxa
            refine Shut.out hKK _ _ hsxa (fun hH2 => ?_)
            clear hKK KK
            try simp only [Act.put, qa]
            refine wpAnyH_ready (rs := [6]) (by kernel_rfl) (by simp) ?_
            refine AllReadyH.cons rfl (fun KK hKK => ?_) AllReadyH.nil
            go_simp
            have hrt := pfRoot_is K s0 xa (HTB.out _ hH2).1 q.b HQ.out.hash q.a q.n q.c q.xs (HTB.out _ hH2).2.nodes HQ.out.cap l.id HL.out.id sa n1.h sc n1.s hbw LEN32.out HN8.out.2 R2 ER2.out
            unfold arr at hrt
            rw [← ELI.out, show (pcells q.b q.a q.n q.c) = LQ from EQ.out.symm, ← EU2.out] at hrt
            refine hrt.mono ?_
            rintro _ xr ⟨rfl, hbr⟩
            have hs6 : Below W4.heap.size W4 xr := Below.trans hH2 (hbr.mono hH2.size)
            try replace hz9 := hz9.below hbr hz9.lt
            clear hrt hbr hbw
            refine Shut.out hKK _ _ hs6 (fun hH3 => ?_)
            clear hKK KK
            try simp only [Act.put, qa]
            apply tk 7 (v := _) rfl (Or.inl ⟨by kernel_rfl, ?hv⟩) hH3 ?_
            case hv => intro w' hS; go_simp; try exact rfl
            simp only [Act.put, qa]
            apply tk 8 (v := _) rfl (Or.inl ⟨by kernel_rfl, ?hv⟩) hH3 ?_
            case hv => intro w' hS; go_simp; try exact rfl
            simp only [Act.put, qa]
            apply tk 9 (v := _) rfl (Or.inl ⟨by kernel_rfl, ?hv⟩) hH3 ?_
            case hv => intro w' hS; go_simp; try exact rfl
            simp only [Act.put, qa]
            refine wpAnyH_ready (rs := [11]) (by kernel_rfl) (by simp) ?_
            refine AllReadyH.cons rfl (fun KK hKK => ?_) AllReadyH.nil
            refine step_store_mid rfl 30 (.tmp 9) (.tmp 38) rfl G9 0 (ndV (pfN R2)).toArray rfl rfl (hz9.there 0 _ (by rw [List.size_toArray, (SZN.out _ HN2.out.1).2]; exact Nat.le_of_eq (Nat.zero_add _))) (SZN.out _ HN2.out.1).1 (ndV_one _) ?_
            have hset := set_box hH3 hz9 hg9 (Below.size hH3) (SZN.out _ HN2.out.1).2
            obtain ⟨xb, hxb⟩ : ∃ y, y = xr.setCells G9 0 (ndV (pfN R2)) := ⟨_, rfl⟩
            rw [← hxb] at hset
            change KK _ (xr.setCells G9 0 (ndV (pfN R2)))
            rw [← hxb]
            have hsxb := hset.1
            clear hxb
            refine Shut.out hKK _ _ hsxb (fun hH4 => ?_)
            clear hKK KK
            try simp only [Act.put, qa]
            apply tk 12 (v := _) rfl (Or.inl ⟨by kernel_rfl, ?hv⟩) hH4 ?_
            case hv => intro w' hS; go_simp; try exact rfl
            simp only [Act.put, qa]
            refine wpAnyH_done (by kernel_rfl) ?_ _
            refine NoPanic.normal ?_
            have HG := Lib.hid hset.2.1
            have HS := Lib.hid hsxb
            clear hset hsxb
            go_wp2_with fail
            go_meet
            case rel => exact ⟨G9, rfl, rfl, HG.out, HS.out⟩
        · go_simp
          obtain ⟨xa, hxa⟩ : ∃ y, y = W4.drew.alloc (.cells zn 30) := ⟨_, rfl⟩
          have hnxa : Below W4.drew.heap.size W4.drew xa := by rw [hxa]; exact (Below.refl _ _).alloc (Nat.le_refl _) _
          have hsxa : Below W4.heap.size W4 xa := Below.trans hH0 (hnxa.mono hH0.size)
          have hz9 : Has xa W4.drew.heap.size 30 zn := by rw [hxa]; exact Has.new _ _ _
          have hg9 : W4.heap.size ≤ W4.drew.heap.size := hH0.size
          first | rw [← hxa] | (change KK _ (W4.drew.alloc (.cells zn 30)); rw [← hxa])
          obtain ⟨G9, hG9⟩ : ∃ y, y = W4.drew.heap.size := ⟨_, rfl⟩
          first | rw [← hG9] | (have hq : W4.heap.size = G9 := hG9.symm; rw [hq]; clear hq)
          rw [← hG9] at hz9 hg9
          clear hG9
          clear hxa
          try replace hbw := bytes_up hbw hnxa
          clear hnxa
          refine Shut.out hKK _ _ hsxa (fun hH1 => ?_)
          clear hKK KK
          try simp only [Act.put, qa]
          refine wpAnyH_ready (rs := [5]) (by kernel_rfl) (by simp) ?_
          refine AllReadyH.cons rfl (fun KK hKK => ?_) AllReadyH.nil
          go_simp
          refine (coHigh_is xa n1 HN8.out.1 HN8.out.2).mono ?_
          rintro _ xs ⟨sv, rfl, hby, hbs⟩
          obtain ⟨sa, sc, hsv, hbq⟩ := hby
          subst hsv
          have hbw : Bytes xs xs.heap.size (.slice sa n1.h.length sc) n1.h := ⟨_, _, rfl, hbq⟩
          clear hbq
          have hs5 : Below W4.heap.size W4 xs := Below.trans hH1 (hbs.mono hH1.size)
          try replace hz9 := hz9.below hbs hz9.lt
          clear hbs
          refine Shut.out hKK _ _ hs5 (fun hH2 => ?_)
          clear hKK KK
          try simp only [Act.put, qa]
          refine wpAnyH_ready (rs := [6]) (by kernel_rfl) (by simp) ?_
          refine AllReadyH.cons rfl (fun KK hKK => ?_) AllReadyH.nil
          go_simp
          have hrt := pfRoot_is K s0 xs (HTB.out _ hH2).1 q.b HQ.out.hash q.a q.n q.c q.xs (HTB.out _ hH2).2.nodes HQ.out.cap l.id HL.out.id sa n1.h sc n1.s hbw LEN32.out HN8.out.2 R2 ER2.out
          unfold arr at hrt
          rw [← ELI.out, show (pcells q.b q.a q.n q.c) = LQ from EQ.out.symm, ← EU2.out] at hrt
          refine hrt.mono ?_
          rintro _ xr ⟨rfl, hbr⟩
          have hs6 : Below W4.heap.size W4 xr := Below.trans hH2 (hbr.mono hH2.size)
          try replace hz9 := hz9.below hbr hz9.lt
          clear hrt hbr hbw
          refine Shut.out hKK _ _ hs6 (fun hH3 => ?_)
          clear hKK KK
          try simp only [Act.put, qa]
          apply tk 7 (v := _) rfl (Or.inl ⟨by kernel_rfl, ?hv⟩) hH3 ?_
          case hv => intro w' hS; go_simp; try exact rfl
          simp only [Act.put, qa]
          apply tk 8 (v := _) rfl (Or.inl ⟨by kernel_rfl, ?hv⟩) hH3 ?_
          case hv => intro w' hS; go_simp; try exact rfl
          simp only [Act.put, qa]
          apply tk 9 (v := _) rfl (Or.inl ⟨by kernel_rfl, ?hv⟩) hH3 ?_
          case hv => intro w' hS; go_simp; try exact rfl
          simp only [Act.put, qa]
          refine wpAnyH_ready (rs := [11]) (by kernel_rfl) (by simp) ?_
          refine AllReadyH.cons rfl (fun KK hKK => ?_) AllReadyH.nil
          refine step_store_mid rfl 30 (.tmp 9) (.tmp 38) rfl G9 0 (ndV (pfN R2)).toArray rfl rfl (hz9.there 0 _ (by rw [List.size_toArray, (SZN.out _ HN2.out.1).2]; exact Nat.le_of_eq (Nat.zero_add _))) (SZN.out _ HN2.out.1).1 (ndV_one _) ?_
          have hset := set_box hH3 hz9 hg9 (Below.size hH3) (SZN.out _ HN2.out.1).2
          obtain ⟨xb, hxb⟩ : ∃ y, y = xr.setCells G9 0 (ndV (pfN R2)) := ⟨_, rfl⟩
          rw [← hxb] at hset
          change KK _ (xr.setCells G9 0 (ndV (pfN R2)))
          rw [← hxb]
          have hsxb := hset.1
          clear hxb
          refine Shut.out hKK _ _ hsxb (fun hH4 => ?_)
          clear hKK KK
          try simp only [Act.put, qa]
          apply tk 12 (v := _) rfl (Or.inl ⟨by kernel_rfl, ?hv⟩) hH4 ?_
          case hv => intro w' hS; go_simp; try exact rfl
          simp only [Act.put, qa]
          refine wpAnyH_done (by kernel_rfl) ?_ _
          refine NoPanic.normal ?_
          have HG := Lib.hid hset.2.1
          have HS := Lib.hid hsxb
          clear hset hsxb
          go_wp2_with fail
          go_meet
          case rel => exact ⟨G9, rfl, rfl, HG.out, HS.out⟩
      case rest =>
        obtain ⟨W7, hW7⟩ : ∃ x, x = wc := ⟨_, rfl⟩
        subst hW7
        obtain ⟨G9, rfl, rfl, hg9, hb7⟩ := hcut
        have HB7 := Lib.hid (HB4.out.trans (hb7.mono HB4.out.size))
        have HZ7 := Lib.hid (HZ4.out.below hb7 HZ4.out.lt)
        have HG9 := Lib.hid hg9
        clear hg9 hb7 HB4 HW4 HC4 HZ4 HG8
        by_cases hu2 : u2 = 0
        · have HOK2 := Lib.hid (show R2 = .ok (pfN R2) by
            rcases HCS2.out with ⟨_, e⟩ | ⟨e, _⟩
            · exact e
            · exact absurd hu2 e)
          have HF := Lib.hid (show R = .ok (anchorK K s0 (pfN R2)) by
            rw [ER.out]
            exact lead_ok (n := n1) HBAD.out (by rw [← ER1.out, EN1.out]; exact HOK1.out) (by rw [← ER2.out]; exact HOK2.out))
          obtain ⟨D, hD⟩ : ∃ D, D = anchorK K s0 (pfN R2) := ⟨_, rfl⟩
          have hDh : IsHash D := by rw [hD]; exact anchorK_hash K s0 HT.out.len _
          have han := coAnchor_is K s0 W7 (HTV.out W7 HB7.out) (pfN R2) HN2.out.1 HN2.out.2
          rw [← hD] at han
          unfold arr at han
          have HAN := Lib.hid han
          have ED := Lib.hid hD
          have SZD := Lib.hid (SZH.out D hDh)
          have SZN2 := Lib.hid (SZN.out (pfN R2) HN2.out.1).1
          obtain ⟨LD, hLD⟩ : ∃ L, L = bcells D := ⟨_, rfl⟩
          have HAN' := HAN.out
          have SZD' := SZD.out
          rw [← hLD] at HAN' SZD'
          have HA2 := Lib.hid HAN'
          have SZ2 := Lib.hid SZD'
          have ONED := Lib.hid (show LD.toArray.all (·.oneCell') = true by rw [hLD]; exact all_oneCell_toArray (bcells_one D))
          have ELD := Lib.hid hLD
          subst hu2
          clear hDh han hD HAN' SZD' hLD HAN SZD
          go_wp2_with (refine wpList_load_row rfl 30 (.tmp 9) rfl G9 rfl 30 (ndV (pfN R2)).toArray (0, 0) _ HG9.out Tryz.underlying30 rfl SZN2.out ?_)
          refine HA2.out.mono ?_
          rintro _ W8 ⟨rfl, hb8⟩
          have HZ8 := Lib.hid (HZ7.out.below hb8 HZ7.out.lt)
          have HB8 := Lib.hid (HB7.out.trans (hb8.mono HB7.out.size))
          clear hb8 HA2
          go_wp2_with (refine wpList_store_row rfl 27 (.tmp 4) (.tmp 45) rfl (B + 2) LD.toArray rfl rfl 27 zk HZ8.out SZ2.out.1 SZ2.out.2 ONED.out ?_)
          have HS := Lib.hid (show Has (W8.setRow (B + 2) LD.toArray) (B + 2) 27 LD.toArray ∧ Below w.heap.size w (W8.setRow (B + 2) LD.toArray) from ⟨HZ8.out.setRow, HB8.out.trans ((kept_setRow (g := B + 2) W8 LD.toArray).below HB8.out.size (fun j e => by have e' : j = B + 2 := e; have := EB.out; omega))⟩)
          refine bodyPost_ret (results_cellA_tmp rfl _ _ (B + 2) 27 LD.toArray (0, 0) _ rfl rfl HS.out.1 Tryz.underlying27 SZ2.out.1) rfl ?_
          exact ⟨by rw [HF.out, ELD.out, ED.out]; rfl, HS.out.2⟩
        · have HF := Lib.hid (show R = .error u2 by
            rcases HCS2.out with ⟨e, _⟩ | ⟨_, e⟩
            · exact absurd e hu2
            · rw [ER.out]
              exact lead_err2 (n := n1) HBAD.out (by rw [← ER1.out, EN1.out]; exact HOK1.out) (by rw [← ER2.out]; exact e))
          have hu2' : ¬ (u2 : Int) = 0 := by omega
          clear hu2
          go_wp2_with (first
            | (refine wpList_build_run rfl 27 #[] rfl #[] (by kernel_rfl) (.agg ZH.toArray) (HBH.out _) ?_)
            | (refine wpList_store_row rfl 27 (.tmp 4) (.tmp 42) rfl (B + 2) ZH.toArray rfl rfl 27 zk HZ7.out SZZ.out.1 SZZ.out.2.1 SZZ.out.2.2 ?_))
          have HS := Lib.hid (HOUT.out W7 HZ7.out HB7.out)
          refine bodyPost_ret (results_cellA_tmp rfl _ _ (B + 2) 27 ZH.toArray (0, 0) _ rfl rfl HS.out.1 Tryz.underlying27 SZZ.out.1) rfl ?_
          exact ⟨by rw [HF.out, EZH.out]; rfl, HS.out.2⟩
    · have HF := Lib.hid (show R = .error u1 by
        rcases HCS1.out with ⟨e, _⟩ | ⟨_, e⟩
        · exact absurd e hu0
        · rw [ER.out]
          exact lead_err1 HBAD.out (by rw [← ER1.out]; exact e))
      have hu0' : ¬ (u1 : Int) = 0 := by omega
      clear hu0
      go_wp2_with (first
        | (refine wpList_build_run rfl 27 #[] rfl #[] (by kernel_rfl) (.agg ZH.toArray) (HBH.out _) ?_)
        | (refine wpList_store_row rfl 27 (.tmp 4) (.tmp 28) rfl (B + 2) ZH.toArray rfl rfl 27 zk HZ4.out SZZ.out.1 SZZ.out.2.1 SZZ.out.2.2 ?_))
      have HS := Lib.hid (HOUT.out W4 HZ4.out HB4.out)
      refine bodyPost_ret (results_cellA_tmp rfl _ _ (B + 2) 27 ZH.toArray (0, 0) _ rfl rfl HS.out.1 Tryz.underlying27 SZZ.out.1) rfl ?_
      exact ⟨by rw [HF.out, EZH.out]; rfl, HS.out.2⟩
end Go.Proofs.YtknfbccbdiidjaaGreatDoor

