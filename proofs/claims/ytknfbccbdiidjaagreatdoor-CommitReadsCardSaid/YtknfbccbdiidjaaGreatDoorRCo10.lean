/- The walk of Prove. -/
import Derived.Test.YtknfbccbdiidjaaGreatDoorWs
import Derived.Test.YtknfbccbdiidjaaGreatDoorRCo9
namespace Go.Proofs.YtknfbccbdiidjaaGreatDoor
set_option linter.unusedVariables false
set_option linter.unusedSimpArgs false
open Go.ChangeShapes Go.WideShapes Go.ChangeAt Go.RowKit Go.Maps

structure Pf.Of (p : Pf) (K s0 : List Wd) (T : List Lf) (key : List Nat) (N : Nat) (w : World) : Prop where
 at_ : p.At w
 bits : ∀ h, h < 256 → bareB p.b h = bareF K s0 (besF K s0 T key) h
 nodes : p.xs = nodesF K s0 (besF K s0 T key) 256
 new : 0 < p.n → ∀ A, p.a = some A → N ≤ A.block
 cap : p.n ≤ p.c
theorem NodesAt.keptN {S : Nat → Prop} {w w' : World} {a : Option Addr} {n : Nat} {xs : List Nd} (h : NodesAt w a n xs) (hk : Kept S w w') (hs : 0 < n → ∀ A, a = some A → ¬ S A.block) : NodesAt w' a n xs := by
 rcases Nat.eq_zero_or_pos n with e | e
 · subst e
   have : xs = [] := List.eq_nil_of_length_eq_zero h.len
   rw [this]
   exact nodes_nil w' a
 · exact h.kept hk (hs e)
theorem Pf.Of.kept {p : Pf} {K s0 : List Wd} {T : List Lf} {key : List Nat} {N : Nat} {w w' : World} {S : Nat → Prop} (h : p.Of K s0 T key N w) (hk : Kept S w w') (hs : ∀ k, S k → k < N) : p.Of K s0 T key N w' :=
 ⟨⟨h.at_.hash, h.at_.nodes.keptN hk (fun h0 A hA e => by have a1 := h.new h0 A hA; have a2 := hs _ e; omega), h.at_.cap⟩, h.bits, h.nodes, h.new, h.cap⟩
theorem Pf.Of.kept2 {p : Pf} {K s0 : List Wd} {T : List Lf} {key : List Nat} {N : Nat} {w w' : World} {S : Nat → Prop} (h : p.Of K s0 T key N w) (hk : Kept S w w') (hs : ∀ k, S k → k < N ∨ w.heap.size ≤ k) : p.Of K s0 T key N w' :=
 ⟨⟨h.at_.hash, h.at_.nodes.keptN hk (fun h0 A hA e => by
  have a1 := h.new h0 A hA
  obtain ⟨b, o, e1, hlt, _⟩ := h.at_.nodes.at_ h0
  rw [hA] at e1
  injection e1 with e1
  have a3 : A.block = b := by rw [e1]
  rcases hs _ e with a2 | a2 <;> omega), h.at_.cap⟩, h.bits, h.nodes, h.new, h.cap⟩
theorem Pf.Of.more {p : Pf} {K s0 : List Wd} {T : List Lf} {key : List Nat} {N N' : Nat} {w : World} (h : p.Of K s0 T key N w) (hn : N' ≤ N) : p.Of K s0 T key N' w := ⟨h.at_, h.bits, h.nodes, fun h0 A hA => Nat.le_trans hn (h.new h0 A hA), h.cap⟩
theorem Pf.Of.below {p : Pf} {K s0 : List Wd} {T : List Lf} {key : List Nat} {N : Nat} {w w' : World} (h : p.Of K s0 T key N w) (hb : Below w.heap.size w w') : p.Of K s0 T key N w' := ⟨h.at_.below hb, h.bits, h.nodes, h.new, h.cap⟩
theorem made_of {K s0 : List Wd} {S : Nat → Prop} {w w' : World} {g : Nat} {T : List Lf} {key bb : List Nat} {a : Option Addr} {n c : Nat} (h : Made K s0 S w g T key bb a n c w') : ∃ p : Pf, p.b = bb ∧ p.a = a ∧ p.n = n ∧ p.c = c ∧ p.Of K s0 T key w.heap.size w' := by
 obtain ⟨X, hX⟩ : ∃ X, X = nodesF K s0 (besF K s0 T key) 256 := ⟨_, rfl⟩
 have hn := h.nodes
 rw [← hX] at hn
 have hl : X.length ≤ 256 := by rw [hX]; exact nodesF_len 256
 have hcap : n ≤ 1000000 := by have := hn.len; omega
 exact ⟨⟨bb, a, n, c, X⟩, rfl, rfl, rfl, rfl, ⟨h.hash, hn, hcap⟩, h.bits, hX, h.new, h.cap⟩
variable {K s0 : List Wd} {S : Nat → Prop} {w w' : World} {g m0 m1 : Nat} {ls : List LeafT} {E : List (List Nat × Nat)} {Z : Nat → Nat → Prop}
def ProveP (K s0 : List Wd) (S : Nat → Prop) (w : World) (g : Nat) (ls : List LeafT) (m0 m1 : Nat) (E : List (List Nat × Nat)) (Z : Nat → Nat → Prop) (l : LeafT) (e : Ending) (w' : World) : Prop :=
 CmAt K s0 S w' g ls m0 m1 E Z ∧ Kept (fun k => ∃ e ∈ E, Z e.2 k) w w' ∧ ((l ∈ ls ∧ ∃ p q T, e = .returned (.tuple #[.agg (waysC p q).toArray, .int .i64 0]) ∧ p.Of K s0 (lowT K s0 ls l.id) (keyK K s0 l) w.heap.size w' ∧ T.Perm (topT K s0 ls) ∧ q.Of K s0 T l.id w.heap.size w') ∨
  (l ∉ ls ∧ ∃ p q : Pf, e = .returned (.tuple #[.agg (waysC p q).toArray, .int .i64 5]) ∧ p.xs = [] ∧ q.xs = [] ∧ p.At w' ∧ q.At w'))
def zPf : Pf := ⟨List.replicate 32 0, none, 0, 0, []⟩
theorem zPf_at (w : World) : zPf.At w := ⟨⟨rfl, fun k hk => by rw [List.eq_of_mem_replicate hk]; decide⟩, nodes_nil w none, by decide⟩
theorem zero_ways : ∃ Z : Array Value, (∀ w, (zeroValue 41).run Tryz.prog w = .ok (.agg Z) w) ∧ (∀ w, (Instr.build 41 #[]).run Tryz.prog w = .ok (.agg (waysC zPf zPf).toArray) w) ∧ Z.size = 66 ∧ ¬ Z = #[] := by
 have hs : (waysC zPf zPf).toArray.size = 66 := by kernel_rfl
 exact ⟨(waysC zPf zPf).toArray, fun w => by kernel_rfl, fun w => by kernel_rfl, hs, fun e => by rw [e] at hs; cases hs⟩
theorem build_ways (p q : Pf) (hp : IsHash p.b) (hq : IsHash q.b) (w : World) : (Instr.build 41 #[(0, .agg p.cells.toArray), (1, .agg q.cells.toArray)]).run Tryz.prog w = .ok (.agg (waysC p q).toArray) w := by
 obtain ⟨pb, pa, pn, pc, px⟩ := p
 obtain ⟨qb, qa, qn, qc, qx⟩ := q
 have h1 : pb.length = 32 := hp.1
 have h2 : qb.length = 32 := hq.1
 clear hp hq
 obtain ⟨d0, d1, d2, d3, d4, d5, d6, d7, d8, d9, d10, d11, d12, d13, d14, d15, d16, d17, d18, d19, d20, d21, d22, d23, d24, d25, d26, d27, d28, d29, d30, d31, rfl⟩ := thirty_two pb h1
 obtain ⟨e0, e1, e2, e3, e4, e5, e6, e7, e8, e9, e10, e11, e12, e13, e14, e15, e16, e17, e18, e19, e20, e21, e22, e23, e24, e25, e26, e27, e28, e29, e30, e31, rfl⟩ := thirty_two qb h2
 exact run_build w 41 _ _ (by kernel_rfl)
theorem wpList_neq_run {P : Program} {ops : Array Oper} {Q : Exit → Act → World → Prop} {a : Act} {w : World} {rest : List Oper} {o : Oper} (hw : Region.wanted o (yielded ops a.tmps) = true) (t t2 : TypeId) (x y : Operand) (ho : o.op = .binOp .neq t x y t2)
  (u v : Value) (hx : a.eval x = u) (hy : a.eval y = v) (b : Bool) (hrun : (binOp .neq t u v).run P w = .ok (.bool b) w) (hg : (eqGuard .neq t x y u v).run P w = .ok () w) (h : wpList P ops Q rest (a.put o.dst (.bool b)) w) : wpList P ops Q (o :: rest) a w := by
 refine BigFrame.wpList_want hw fun K hK => ?_
 unfold Oper.wp
 simp only [execOp, ho, hx, hy, Sem.run_bind, hg, hrun, Result.andThen_ok, Sem.run_pure]
 exact hK _ _ h
theorem boxes_prv (w : World) (LC : List Value) (Z : Array Value) : ∃ W1, W1 = (((w.alloc (.cells LC.toArray 32))).alloc (.cells Z 41)) ∧
   Has W1 (w.heap.size) 32 LC.toArray ∧ Has W1 (w.heap.size + 1) 41 Z ∧ Below w.heap.size w W1 := by
 refine ⟨_, rfl, ?_, ?_, ?_⟩
 · have := Has.new w 32 LC.toArray
   exact (this).alloc _
 · have := Has.new (w.alloc (.cells LC.toArray 32)) 41 Z
   exact (by simpa using this : Has _ (w.heap.size + 1) _ _)
 · exact ((Below.refl _ _).alloc (Nat.le_refl _) _).alloc (by simp) _
set_option maxRecDepth 100000 in
set_option maxHeartbeats 16000000 in
theorem coProve_at (h : CmAt K s0 S w g ls m0 m1 E Z) (hT : Tabs K s0 w) (hS : ∀ k, S k → 2 + 1 ≤ k) (l : LeafT) (hl : l.ok) :
  Calls Tryz.prog 33 #[.pointer (some ⟨g, 0, none⟩), .agg l.cells.toArray] w (ProveP K s0 S w g ls m0 m1 E Z l) := by
 obtain ⟨zw, hzw, hbw, hzws, hzwn⟩ := zero_ways
 obtain ⟨zl, hzl, -, hzls, hzln, hzle'⟩ := zero_leafT
 have HZLE := Lib.hid hzle'
 clear hzle'
 obtain ⟨LC, hLC⟩ : ∃ L, L = l.cells := ⟨_, rfl⟩
 obtain ⟨KL, hKL⟩ : ∃ L, L = bcells (keyK K s0 l) := ⟨_, rfl⟩
 obtain ⟨LI, hLI⟩ : ∃ L, L = bcells l.id := ⟨_, rfl⟩
 obtain ⟨LZ, hLZ⟩ : ∃ L, L = waysC zPf zPf := ⟨_, rfl⟩
 rw [← hLC]
 rw [← hLZ] at hbw
 have hkh : IsHash (keyK K s0 l) := tagD_hash K s0 hT.len _ _
 have SZC := Lib.hid (show (Tryz.prog.info? 32).map (·.size) = some LC.toArray.size by rw [List.size_toArray, hLC, LeafT.len hl]; kernel_rfl)
 have SZCL := Lib.hid (show (Tryz.prog.info? 32).map (·.size) = some LC.length by rw [hLC, LeafT.len hl]; kernel_rfl)
 have SZKL := Lib.hid (show (Tryz.prog.info? 27).map (·.size) = some KL.length by rw [hKL, bcells_length, hkh.1]; kernel_rfl)
 have SZI := Lib.hid (show (Tryz.prog.info? 27).map (·.size) = some LI.length by rw [hLI, bcells_length, hl.id.1]; kernel_rfl)
 have SZW := Lib.hid (show ∀ p q : Pf, IsHash p.b → IsHash q.b → (Tryz.prog.info? 41).map (·.size) = some (waysC p q).toArray.size ∧ zw.size = (waysC p q).length from fun p q hp hq => ⟨by rw [List.size_toArray, waysC_len hp hq]; kernel_rfl, by rw [hzws, waysC_len hp hq]⟩)
 have HBW := Lib.hid hbw
 have HZLS := Lib.hid hzls
 have ELC := Lib.hid hLC
 have EKL := Lib.hid hKL
 have ELI := Lib.hid hLI
 have ELZ := Lib.hid hLZ
 have HL := Lib.hid hl
 have H := Lib.hid h
 have HS := Lib.hid hS
 have HT := Lib.hid hT
 have HTV := Lib.hid (show ∀ v, Below w.heap.size w v → Tabs K s0 v from fun v hv => hT.below hv hT.low)
 obtain ⟨XL, kn, hXL, hXok, hLK1, hkn⟩ : ∃ (x : LeafT) (kn : Bool), x.cells.length = 99 ∧ x.ok ∧ (∀ v, Below w.heap.size w v → (Instr.lookup 99 (.map (some m1)) (.agg KL.toArray) true).run Tryz.prog v = .ok (.tuple #[.agg x.cells.toArray, .bool kn]) v) ∧ ((kn = true ∧ (x = l ↔ l ∈ ls)) ∨ (kn = false ∧ l ∉ ls)) := by
  have hlk : ∀ v, Below w.heap.size w v → (Instr.lookup 99 (.map (some m1)) (.agg KL.toArray) true).run Tryz.prog v = .ok (.tuple #[(look (ls.map (entL K s0)) (keyK K s0 l)).getD (.agg zl), .bool (look (ls.map (entL K s0)) (keyK K s0 l)).isSome]) v := fun v hv => by
    rw [hKL]
    exact lookup_ok_is (T := 99) Tryz.underlying99 hzl (h.quiet hv).map1 hkh
  rcases look_key h.fine.keys (keyK K s0 l) with ⟨o, ho, he, hlo⟩ | ⟨hne, hlo⟩
  · rw [hlo] at hlk
    exact ⟨o, true, LeafT.len (h.fine.ok o ho), h.fine.ok o ho, hlk, .inl ⟨rfl, fun e => by rw [← e]; exact ho, fun e => key_inj h.fine.keys ho e he⟩⟩
  · rw [hlo] at hlk
    have hz : LeafT.ok ⟨List.replicate 32 0, 0, List.replicate 32 0, 0, zNd⟩ := ⟨⟨rfl, fun k hk => by rw [List.eq_of_mem_replicate hk]; decide⟩, by decide, ⟨rfl, fun k hk => by rw [List.eq_of_mem_replicate hk]; decide⟩, by decide, by decide, zNd_hash, by decide⟩
    refine ⟨⟨List.replicate 32 0, 0, List.replicate 32 0, 0, zNd⟩, false, LeafT.len hz, hz, ?_, .inr ⟨rfl, fun e => hne (List.mem_map.2 ⟨l, e, rfl⟩)⟩⟩
    rw [← HZLE.out]
    exact hlk
 have HKN := Lib.hid hkn
 have HXOK := Lib.hid hXok
 have HLK1 := Lib.hid hLK1
 obtain ⟨XC, hXC⟩ : ∃ L, L = XL.cells := ⟨_, rfl⟩
 have XL99 := Lib.hid (show XC.length = 99 by rw [hXC]; exact hXL)
 have X1 := Lib.hid (show XC.toArray.all (·.oneCell') = true by rw [hXC]; exact LeafT.one XL)
 have EXC := Lib.hid hXC
 have HEQ := Lib.hid (show ∀ v, (Op.equalIn 10000 32 (.agg XC.toArray) (.agg LC.toArray)).run Tryz.prog v = .ok (decide (XL = l)) v from fun v => by rw [hXC, hLC]; exact le_eq XL l hXok hl v)
 have HLK := Lib.hid (show ∀ v, Below w.heap.size w v → v.cell? ⟨g, 1, none⟩ = some (.map (some m1)) ∧ (Instr.lookup 99 (.map (some m1)) (.agg KL.toArray) true).run Tryz.prog v = .ok (.tuple #[.agg XC.toArray, .bool kn]) v from fun v hv => ⟨(h.quiet hv).cells.2.1, by rw [hXC]; exact hLK1 v hv⟩)
 obtain ⟨W1, hW1, h1, h2, hb1⟩ := boxes_prv w LC zw
 have EW := Lib.hid hW1
 have H1 := Lib.hid h1
 have H2 := Lib.hid h2
 have HB1 := Lib.hid hb1
 clear h hT hS hl hLC hKL hLI hLZ hkh hzws hbw hzls hXL hXok hLK1 hkn hXC hW1 h1 h2 hb1 HLK1
 go_enter Tryz.func33, Tryz.ntmps33
 go_upto_region 1 with (fail)
 rw [← EW.out]
 obtain ⟨B, hB⟩ : ∃ y, y = w.heap.size := ⟨_, rfl⟩
 rw [← hB] at H1 H2 ⊢
 have EB := Lib.hid hB
 clear hB EW
 go_upto_region 3 with (fail)
 go_cut [6, 7] from 8 (fun v6 v7 wx => ∃ G6, v6 = .pointer (some ⟨G6, 0, none⟩) ∧ v7 = .bool kn ∧ Has wx G6 32 XC.toArray ∧ Below W1.heap.size W1 wx)
 case first =>
  have hS0 : Below W1.heap.size W1 W1.drew := (Below.refl _ _).drew
  have HR3 := Lib.hid (show ∀ v, Below W1.heap.size W1 v → v.rangeAt B 0 LC from fun v hv => (H1.out.below hv H1.out.lt).row0)
  have HC3 := Lib.hid (show ∀ v, Below W1.heap.size W1 v → v.cell? ⟨g, 1, none⟩ = some (.map (some m1)) ∧ (Instr.lookup 99 (.map (some m1)) (.agg KL.toArray) true).run Tryz.prog v = .ok (.tuple #[.agg XC.toArray, .bool kn]) v from fun v hv => HLK.out v (HB1.out.trans (hv.mono HB1.out.size)))
  have HTB := Lib.hid (show ∀ v, Below W1.heap.size W1 v → Tabs K s0 v from fun v hv => HTV.out v (HB1.out.trans (hv.mono HB1.out.size)))
  refine wp_region_noPanic ?_
  refine wp_region_held_drew (S := (fun v => Below W1.heap.size W1 v)) (by kernel_rfl) hS0 (fun hH0 => ?_)
  apply tk 0 (v := _) rfl (Or.inl ⟨by kernel_rfl, ?hv⟩) hH0 ?_
  case hv => intro w' hS; have z0 := (HC3.out w' hS).1; have z1 := (HC3.out w' hS).2; go_simp; try exact rfl
  simp only [Act.put, qa]
  apply tk 1 (v := _) rfl (Or.inl ⟨by kernel_rfl, ?hv⟩) hH0 ?_
  case hv => intro w' hS; have z0 := (HC3.out w' hS).1; have z1 := (HC3.out w' hS).2; go_simp; try exact rfl
  simp only [Act.put, qa]
  apply tk 2 (v := _) rfl (Or.inl ⟨by kernel_rfl, ?hv⟩) hH0 ?_
  case hv => intro w' hS; have z0 := (HC3.out w' hS).1; have z1 := (HC3.out w' hS).2; go_simp; try exact rfl
  simp only [Act.put, qa]
  apply tk 3 (v := _) rfl (Or.inl ⟨by kernel_rfl, ?hv⟩) hH0 ?_
  case hv => intro w' hS; have z0 := (HC3.out w' hS).1; have z1 := (HC3.out w' hS).2; go_simp; try exact rfl
  simp only [Act.put, qa]
  refine tk 4 (v := (.agg LC.toArray)) rfl (yieldsIf_load_mid (by kernel_rfl) 32 (.tmp 3) rfl B 0 rfl LC _ (fun w' h => (HR3.out _ h)) Tryz.underlying32 rfl SZCL.out) hH0 ?_
  simp only [Act.put, qa]
  refine wpAnyH_ready (rs := [5, 10]) (by kernel_rfl) (by simp) ?_
  refine AllReadyH.cons rfl (fun KK hKK => ?_) (AllReadyH.cons rfl (fun KK hKK => ?_) AllReadyH.nil)
  · go_simp
    have hky := lfKey_is K s0 W1.drew (HTB.out _ hH0) l HL.out
    unfold arr at hky
    rw [← ELC.out, ← EKL.out] at hky
    refine hky.mono ?_
    rintro _ xk ⟨rfl, hbk⟩
    have hs5 : Below W1.heap.size W1 xk := Below.trans hH0 (hbk.mono hH0.size)
    try replace hz9 := hz9.below hbk hz9.lt
    clear hky hbk
    refine Shut.out hKK _ _ hs5 (fun hH1 => ?_)
    clear hKK KK
    try simp only [Act.put, qa]
    apply tk 6 (v := _) rfl (Or.inl ⟨by kernel_rfl, ?hv⟩) hH1 ?_
    case hv => intro w' hS; have z0 := (HC3.out w' hS).1; have z1 := (HC3.out w' hS).2; go_simp; try exact rfl
    simp only [Act.put, qa]
    apply tk 7 (v := _) rfl (Or.inl ⟨by kernel_rfl, ?hv⟩) hH1 ?_
    case hv => intro w' hS; have z0 := (HC3.out w' hS).1; have z1 := (HC3.out w' hS).2; go_simp; try exact rfl
    simp only [Act.put, qa]
    apply tk 8 (v := _) rfl (Or.inl ⟨by kernel_rfl, ?hv⟩) hH1 ?_
    case hv => intro w' hS; have z0 := (HC3.out w' hS).1; have z1 := (HC3.out w' hS).2; go_simp; try exact rfl
    simp only [Act.put, qa]
    apply tk 9 (v := _) rfl (Or.inl ⟨by kernel_rfl, ?hv⟩) hH1 ?_
    case hv => intro w' hS; have z0 := (HC3.out w' hS).1; have z1 := (HC3.out w' hS).2; go_simp; try exact rfl
    simp only [Act.put, qa]
    refine wpAnyH_ready (rs := [10]) (by kernel_rfl) (by simp) ?_
    refine AllReadyH.cons rfl (fun KK hKK => ?_) AllReadyH.nil
    go_simp
    obtain ⟨xa, hxa⟩ : ∃ y, y = xk.alloc (.cells zl 32) := ⟨_, rfl⟩
    have hnxa : Below xk.heap.size xk xa := by rw [hxa]; exact (Below.refl _ _).alloc (Nat.le_refl _) _
    have hsxa : Below W1.heap.size W1 xa := Below.trans hH1 (hnxa.mono hH1.size)
    have hz9 : Has xa xk.heap.size 32 zl := by rw [hxa]; exact Has.new _ _ _
    have hg9 : W1.heap.size ≤ xk.heap.size := hH1.size
    first | rw [← hxa] | (change KK _ (xk.alloc (.cells zl 32)); rw [← hxa])
    obtain ⟨G9, hG9⟩ : ∃ y, y = xk.heap.size := ⟨_, rfl⟩
    first | rw [← hG9] | (have hq : W1.heap.size = G9 := hG9.symm; rw [hq]; clear hq)
    rw [← hG9] at hz9 hg9
    clear hG9
    clear hxa hnxa
    refine Shut.out hKK _ _ hsxa (fun hH2 => ?_)
    clear hKK KK
    try simp only [Act.put, qa]
    refine wpAnyH_ready (rs := [11]) (by kernel_rfl) (by simp) ?_
    refine AllReadyH.cons rfl (fun KK hKK => ?_) AllReadyH.nil
    refine step_store_mid rfl 32 (.tmp 6) (.tmp 19) rfl G9 0 XC.toArray rfl rfl (hz9.there 0 _ (by rw [List.size_toArray, HZLS.out, XL99.out]; exact Nat.le_refl _)) (by rw [List.size_toArray, XL99.out]; kernel_rfl) X1.out ?_
    have hset := set_box hH2 hz9 hg9 (Below.size hH2) (by rw [HZLS.out, XL99.out])
    obtain ⟨xb, hxb⟩ : ∃ y, y = xa.setCells G9 0 XC := ⟨_, rfl⟩
    rw [← hxb] at hset
    change KK _ (xa.setCells G9 0 XC)
    rw [← hxb]
    have hsxb := hset.1
    clear hxb
    refine Shut.out hKK _ _ hsxb (fun hH3 => ?_)
    clear hKK KK
    try simp only [Act.put, qa]
    apply tk 12 (v := _) rfl (Or.inl ⟨by kernel_rfl, ?hv⟩) hH3 ?_
    case hv => intro w' hS; have z0 := (HC3.out w' hS).1; have z1 := (HC3.out w' hS).2; go_simp; try exact rfl
    simp only [Act.put, qa]
    refine wpAnyH_done (by kernel_rfl) ?_ _
    refine NoPanic.normal ?_
    have HG := Lib.hid hset.2.1
    have HS := Lib.hid hsxb
    clear hset hsxb
    go_wp2_with fail
    go_meet
    case rel => exact ⟨G9, rfl, rfl, HG.out, HS.out⟩
  · go_simp
    obtain ⟨xa, hxa⟩ : ∃ y, y = W1.drew.alloc (.cells zl 32) := ⟨_, rfl⟩
    have hnxa : Below W1.drew.heap.size W1.drew xa := by rw [hxa]; exact (Below.refl _ _).alloc (Nat.le_refl _) _
    have hsxa : Below W1.heap.size W1 xa := Below.trans hH0 (hnxa.mono hH0.size)
    have hz9 : Has xa W1.drew.heap.size 32 zl := by rw [hxa]; exact Has.new _ _ _
    have hg9 : W1.heap.size ≤ W1.drew.heap.size := hH0.size
    first | rw [← hxa] | (change KK _ (W1.drew.alloc (.cells zl 32)); rw [← hxa])
    obtain ⟨G9, hG9⟩ : ∃ y, y = W1.drew.heap.size := ⟨_, rfl⟩
    first | rw [← hG9] | (have hq : W1.heap.size = G9 := hG9.symm; rw [hq]; clear hq)
    rw [← hG9] at hz9 hg9
    clear hG9
    clear hxa hnxa
    refine Shut.out hKK _ _ hsxa (fun hH1 => ?_)
    clear hKK KK
    try simp only [Act.put, qa]
    refine wpAnyH_ready (rs := [5]) (by kernel_rfl) (by simp) ?_
    refine AllReadyH.cons rfl (fun KK hKK => ?_) AllReadyH.nil
    go_simp
    have hky := lfKey_is K s0 xa (HTB.out _ hH1) l HL.out
    unfold arr at hky
    rw [← ELC.out, ← EKL.out] at hky
    refine hky.mono ?_
    rintro _ xk ⟨rfl, hbk⟩
    have hs5 : Below W1.heap.size W1 xk := Below.trans hH1 (hbk.mono hH1.size)
    try replace hz9 := hz9.below hbk hz9.lt
    clear hky hbk
    refine Shut.out hKK _ _ hs5 (fun hH2 => ?_)
    clear hKK KK
    try simp only [Act.put, qa]
    apply tk 6 (v := _) rfl (Or.inl ⟨by kernel_rfl, ?hv⟩) hH2 ?_
    case hv => intro w' hS; have z0 := (HC3.out w' hS).1; have z1 := (HC3.out w' hS).2; go_simp; try exact rfl
    simp only [Act.put, qa]
    apply tk 7 (v := _) rfl (Or.inl ⟨by kernel_rfl, ?hv⟩) hH2 ?_
    case hv => intro w' hS; have z0 := (HC3.out w' hS).1; have z1 := (HC3.out w' hS).2; go_simp; try exact rfl
    simp only [Act.put, qa]
    apply tk 8 (v := _) rfl (Or.inl ⟨by kernel_rfl, ?hv⟩) hH2 ?_
    case hv => intro w' hS; have z0 := (HC3.out w' hS).1; have z1 := (HC3.out w' hS).2; go_simp; try exact rfl
    simp only [Act.put, qa]
    apply tk 9 (v := _) rfl (Or.inl ⟨by kernel_rfl, ?hv⟩) hH2 ?_
    case hv => intro w' hS; have z0 := (HC3.out w' hS).1; have z1 := (HC3.out w' hS).2; go_simp; try exact rfl
    simp only [Act.put, qa]
    refine wpAnyH_ready (rs := [11]) (by kernel_rfl) (by simp) ?_
    refine AllReadyH.cons rfl (fun KK hKK => ?_) AllReadyH.nil
    refine step_store_mid rfl 32 (.tmp 6) (.tmp 19) rfl G9 0 XC.toArray rfl rfl (hz9.there 0 _ (by rw [List.size_toArray, HZLS.out, XL99.out]; exact Nat.le_refl _)) (by rw [List.size_toArray, XL99.out]; kernel_rfl) X1.out ?_
    have hset := set_box hH2 hz9 hg9 (Below.size hH2) (by rw [HZLS.out, XL99.out])
    obtain ⟨xb, hxb⟩ : ∃ y, y = xk.setCells G9 0 XC := ⟨_, rfl⟩
    rw [← hxb] at hset
    change KK _ (xk.setCells G9 0 XC)
    rw [← hxb]
    have hsxb := hset.1
    clear hxb
    refine Shut.out hKK _ _ hsxb (fun hH3 => ?_)
    clear hKK KK
    try simp only [Act.put, qa]
    apply tk 12 (v := _) rfl (Or.inl ⟨by kernel_rfl, ?hv⟩) hH3 ?_
    case hv => intro w' hS; have z0 := (HC3.out w' hS).1; have z1 := (HC3.out w' hS).2; go_simp; try exact rfl
    simp only [Act.put, qa]
    refine wpAnyH_done (by kernel_rfl) ?_ _
    refine NoPanic.normal ?_
    have HG := Lib.hid hset.2.1
    have HS := Lib.hid hsxb
    clear hset hsxb
    go_wp2_with fail
    go_meet
    case rel => exact ⟨G9, rfl, rfl, HG.out, HS.out⟩
 case rest =>
  obtain ⟨W3, hW3⟩ : ∃ x, x = wc := ⟨_, rfl⟩
  subst hW3
  obtain ⟨G6, rfl, rfl, hg6, hb3⟩ := hcut
  have HB3 := Lib.hid (HB1.out.trans (hb3.mono HB1.out.size))
  have H13 := Lib.hid (H1.out.below hb3 H1.out.lt)
  have H23 := Lib.hid (H2.out.below hb3 H2.out.lt)
  have HG6 := Lib.hid hg6
  clear hg6 hb3 H1 H2 HB1
  have SZXC := Lib.hid (show (Tryz.prog.info? 32).map (·.size) = some XC.toArray.size by rw [List.size_toArray, XL99.out]; kernel_rfl)
  have hno : l ∉ ls → ∀ v, Has v (B + 1) 41 zw → Below w.heap.size w v → Has (v.setRow (B + 1) LZ.toArray) (B + 1) 41 LZ.toArray ∧ ProveP K s0 S w g ls m0 m1 E Z l (.returned (.tuple #[.agg LZ.toArray, .int .i64 5])) (v.setRow (B + 1) LZ.toArray) := fun hn v hv hb => by
    have hb' : Below w.heap.size w (v.setRow (B + 1) LZ.toArray) := hb.trans ((kept_setRow (g := B + 1) v LZ.toArray).below hb.size (fun j e => by have e' : j = B + 1 := e; have := EB.out; omega))
    refine ⟨hv.setRow, H.out.quiet hb', Kept.of_below hb', .inr ⟨hn, zPf, zPf, by rw [ELZ.out], rfl, rfl, zPf_at _, zPf_at _⟩⟩
  have HNO := Lib.hid hno
  have SZZ := Lib.hid (show (Tryz.prog.info? 41).map (·.size) = some LZ.toArray.size ∧ zw.size = LZ.toArray.size ∧ LZ.toArray.all (·.oneCell') = true by
    rw [ELZ.out]
    have := SZW.out zPf zPf (zPf_at w).hash (zPf_at w).hash
    exact ⟨this.1, by rw [List.size_toArray]; exact this.2, waysC_one _ _⟩)
  clear hno
  cases kn with
  | false =>
    have HNL := Lib.hid (show l ∉ ls by
     rcases HKN.out with ⟨e, _⟩ | ⟨_, e⟩
     · cases e
     · exact e)
    go_wp2_with (first
     | (refine wpList_build_run rfl 41 #[] rfl #[] (by kernel_rfl) (.agg LZ.toArray) (HBW.out _) ?_)
     | (refine wpList_store_row rfl 41 (.tmp 4) (.tmp 28) rfl (B + 1) LZ.toArray rfl rfl 41 zw H23.out SZZ.out.1 SZZ.out.2.1 SZZ.out.2.2 ?_))
    have HF := Lib.hid (HNO.out HNL.out W3 H23.out HB3.out)
    refine bodyPost_ret (results_cell_tmp rfl _ _ (B + 1) 41 LZ.toArray (0, 0) _ rfl rfl HF.out.1 Tryz.underlying41 SZZ.out.1) rfl ?_
    exact HF.out.2
  | true =>
    obtain ⟨b, hb⟩ : ∃ b, b = decide (XL = l) := ⟨_, rfl⟩
    have HNE := Lib.hid (show ∀ v, (binOp .neq 32 (.agg XC.toArray) (.agg LC.toArray)).run Tryz.prog v = .ok (.bool (!b)) v from fun v => by rw [run_neq_struct, HEQ.out, ← hb]; rfl)
    have HEG := Lib.hid (show ∀ v, (eqGuard .neq 32 (.tmp 24) (.tmp 25) (.agg XC.toArray) (.agg LC.toArray)).run Tryz.prog v = .ok () v from fun v => by first | rfl | simp [eqGuard])
    have HBB := Lib.hid (show b = decide (l ∈ ls) by
     rcases HKN.out with ⟨_, e⟩ | ⟨e, _⟩
     · rw [hb, decide_eq_decide]; exact e
     · cases e)
    clear hb
    cases b with
    | false =>
     have HNL := Lib.hid (show l ∉ ls from of_decide_eq_false HBB.out.symm)
     have HQ6 := Lib.hid HG6.out.row0
     have HQ1 := Lib.hid H13.out.row0
     have SZX2 := Lib.hid (show (Tryz.prog.info? 32).map (·.size) = some XC.length by rw [XL99.out]; kernel_rfl)
     go_wp2_with (first
       | (refine wpList_load_midG rfl 32 (.tmp 6) rfl G6 0 rfl XC _ HQ6.out Tryz.underlying32 rfl SZX2.out ?_)
       | (refine wpList_load_midG rfl 32 (.tmp 3) rfl B 0 rfl LC _ HQ1.out Tryz.underlying32 rfl SZCL.out ?_)
       | (refine wpList_neq_run rfl 32 _ (.tmp 24) (.tmp 25) rfl (.agg XC.toArray) (.agg LC.toArray) rfl rfl true (HNE.out _) (HEG.out _) ?_)
       | (refine wpList_build_run rfl 41 #[] rfl #[] (by kernel_rfl) (.agg LZ.toArray) (HBW.out _) ?_)
       | (refine wpList_store_row rfl 41 (.tmp 4) (.tmp 28) rfl (B + 1) LZ.toArray rfl rfl 41 zw H23.out SZZ.out.1 SZZ.out.2.1 SZZ.out.2.2 ?_))
     have HF := Lib.hid (HNO.out HNL.out W3 H23.out HB3.out)
     refine bodyPost_ret (results_cell_tmp rfl _ _ (B + 1) 41 LZ.toArray (0, 0) _ rfl rfl HF.out.1 Tryz.underlying41 SZZ.out.1) rfl ?_
     exact HF.out.2
    | true =>
     have HIN := Lib.hid (show l ∈ ls from of_decide_eq_true HBB.out.symm)
     have HQ6 := Lib.hid HG6.out.row0
     have HQ1 := Lib.hid H13.out.row0
     have SZX2 := Lib.hid (show (Tryz.prog.info? 32).map (·.size) = some XC.length by rw [XL99.out]; kernel_rfl)
     go_upto_region 6 with (first
       | (refine wpList_load_midG rfl 32 (.tmp 6) rfl G6 0 rfl XC _ HQ6.out Tryz.underlying32 rfl SZX2.out ?_)
       | (refine wpList_load_midG rfl 32 (.tmp 3) rfl B 0 rfl LC _ HQ1.out Tryz.underlying32 rfl SZCL.out ?_)
       | (refine wpList_neq_run rfl 32 _ (.tmp 24) (.tmp 25) rfl (.agg XC.toArray) (.agg LC.toArray) rfl rfl false (HNE.out _) (HEG.out _) ?_))
     obtain ⟨qg, hqE⟩ : ∃ qg, (l.id, qg) ∈ E := by
       have h1 : l.id ∈ E.map (·.1) := by rw [H.out.ids]; exact (ids_mem ls l.id).2 ⟨l, HIN.out, rfl⟩
       obtain ⟨e, he, e2⟩ := List.mem_map.1 h1
       exact ⟨e.2, by rw [← e2]; exact he⟩
     have HE := Lib.hid hqE
     have hidn : (E.map (·.1)).Nodup := by rw [H.out.ids]; exact ids_nodup ls
     have hcm : CmAt K s0 (fun k => S k ∧ k < w.heap.size) W3.drew g ls m0 m1 E Z := ((H.out.zoneS (S' := fun k => S k ∧ k < w.heap.size) (fun k h1 h2 => ⟨h2, h1⟩)).quiet HB3.out.drew)
     have HU := Lib.hid (show ∀ k, (∃ e ∈ E, Z e.2 k) → k < w.heap.size ∧ S k ∧ k ≠ g ∧ k ≠ m0 from fun k ⟨e, he, hz⟩ => by have := H.out.zone e he k hz; exact ⟨this.1, this.2.1, this.2.2.1, this.2.2.2.1⟩)
     have HLT := Lib.hid (show g < w.heap.size ∧ m0 < w.heap.size from ⟨H.out.obj.lt, H.out.map0.lt⟩)
     have hlk0 : ∀ v, MapIs v m0 (E.map entP) → (Instr.lookup 98 (.map (some m0)) (.agg LI.toArray) false).run Tryz.prog v = .ok (.pointer (some ⟨qg, 0, none⟩)) v := fun v hv => by
       have := lookup_is (T := 98) Tryz.underlying98 zero_ptrT hv HL.out.id
       rw [look_mem2 (by rw [ids_ents]; exact hidn) (List.mem_map.2 ⟨_, hqE, rfl⟩)] at this
       unfold arr at this
       rw [← ELI.out] at this
       exact this
     have HSV := Lib.hid (show ∀ v, Kept (fun k => (∃ e ∈ E, Z e.2 k) ∨ k = B + 1) W3 v → v.cell? ⟨g, 0, none⟩ = some (.map (some m0)) ∧ (Instr.lookup 98 (.map (some m0)) (.agg LI.toArray) false).run Tryz.prog v = .ok (.pointer (some ⟨qg, 0, none⟩)) v ∧ v.rangeAt B 0 LC ∧ v.rangeAt B 0 LI from fun v hv => by
       have a1 := EB.out
       have a2 := HLT.out
       have c3 := H.out.quiet HB3.out
       have ho := c3.obj.kept hv (fun e => by rcases e with e | e; exact (HU.out _ e).2.2.1 rfl; omega)
       have hm := c3.map0.kept hv (fun e => by rcases e with e | e; exact (HU.out _ e).2.2.2 rfl; omega)
       have hb := H13.out.kept hv (fun e => by rcases e with e | e; (have := (HU.out _ e).1; omega); omega)
       have hbi : v.rangeAt B 0 LI := by rw [ELI.out]; rw [ELC.out] at hb; exact coL_id hb
       exact ⟨ho.cell_is rfl, hlk0 v hm, hb.row0, hbi⟩)
     have HTU := Lib.hid (show ∀ v, Kept (fun k => (∃ e ∈ E, Z e.2 k) ∨ k = B + 1) W3 v → Tabs K s0 v from fun v hv => (HTV.out W3 HB3.out).kept hv (fun k e => by
       rcases e with e | e
       · exact HS.out k (HU.out k e).2.1
       · have a1 := EB.out; have a2 := HT.out.low; omega))
     have hz : Has W3.drew (B + 1) 41 zw := H23.out
     have HKH := Lib.hid (show IsHash (keyK K s0 l) from tagD_hash K s0 HT.out.len _ _)
     have HSS := Lib.hid (show ∀ k, (S k ∧ k < w.heap.size) → 2 + 1 ≤ k from fun k hk => HS.out k hk.1)
     have HSZ := Lib.hid (show w.heap.size ≤ W3.heap.size from HB3.out.size)
     have HNU := Lib.hid (show ∀ k, (∃ e ∈ E, Z e.2 k) → k ≠ B + 1 from fun k e => by have a1 := (HU.out k e).1; have a2 := EB.out; omega)
     have HBL := Lib.hid (show B + 1 < W3.heap.size from H23.out.lt)
     have hS0 : Kept (fun k => (∃ e ∈ E, Z e.2 k) ∨ k = B + 1) W3 W3.drew := (Kept.refl _ _).drew
     clear hidn hlk0 hqE
     refine wp_region_noPanic ?_
     refine wp_region_held_drew (S := (fun v => Kept (fun k => (∃ e ∈ E, Z e.2 k) ∨ k = B + 1) W3 v)) (by kernel_rfl) hS0 (fun hH0 => ?_)
     apply tk 0 (v := _) rfl (Or.inl ⟨by kernel_rfl, ?hv⟩) hH0 ?_
     case hv => intro w' hS; have z0 := (HSV.out w' hS).1; have z1 := (HSV.out w' hS).2.1; go_simp; try exact rfl
     simp only [Act.put, qa]
     apply tk 1 (v := _) rfl (Or.inl ⟨by kernel_rfl, ?hv⟩) hH0 ?_
     case hv => intro w' hS; have z0 := (HSV.out w' hS).1; have z1 := (HSV.out w' hS).2.1; go_simp; try exact rfl
     simp only [Act.put, qa]
     apply tk 2 (v := _) rfl (Or.inl ⟨by kernel_rfl, ?hv⟩) hH0 ?_
     case hv => intro w' hS; have z0 := (HSV.out w' hS).1; have z1 := (HSV.out w' hS).2.1; go_simp; try exact rfl
     simp only [Act.put, qa]
     apply tk 3 (v := _) rfl (Or.inl ⟨by kernel_rfl, ?hv⟩) hH0 ?_
     case hv => intro w' hS; have z0 := (HSV.out w' hS).1; have z1 := (HSV.out w' hS).2.1; go_simp; try exact rfl
     simp only [Act.put, qa]
     apply tk 4 (v := _) rfl (Or.inl ⟨by kernel_rfl, ?hv⟩) hH0 ?_
     case hv => intro w' hS; have z0 := (HSV.out w' hS).1; have z1 := (HSV.out w' hS).2.1; go_simp; try exact rfl
     simp only [Act.put, qa]
     refine tk 5 (v := (.agg LI.toArray)) rfl (yieldsIf_load_mid (by kernel_rfl) 27 (.tmp 33) rfl B 0 rfl LI _ (fun w' h => (HSV.out _ h).2.2.2) Tryz.underlying27 rfl SZI.out) hH0 ?_
     simp only [Act.put, qa]
     apply tk 6 (v := _) rfl (Or.inl ⟨by kernel_rfl, ?hv⟩) hH0 ?_
     case hv => intro w' hS; have z0 := (HSV.out w' hS).1; have z1 := (HSV.out w' hS).2.1; go_simp; try exact rfl
     simp only [Act.put, qa]
     refine tk 7 (v := (.agg LC.toArray)) rfl (yieldsIf_load_mid (by kernel_rfl) 32 (.tmp 3) rfl B 0 rfl LC _ (fun w' h => (HSV.out _ h).2.2.1) Tryz.underlying32 rfl SZCL.out) hH0 ?_
     simp only [Act.put, qa]
     apply tk 10 (v := _) rfl (Or.inl ⟨by kernel_rfl, ?hv⟩) hH0 ?_
     case hv => intro w' hS; have z0 := (HSV.out w' hS).1; have z1 := (HSV.out w' hS).2.1; go_simp; try exact rfl
     simp only [Act.put, qa]
     apply tk 12 (v := _) rfl (Or.inl ⟨by kernel_rfl, ?hv⟩) hH0 ?_
     case hv => intro w' hS; have z0 := (HSV.out w' hS).1; have z1 := (HSV.out w' hS).2.1; go_simp; try exact rfl
     simp only [Act.put, qa]
     refine tk 13 (v := (.agg LI.toArray)) rfl (yieldsIf_load_mid (by kernel_rfl) 27 (.tmp 41) rfl B 0 rfl LI _ (fun w' h => (HSV.out _ h).2.2.2) Tryz.underlying27 rfl SZI.out) hH0 ?_
     simp only [Act.put, qa]
     refine wpAnyH_ready (rs := [8]) (by kernel_rfl) (by simp) ?_
     refine AllReadyH.cons rfl (fun KK hKK => ?_) AllReadyH.nil
     go_simp
     have hky := lfKey_is K s0 W3.drew (HTU.out _ hH0) l HL.out
     unfold arr at hky
     rw [← ELC.out, ← EKL.out] at hky
     refine hky.mono ?_
     rintro _ xk ⟨rfl, hbk⟩
     have hs8 : Kept (fun k => (∃ e ∈ E, Z e.2 k) ∨ k = B + 1) W3 xk := Kept.trans hH0 (Kept.of_below hbk)
     replace hcm := hcm.quiet hbk
     replace hz := hz.below hbk hz.lt
     clear hky hbk
     refine Shut.out hKK _ _ hs8 (fun hH1 => ?_)
     clear hKK KK
     try simp only [Act.put, qa]
     refine wpAnyH_ready (rs := [9]) (by kernel_rfl) (by simp) ?_
     refine AllReadyH.cons rfl (fun KK hKK => ?_) AllReadyH.nil
     go_simp
     have hmk := mkProof_is K s0 (Z qg) xk (HTU.out _ hH1) qg (lowT K s0 ls l.id) (hcm.trees _ HE.out) (hcm.low _ HE.out) (keyK K s0 l) HKH.out
     unfold arr at hmk
     rw [← EKL.out] at hmk
     refine hmk.mono ?_
     rintro _ xm ⟨bb, pa, pn, pc, rfl, hmd⟩
     have hs9 : Kept (fun k => (∃ e ∈ E, Z e.2 k) ∨ k = B + 1) W3 xm := Kept.trans hH1 (hmd.kept.mono (fun k _ e => .inl ⟨_, HE.out, e⟩))
     replace hcm := hcm.root HE.out hmd.tr hmd.kept
     replace hz := hz.kept hmd.kept (fun e => HNU.out _ ⟨_, HE.out, e⟩ rfl)
     obtain ⟨p, hpb, hpa, hpn, hpc, hof⟩ := made_of hmd
     subst hpb hpa hpn hpc
     have HOFP := Lib.hid (hof.more (show W3.heap.size ≤ xk.heap.size from Kept.size hH1))
     have HXM := Lib.hid (show w.heap.size ≤ xm.heap.size ∧ W3.heap.size ≤ xm.heap.size from ⟨Nat.le_trans HSZ.out hs9.size, hs9.size⟩)
     have hkx : Kept (fun k => (∃ e ∈ E, Z e.2 k) ∨ xm.heap.size ≤ k) xm xm := Kept.refl _ _
     clear hmk hmd hof
     refine Shut.out hKK _ _ hs9 (fun hH2 => ?_)
     clear hKK KK
     try simp only [Act.put, qa]
     refine wpAnyH_ready (rs := [11]) (by kernel_rfl) (by simp) ?_
     refine AllReadyH.cons rfl (fun KK hKK => ?_) AllReadyH.nil
     go_simp
     refine (coAll_at hcm (HTU.out _ hH2) HSS.out).mono ?_
     rintro _ xl ⟨ga, T, Za, rfl, hperm, hta, hza, hlo, hcl, hkl⟩
     have hs11 : Kept (fun k => (∃ e ∈ E, Z e.2 k) ∨ k = B + 1) W3 xl := Kept.trans hH2 (hkl.mono (fun k _ e => .inl e))
     replace hcm := hcl
     replace hz := hz.kept hkl (fun e => HNU.out _ e rfl)
     replace hkx := hkx.trans (hkl.mono (fun k _ e => .inl e))
     have HXL := Lib.hid hs11.size
     clear hcl hkl
     refine Shut.out hKK _ _ hs11 (fun hH3 => ?_)
     clear hKK KK
     try simp only [Act.put, qa]
     refine wpAnyH_ready (rs := [14]) (by kernel_rfl) (by simp) ?_
     refine AllReadyH.cons rfl (fun KK hKK => ?_) AllReadyH.nil
     go_simp
     have hmk := mkProof_is K s0 Za xl (HTU.out _ hH3) ga T hta hlo l.id HL.out.id
     unfold arr at hmk
     rw [← ELI.out] at hmk
     refine hmk.mono ?_
     rintro _ xn ⟨bb, pa, pn, pc, rfl, hmd⟩
     have hs14 : Kept (fun k => (∃ e ∈ E, Z e.2 k) ∨ k = B + 1) W3 xn := Kept.step hH3 hmd.kept (fun k e => .inr (Nat.le_trans HXM.out.2 (hza k e)))
     replace hcm := hcm.kept hmd.kept (fun k _ e1 e2 => by have a1 := hza k e2; have a2 := e1.2; have a3 := HXM.out.1; omega)
     replace hz := hz.kept hmd.kept (fun e => by have a1 := hza _ e; have a2 := HXM.out.2; have a3 := HBL.out; omega)
     replace hkx := hkx.trans (hmd.kept.mono (fun k _ e => .inr (hza k e)))
     obtain ⟨q, hqb, hqa, hqn, hqc, hof⟩ := made_of hmd
     subst hqb hqa hqn hqc
     have HOFQ := Lib.hid (hof.more (show W3.heap.size ≤ xl.heap.size from Kept.size hH3))
     have HPERM := Lib.hid hperm
     clear hmk hmd hof hta hza hlo hperm
     refine Shut.out hKK _ _ hs14 (fun hH4 => ?_)
     clear hKK KK
     try simp only [Act.put, qa]
     refine tk 15 (v := (.agg (waysC p q).toArray)) rfl (yieldsIf_build (by kernel_rfl) 41 #[(0, .tmp 38), (1, .tmp 43)] rfl #[(0, .agg p.cells.toArray), (1, .agg q.cells.toArray)] (by kernel_rfl) _ (fun w' _ => build_ways p q HOFP.out.at_.hash HOFQ.out.at_.hash w')) hH4 ?_
     simp only [Act.put, qa]
     refine wpAnyH_ready (rs := [16]) (by kernel_rfl) (by simp) ?_
     refine AllReadyH.cons rfl (fun KK hKK => ?_) AllReadyH.nil
     refine step_store_mid rfl 41 (.tmp 4) (.tmp 44) rfl (B + 1) 0 (waysC p q).toArray rfl rfl (hz.there 0 _ (by rw [List.size_toArray, (SZW.out p q HOFP.out.at_.hash HOFQ.out.at_.hash).2]; exact Nat.le_of_eq (Nat.zero_add _))) (SZW.out p q HOFP.out.at_.hash HOFQ.out.at_.hash).1 (waysC_one p q) ?_
     have hset := set_box (B := 0) (W := xn) ⟨rfl, rfl, rfl, Nat.le_refl _, fun k hk => absurd hk (Nat.not_lt_zero k)⟩ hz (Nat.zero_le _) (Nat.zero_le _) (SZW.out p q HOFP.out.at_.hash HOFQ.out.at_.hash).2
     obtain ⟨xb, hxb⟩ : ∃ y, y = xn.setCells (B + 1) 0 (waysC p q) := ⟨_, rfl⟩
     rw [← hxb] at hset
     change KK _ (xn.setCells (B + 1) 0 (waysC p q))
     rw [← hxb]
     have hs16 : Kept (fun k => (∃ e ∈ E, Z e.2 k) ∨ k = B + 1) W3 xb := Kept.trans hH4 (hset.2.2.mono (fun k _ e => .inr e))
     clear hxb
     refine Shut.out hKK _ _ hs16 (fun hH5 => ?_)
     clear hKK KK
     try simp only [Act.put, qa]
     apply tk 17 (v := _) rfl (Or.inl ⟨by kernel_rfl, ?hv⟩) hH5 ?_
     case hv => intro w' hS; have z0 := (HSV.out w' hS).1; have z1 := (HSV.out w' hS).2.1; go_simp; try exact rfl
     simp only [Act.put, qa]
     refine wpAnyH_done (by kernel_rfl) ?_ _
     refine NoPanic.normal ?_
     have hk5 : Kept (fun k => k = B + 1) xn xb := hset.2.2
     have hfin : ProveP K s0 S w g ls m0 m1 E Z l (.returned (.tuple #[.agg (waysC p q).toArray, .int .i64 0])) xb := by
       have a0 := EB.out
       have a1 := HSZ.out
       have a2 := HBL.out
       refine ⟨(hcm.kept hk5 (fun k _ e1 e2 => by have a3 := e1.2; have a4 : k = B + 1 := e2; omega)).zoneS (fun k _ e => e.1), ((Kept.of_below HB3.out).step hs16 (fun k e => ?_)), .inl ⟨HIN.out, p, q, T, rfl, ?_, HPERM.out, ?_⟩⟩
       · rcases e with e | e
         · exact .inl e
         · exact .inr (by omega)
       · refine ((HOFP.out.kept2 hkx (fun k e => ?_)).kept2 hk5 (fun k e => .inl (by have a4 : k = B + 1 := e; omega))).more a1
         rcases e with e | e
         · exact .inl (by have a3 := (HU.out k e).1; omega)
         · exact .inr e
       · exact (HOFQ.out.kept2 hk5 (fun k e => .inl (by have a4 : k = B + 1 := e; omega))).more a1
     have HFIN := Lib.hid hfin
     have HRES := Lib.hid hset.2.1
     have SZF := Lib.hid (SZW.out p q HOFP.out.at_.hash HOFQ.out.at_.hash).1
     clear hfin hset hs8 hs9 hs11 hs14 hs16 hS0 hcm hz hkx hk5
     go_wp2_with fail
     refine bodyPost_ret (results_cell_tmp rfl _ _ (B + 1) 41 (waysC p q).toArray (0, 0) _ rfl rfl HRES.out Tryz.underlying41 SZF.out) rfl ?_
     exact HFIN.out
end Go.Proofs.YtknfbccbdiidjaaGreatDoor

