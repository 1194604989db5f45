/- The walk of Prove. -/
import Derived.Test.YtknfbccbdiidjaaGreatDoorWu
import Derived.Test.YtknfbccbdiidjaaGreatDoorPCo9
import Derived.Test.YtknfbccbdiidjaaGreatDoorPLb2
import Derived.Test.YtknfbccbdiidjaaGreatDoorPTree1
import Derived.Test.YtknfbccbdiidjaaGreatDoorPTv1
namespace Go.Proofs.YtknfbccbdiidjaaGreatDoor
set_option linter.unusedVariables false
set_option linter.unusedSimpArgs false
open Go.ChangeShapes Go.WideShapes Go.ChangeAt Go.RowKit Go.Maps

structure Pf.Of (p : Pf) (K s0 : List Wd) (T : List Lf) (key : List Nat) (N : Nat) (w : World) : Prop where
 at_ : p.At w
 bits : ∀ h, h < 256 → bareB p.b h = bareF K s0 (besF K s0 T key) h
 nodes : p.xs = nodesF K s0 (besF K s0 T key) 256
 new : 0 < p.n → ∀ A, p.a = some A → N ≤ A.block
 cap : p.n ≤ p.c
theorem NodesAt.keptN {S : Nat → Prop} {w w' : World} {a : Option Addr} {n : Nat} {xs : List Nd} (h : NodesAt w a n xs) (hk : Kept S w w') (hs : 0 < n → ∀ A, a = some A → ¬ S A.block) : NodesAt w' a n xs := by
 rcases Nat.eq_zero_or_pos n with e | e
 · subst e
   have : xs = [] := List.eq_nil_of_length_eq_zero h.len
   rw [this]
   exact nodes_nil w' a
 · exact h.kept hk (hs e)
theorem Pf.Of.kept {p : Pf} {K s0 : List Wd} {T : List Lf} {key : List Nat} {N : Nat} {w w' : World} {S : Nat → Prop} (h : p.Of K s0 T key N w) (hk : Kept S w w') (hs : ∀ k, S k → k < N) : p.Of K s0 T key N w' :=
 ⟨⟨h.at_.hash, h.at_.nodes.keptN hk (fun h0 A hA e => by have a1 := h.new h0 A hA; have a2 := hs _ e; omega), h.at_.cap⟩, h.bits, h.nodes, h.new, h.cap⟩
theorem Pf.Of.kept2 {p : Pf} {K s0 : List Wd} {T : List Lf} {key : List Nat} {N : Nat} {w w' : World} {S : Nat → Prop} (h : p.Of K s0 T key N w) (hk : Kept S w w') (hs : ∀ k, S k → k < N ∨ w.heap.size ≤ k) : p.Of K s0 T key N w' :=
 ⟨⟨h.at_.hash, h.at_.nodes.keptN hk (fun h0 A hA e => by
  have a1 := h.new h0 A hA
  obtain ⟨b, o, e1, hlt, _⟩ := h.at_.nodes.at_ h0
  rw [hA] at e1
  injection e1 with e1
  have a3 : A.block = b := by rw [e1]
  rcases hs _ e with a2 | a2 <;> omega), h.at_.cap⟩, h.bits, h.nodes, h.new, h.cap⟩
theorem Pf.Of.more {p : Pf} {K s0 : List Wd} {T : List Lf} {key : List Nat} {N N' : Nat} {w : World} (h : p.Of K s0 T key N w) (hn : N' ≤ N) : p.Of K s0 T key N' w := ⟨h.at_, h.bits, h.nodes, fun h0 A hA => Nat.le_trans hn (h.new h0 A hA), h.cap⟩
theorem Pf.Of.below {p : Pf} {K s0 : List Wd} {T : List Lf} {key : List Nat} {N : Nat} {w w' : World} (h : p.Of K s0 T key N w) (hb : Below w.heap.size w w') : p.Of K s0 T key N w' := ⟨h.at_.below hb, h.bits, h.nodes, h.new, h.cap⟩
theorem made_of {K s0 : List Wd} {S : Nat → Prop} {w w' : World} {g : Nat} {T : List Lf} {key bb : List Nat} {a : Option Addr} {n c : Nat} (h : Made K s0 S w g T key bb a n c w') : ∃ p : Pf, p.b = bb ∧ p.a = a ∧ p.n = n ∧ p.c = c ∧ p.Of K s0 T key w.heap.size w' := by
 obtain ⟨X, hX⟩ : ∃ X, X = nodesF K s0 (besF K s0 T key) 256 := ⟨_, rfl⟩
 have hn := h.nodes
 rw [← hX] at hn
 have hl : X.length ≤ 256 := by rw [hX]; exact nodesF_len 256
 have Aa : n ≤ 1000000 := by have := hn.len; omega
 exact ⟨⟨bb, a, n, c, X⟩, rfl, rfl, rfl, rfl, ⟨h.hash, hn, Aa⟩, h.bits, hX, h.new, h.cap⟩
section
variable {K s0 : List Wd} {S : Nat → Prop} {w w' : World} {g m0 m1 : Nat} {ls : List LeafT} {E : List (List Nat × Nat)} {Z : Nat → Nat → Prop}
def ProveP (K s0 : List Wd) (S : Nat → Prop) (w : World) (g : Nat) (ls : List LeafT) (m0 m1 : Nat) (E : List (List Nat × Nat)) (Z : Nat → Nat → Prop) (l : LeafT) (e : Ending) (w' : World) : Prop :=
 CmAt K s0 S w' g ls m0 m1 E Z ∧ Kept (fun k => ∃ e ∈ E, Z e.2 k) w w' ∧ ((l ∈ ls ∧ ∃ p q T, e = .returned (.tuple #[.agg (waysC p q).toArray, .int .i64 0]) ∧ p.Of K s0 (lowT K s0 ls l.id) (keyK K s0 l) w.heap.size w' ∧ T.Perm (topT K s0 ls) ∧ q.Of K s0 T l.id w.heap.size w') ∨
  (l ∉ ls ∧ ∃ p q : Pf, e = .returned (.tuple #[.agg (waysC p q).toArray, .int .i64 5]) ∧ p.xs = [] ∧ q.xs = [] ∧ p.At w' ∧ q.At w'))
def zPf : Pf := ⟨List.replicate 32 0, none, 0, 0, []⟩
theorem zPf_at (w : World) : zPf.At w := ⟨⟨rfl, fun k hk => by rw [List.eq_of_mem_replicate hk]; decide⟩, nodes_nil w none, by decide⟩
theorem zero_ways : ∃ Z : Array Value, (∀ w, (zeroValue 41).run Tryz.prog w = .ok (.agg Z) w) ∧ (∀ w, (Instr.build 41 #[]).run Tryz.prog w = .ok (.agg (waysC zPf zPf).toArray) w) ∧ Z.size = 66 ∧ ¬ Z = #[] := by
 have hs : (waysC zPf zPf).toArray.size = 66 := by kernel_rfl
 exact ⟨(waysC zPf zPf).toArray, fun w => by kernel_rfl, fun w => by kernel_rfl, hs, fun e => by rw [e] at hs; cases hs⟩
theorem build_ways (p q : Pf) (hp : IsHash p.b) (hq : IsHash q.b) (w : World) : (Instr.build 41 #[(0, .agg p.cells.toArray), (1, .agg q.cells.toArray)]).run Tryz.prog w = .ok (.agg (waysC p q).toArray) w := by
 obtain ⟨pb, pa, pn, pc, px⟩ := p
 obtain ⟨qb, qa, qn, qc, qx⟩ := q
 have h1 : pb.length = 32 := hp.1
 have h2 : qb.length = 32 := hq.1
 clear hp hq
 obtain ⟨d0, d1, d2, d3, d4, d5, d6, d7, d8, d9, d10, d11, d12, d13, d14, d15, d16, d17, d18, d19, d20, d21, d22, d23, d24, d25, d26, d27, d28, d29, d30, d31, rfl⟩ := thirty_two pb h1
 obtain ⟨e0, e1, e2, e3, e4, e5, e6, e7, e8, e9, e10, e11, e12, e13, e14, e15, e16, e17, e18, e19, e20, e21, e22, e23, e24, e25, e26, e27, e28, e29, e30, e31, rfl⟩ := thirty_two qb h2
 exact run_build w 41 _ _ (by kernel_rfl)
theorem wpList_neq_run {P : Program} {ops : Array Oper} {Q : Exit → Act → World → Prop} {a : Act} {w : World} {rest : List Oper} {o : Oper} (hw : Region.wanted o (yielded ops a.tmps) = true) (t t2 : TypeId) (x y : Operand) (ho : o.op = .binOp .neq t x y t2)
  (u v : Value) (hx : a.eval x = u) (hy : a.eval y = v) (b : Bool) (hrun : (binOp .neq t u v).run P w = .ok (.bool b) w) (hg : (eqGuard .neq t x y u v).run P w = .ok () w) (h : wpList P ops Q rest (a.put o.dst (.bool b)) w) : wpList P ops Q (o :: rest) a w := by
 refine BigFrame.wpList_want hw fun K hK => ?_
 unfold Oper.wp
 simp only [execOp, ho, hx, hy, Sem.run_bind, hg, hrun, Result.andThen_ok, Sem.run_pure]
 exact hK _ _ h
theorem boxes_prv (w : World) (LC : List Value) (Z : Array Value) : ∃ W1, W1 = (((w.alloc (.cells LC.toArray 32))).alloc (.cells Z 41)) ∧
   Has W1 (w.heap.size) 32 LC.toArray ∧ Has W1 (w.heap.size + 1) 41 Z ∧ Below w.heap.size w W1 := by
 refine ⟨_, rfl, ?_, ?_, ?_⟩
 · have := Has.new w 32 LC.toArray
   exact (this).alloc _
 · have := Has.new (w.alloc (.cells LC.toArray 32)) 41 Z
   exact (by simpa using this : Has _ (w.heap.size + 1) _ _)
 · exact ((Below.refl _ _).alloc (Nat.le_refl _) _).alloc (by simp) _
set_option maxRecDepth 100000 in
set_option maxHeartbeats 16000000 in
theorem coProve_at (h : CmAt K s0 S w g ls m0 m1 E Z) (hT : Tabs K s0 w) (hS : ∀ k, S k → 2 + 1 ≤ k) (l : LeafT) (hl : l.ok) :
  Calls Tryz.prog 33 #[.pointer (some ⟨g, 0, none⟩), .agg l.cells.toArray] w (ProveP K s0 S w g ls m0 m1 E Z l) := by
 obtain ⟨zw, hzw, hbw, A1, hzwn⟩ := zero_ways
 obtain ⟨zl, hzl, -, A0, hzln, hzle'⟩ := zero_leafT
 have Bd := Hh hzle'
 clear hzle'
 obtain ⟨LC, hLC⟩ : ∃ L, L = l.cells := ⟨_, rfl⟩
 obtain ⟨KL, hKL⟩ : ∃ L, L = bcells (keyK K s0 l) := ⟨_, rfl⟩
 obtain ⟨LI, hLI⟩ : ∃ L, L = bcells l.id := ⟨_, rfl⟩
 obtain ⟨LZ, hLZ⟩ : ∃ L, L = waysC zPf zPf := ⟨_, rfl⟩
 rw [← hLC]
 rw [← hLZ] at hbw
 have hkh : IsHash (keyK K s0 l) := tagD_hash K s0 hT.len _ _
 have Ai := Hh (show (Tryz.prog.info? 32).map (·.size) = some LC.length by rw [hLC, LeafT.len hl]; kernel_rfl)
 have Bs := Hh (show (Tryz.prog.info? 27).map (·.size) = some LI.length by rw [hLI, bcells_length, hl.id.1]; kernel_rfl)
 have Au := Hh (show ∀ p q : Pf, IsHash p.b → IsHash q.b → (Tryz.prog.info? 41).map (·.size) = some (waysC p q).toArray.size ∧ zw.size = (waysC p q).length from fun p q hp hq => ⟨by rw [List.size_toArray, waysC_len hp hq]; kernel_rfl, by rw [A1, waysC_len hp hq]⟩)
 have Bh := Hh hbw
 have Ah := Hh A0
 have A3 := Hh hLC
 have A2 := Hh hKL
 have A5 := Hh hLI
 have Be := Hh hLZ
 have HL := Hh hl
 have H := Hh h
 have HS := Hh hS
 have HT := Hh hT
 have Br := Hh (show ∀ v, Below w.heap.size w v → Tabs K s0 v from fun v hv => hT.below hv hT.low)
 obtain ⟨XL, kn, hXL, hXok, hLK1, hkn⟩ : ∃ (x : LeafT) (kn : Bool), x.cells.length = 99 ∧ x.ok ∧ (∀ v, Below w.heap.size w v → (Instr.lookup 99 (.map (some m1)) (.agg KL.toArray) true).run Tryz.prog v = .ok (.tuple #[.agg x.cells.toArray, .bool kn]) v) ∧ ((kn = true ∧ (x = l ↔ l ∈ ls)) ∨ (kn = false ∧ l ∉ ls)) := by
  have hlk : ∀ v, Below w.heap.size w v → (Instr.lookup 99 (.map (some m1)) (.agg KL.toArray) true).run Tryz.prog v = .ok (.tuple #[(look (ls.map (entL K s0)) (keyK K s0 l)).getD (.agg zl), .bool (look (ls.map (entL K s0)) (keyK K s0 l)).isSome]) v := fun v hv => by
    rw [hKL]
    exact lookup_ok_is (T := 99) Tryz.underlying99 hzl (h.quiet hv).map1 hkh
  rcases look_key h.fine.keys (keyK K s0 l) with ⟨o, ho, he, hlo⟩ | ⟨hne, hlo⟩
  · rw [hlo] at hlk
    exact ⟨o, true, LeafT.len (h.fine.ok o ho), h.fine.ok o ho, hlk, .inl ⟨rfl, fun e => by rw [← e]; exact ho, fun e => key_inj h.fine.keys ho e he⟩⟩
  · rw [hlo] at hlk
    have hz : LeafT.ok ⟨List.replicate 32 0, 0, List.replicate 32 0, 0, zNd⟩ := ⟨⟨rfl, fun k hk => by rw [List.eq_of_mem_replicate hk]; decide⟩, by decide, ⟨rfl, fun k hk => by rw [List.eq_of_mem_replicate hk]; decide⟩, by decide, by decide, zNd_hash, by decide⟩
    refine ⟨⟨List.replicate 32 0, 0, List.replicate 32 0, 0, zNd⟩, false, LeafT.len hz, hz, ?_, .inr ⟨rfl, fun e => hne (List.mem_map.2 ⟨l, e, rfl⟩)⟩⟩
    rw [← Bd.o]
    exact hlk
 have Bl := Hh hkn
 obtain ⟨XC, hXC⟩ : ∃ L, L = XL.cells := ⟨_, rfl⟩
 have Ab := Hh (show XC.length = 99 by rw [hXC]; exact hXL)
 have X1 := Hh (show XC.toArray.all (·.oneCell') = true by rw [hXC]; exact LeafT.one XL)
 have Bt := Hh (show ∀ v, (Op.equalIn 10000 32 (.agg XC.toArray) (.agg LC.toArray)).run Tryz.prog v = .ok (decide (XL = l)) v from fun v => by rw [hXC, hLC]; exact le_eq XL l hXok hl v)
 have Bv := Hh (show ∀ v, Below w.heap.size w v → v.cell? ⟨g, 1, none⟩ = some (.map (some m1)) ∧ (Instr.lookup 99 (.map (some m1)) (.agg KL.toArray) true).run Tryz.prog v = .ok (.tuple #[.agg XC.toArray, .bool kn]) v from fun v hv => ⟨(h.quiet hv).cells.2.1, by rw [hXC]; exact hLK1 v hv⟩)
 obtain ⟨W1, hW1, h1, h2, hb1⟩ := boxes_prv w LC zw
 have EW := Hh hW1
 have H1 := Hh h1
 have H2 := Hh h2
 have Am := Hh hb1
 clear h hT hS hl hLC hKL hLI hLZ hkh A1 hbw A0 hXL hXok hLK1 hkn hXC hW1 h1 h2 hb1
 go_enter Tryz.func33, Tryz.ntmps33
 go_upto_region 1 with (fail)
 rw [← EW.o]
 obtain ⟨B, hB⟩ : ∃ y, y = w.heap.size := ⟨_, rfl⟩
 rw [← hB] at H1 H2 ⊢
 have EB := Hh hB
 clear hB EW
 go_upto_region 3 with (fail)
 go_cut [6, 7] from 8 (fun v6 v7 wx => ∃ G6, v6 = .pointer (some ⟨G6, 0, none⟩) ∧ v7 = .bool kn ∧ Has wx G6 32 XC.toArray ∧ Below W1.heap.size W1 wx)
 case first =>
  have hS0 : Below W1.heap.size W1 W1.drew := (Below.refl _ _).drew
  have Bx := Hh (show ∀ v, Below W1.heap.size W1 v → v.rangeAt B 0 LC from fun v hv => (H1.o.below hv H1.o.lt).row0)
  have Aj := Hh (show ∀ v, Below W1.heap.size W1 v → v.cell? ⟨g, 1, none⟩ = some (.map (some m1)) ∧ (Instr.lookup 99 (.map (some m1)) (.agg KL.toArray) true).run Tryz.prog v = .ok (.tuple #[.agg XC.toArray, .bool kn]) v from fun v hv => Bv.o v (Am.o.trans (hv.mono Am.o.size)))
  have Bq := Hh (show ∀ v, Below W1.heap.size W1 v → Tabs K s0 v from fun v hv => Br.o v (Am.o.trans (hv.mono Am.o.size)))
  refine wp_region_noPanic ?_
  refine wp_region_held_drew (S := (fun v => Below W1.heap.size W1 v)) (by kernel_rfl) hS0 (fun hH0 => ?_)
  apply tl 0 rfl ?hv hH0 ?_
  case hv => intro w' hS; go_simp; try rfl
  simp only [qc]
  apply tl 1 rfl ?hv hH0 ?_
  case hv => intro w' hS; have z0 := (Aj.o w' hS).1; have z1 := (Aj.o w' hS).2; go_simp; try rfl
  simp only [qc]
  apply tl 2 rfl ?hv hH0 ?_
  case hv => intro w' hS; go_simp; try rfl
  simp only [qc]
  apply tl 3 rfl ?hv hH0 ?_
  case hv => intro w' hS; have z0 := (Aj.o w' hS).1; have z1 := (Aj.o w' hS).2; go_simp; try rfl
  simp only [qc]
  refine tk 4 (v := (.agg LC.toArray)) rfl (yieldsIf_load_mid (by kernel_rfl) 32 (.tmp 3) rfl B 0 rfl LC _ (fun w' h => (Bx.o _ h)) Tryz.underlying32 rfl Ai.o) hH0 ?_
  simp only [qc]
  refine rdy [5, 10] (AllReadyH.cons rfl (fun KK hKK => ?_) (ar1 rfl fun KK hKK => ?_))
  · go_simp
    have hky := lfKey_is K s0 W1.drew (Bq.o _ hH0) l HL.o
    unfold arr at hky
    rw [← A3.o, ← A2.o] at hky
    refine hky.mono ?_
    rintro _ xk ⟨rfl, hbk⟩
    have hs5 : Below W1.heap.size W1 xk := Below.trans hH0 (hbk.mono hH0.size)
    try replace hz9 := hz9.below hbk hz9.lt
    clear hky hbk
    refine hKK _ _ hs5 fun hH1 => ?_
    clear hKK KK
    try simp only [qc]
    apply tl 6 rfl ?hv hH1 ?_
    case hv => intro w' hS; have z0 := (Aj.o w' hS).1; have z1 := (Aj.o w' hS).2; go_simp; try rfl
    simp only [qc]
    apply tl 7 rfl ?hv hH1 ?_
    case hv => intro w' hS; go_simp; try rfl
    simp only [qc]
    apply tl 8 rfl ?hv hH1 ?_
    case hv => intro w' hS; go_simp; try rfl
    simp only [qc]
    apply tl 9 rfl ?hv hH1 ?_
    case hv => intro w' hS; go_simp; try rfl
    simp only [qc]
    refine rdy [10] (ar1 rfl fun KK hKK => ?_)
    go_simp
    obtain ⟨xa, hxa⟩ : ∃ y, y = xk.alloc (.cells zl 32) := ⟨_, rfl⟩
    have Af : Below xk.heap.size xk xa := by rw [hxa]; exact (Below.refl _ _).alloc (Nat.le_refl _) _
    have Aq : Below W1.heap.size W1 xa := Below.trans hH1 (Af.mono hH1.size)
    have hz9 : Has xa xk.heap.size 32 zl := by rw [hxa]; exact Has.new _ _ _
    have hg9 : W1.heap.size ≤ xk.heap.size := hH1.size
    first | rw [← hxa] | (change KK _ (xk.alloc (.cells zl 32)); rw [← hxa])
    obtain ⟨G9, hG9⟩ : ∃ y, y = xk.heap.size := ⟨_, rfl⟩
    first | rw [← hG9] | (have hq : W1.heap.size = G9 := hG9.symm; rw [hq]; clear hq)
    rw [← hG9] at hz9 hg9
    clear hG9
    clear hxa Af
    refine hKK _ _ Aq fun hH2 => ?_
    clear hKK KK
    try simp only [qc]
    refine rdy [11] (ar1 rfl fun KK hKK => ?_)
    refine step_store_mid rfl 32 (.tmp 6) (.tmp 19) rfl G9 0 XC.toArray rfl rfl (hz9.there 0 _ (by rw [List.size_toArray, Ah.o, Ab.o]; exact Nat.le_refl _)) (by rw [List.size_toArray, Ab.o]; kernel_rfl) X1.o ?_
    have Aa := set_box hH2 hz9 hg9 (Below.size hH2) (by rw [Ah.o, Ab.o])
    obtain ⟨xb, hxb⟩ : ∃ y, y = xa.setCells G9 0 XC := ⟨_, rfl⟩
    rw [← hxb] at Aa
    change KK _ (xa.setCells G9 0 XC)
    rw [← hxb]
    have Ac := Aa.1
    clear hxb
    refine hKK _ _ Ac fun hH3 => ?_
    clear hKK KK
    try simp only [qc]
    apply tl 12 rfl ?hv hH3 ?_
    case hv => intro w' hS; go_simp; try rfl
    simp only [qc]
    refine wpAnyH_done (by kernel_rfl) ?_ _
    refine NoPanic.normal ?_
    have HG := Hh Aa.2.1
    have HS := Hh Ac
    clear Aa Ac
    go_wp2_with fail
    go_meet
    case rel => exact ⟨G9, rfl, rfl, HG.o, HS.o⟩
  · go_simp
    obtain ⟨xa, hxa⟩ : ∃ y, y = W1.drew.alloc (.cells zl 32) := ⟨_, rfl⟩
    have Af : Below W1.drew.heap.size W1.drew xa := by rw [hxa]; exact (Below.refl _ _).alloc (Nat.le_refl _) _
    have Aq : Below W1.heap.size W1 xa := Below.trans hH0 (Af.mono hH0.size)
    have hz9 : Has xa W1.drew.heap.size 32 zl := by rw [hxa]; exact Has.new _ _ _
    have hg9 : W1.heap.size ≤ W1.drew.heap.size := hH0.size
    first | rw [← hxa] | (change KK _ (W1.drew.alloc (.cells zl 32)); rw [← hxa])
    obtain ⟨G9, hG9⟩ : ∃ y, y = W1.drew.heap.size := ⟨_, rfl⟩
    first | rw [← hG9] | (have hq : W1.heap.size = G9 := hG9.symm; rw [hq]; clear hq)
    rw [← hG9] at hz9 hg9
    clear hG9
    clear hxa Af
    refine hKK _ _ Aq fun hH1 => ?_
    clear hKK KK
    try simp only [qc]
    refine rdy [5] (ar1 rfl fun KK hKK => ?_)
    go_simp
    have hky := lfKey_is K s0 xa (Bq.o _ hH1) l HL.o
    unfold arr at hky
    rw [← A3.o, ← A2.o] at hky
    refine hky.mono ?_
    rintro _ xk ⟨rfl, hbk⟩
    have hs5 : Below W1.heap.size W1 xk := Below.trans hH1 (hbk.mono hH1.size)
    try replace hz9 := hz9.below hbk hz9.lt
    clear hky hbk
    refine hKK _ _ hs5 fun hH2 => ?_
    clear hKK KK
    try simp only [qc]
    apply tl 6 rfl ?hv hH2 ?_
    case hv => intro w' hS; have z0 := (Aj.o w' hS).1; have z1 := (Aj.o w' hS).2; go_simp; try rfl
    simp only [qc]
    apply tl 7 rfl ?hv hH2 ?_
    case hv => intro w' hS; go_simp; try rfl
    simp only [qc]
    apply tl 8 rfl ?hv hH2 ?_
    case hv => intro w' hS; go_simp; try rfl
    simp only [qc]
    apply tl 9 rfl ?hv hH2 ?_
    case hv => intro w' hS; go_simp; try rfl
    simp only [qc]
    refine rdy [11] (ar1 rfl fun KK hKK => ?_)
    refine step_store_mid rfl 32 (.tmp 6) (.tmp 19) rfl G9 0 XC.toArray rfl rfl (hz9.there 0 _ (by rw [List.size_toArray, Ah.o, Ab.o]; exact Nat.le_refl _)) (by rw [List.size_toArray, Ab.o]; kernel_rfl) X1.o ?_
    have Aa := set_box hH2 hz9 hg9 (Below.size hH2) (by rw [Ah.o, Ab.o])
    obtain ⟨xb, hxb⟩ : ∃ y, y = xk.setCells G9 0 XC := ⟨_, rfl⟩
    rw [← hxb] at Aa
    change KK _ (xk.setCells G9 0 XC)
    rw [← hxb]
    have Ac := Aa.1
    clear hxb
    refine hKK _ _ Ac fun hH3 => ?_
    clear hKK KK
    try simp only [qc]
    apply tl 12 rfl ?hv hH3 ?_
    case hv => intro w' hS; go_simp; try rfl
    simp only [qc]
    refine wpAnyH_done (by kernel_rfl) ?_ _
    refine NoPanic.normal ?_
    have HG := Hh Aa.2.1
    have HS := Hh Ac
    clear Aa Ac
    go_wp2_with fail
    go_meet
    case rel => exact ⟨G9, rfl, rfl, HG.o, HS.o⟩
 case rest =>
  obtain ⟨W3, hW3⟩ : ∃ x, x = wc := ⟨_, rfl⟩
  subst hW3
  obtain ⟨G6, rfl, rfl, hg6, hb3⟩ := hcut
  have An := Hh (Am.o.trans (hb3.mono Am.o.size))
  have A6 := Hh (H1.o.below hb3 H1.o.lt)
  have Ar := Hh (H2.o.below hb3 H2.o.lt)
  have Bj := Hh hg6
  clear hg6 hb3 H1 H2 Am
  have hno : l ∉ ls → ∀ v, Has v (B + 1) 41 zw → Below w.heap.size w v → Has (v.setRow (B + 1) LZ.toArray) (B + 1) 41 LZ.toArray ∧ ProveP K s0 S w g ls m0 m1 E Z l (.returned (.tuple #[.agg LZ.toArray, .int .i64 5])) (v.setRow (B + 1) LZ.toArray) := fun hn v hv hb => by
    have hb' : Below w.heap.size w (v.setRow (B + 1) LZ.toArray) := hb.trans ((kept_setRow (g := B + 1) v LZ.toArray).below hb.size (fun j e => by have e' : j = B + 1 := e; have := EB.o; omega))
    refine ⟨hv.setRow, H.o.quiet hb', Kept.of_below hb', .inr ⟨hn, zPf, zPf, by rw [Be.o], rfl, rfl, zPf_at _, zPf_at _⟩⟩
  have Bn := Hh hno
  have Ak := Hh (show (Tryz.prog.info? 41).map (·.size) = some LZ.toArray.size ∧ zw.size = LZ.toArray.size ∧ LZ.toArray.all (·.oneCell') = true by
    rw [Be.o]
    have := Au.o zPf zPf (zPf_at w).hash (zPf_at w).hash
    exact ⟨this.1, by rw [List.size_toArray]; exact this.2, waysC_one _ _⟩)
  clear hno
  cases kn with
  | false =>
    have A8 := Hh (show l ∉ ls by
     rcases Bl.o with ⟨e, _⟩ | ⟨_, e⟩
     · cases e
     · exact e)
    go_wp2_with (first
     | (refine wpList_build_run rfl 41 #[] rfl #[] (by kernel_rfl) (.agg LZ.toArray) (Bh.o _) ?_)
     | (refine wpList_store_row rfl 41 (.tmp 4) (.tmp 28) rfl (B + 1) LZ.toArray rfl rfl 41 zw Ar.o Ak.o.1 Ak.o.2.1 Ak.o.2.2 ?_))
    have HF := Hh (Bn.o A8.o W3 Ar.o An.o)
    refine bodyPost_ret (results_cell_tmp rfl _ _ (B + 1) 41 LZ.toArray (0, 0) _ rfl rfl HF.o.1 Tryz.underlying41 Ak.o.1) rfl ?_
    exact HF.o.2
  | true =>
    obtain ⟨b, hb⟩ : ∃ b, b = decide (XL = l) := ⟨_, rfl⟩
    have Bm := Hh (show ∀ v, (binOp .neq 32 (.agg XC.toArray) (.agg LC.toArray)).run Tryz.prog v = .ok (.bool (!b)) v from fun v => by rw [run_neq_struct, Bt.o, ← hb]; rfl)
    have Bi := Hh (show ∀ v, (eqGuard .neq 32 (.tmp 24) (.tmp 25) (.agg XC.toArray) (.agg LC.toArray)).run Tryz.prog v = .ok () v from fun v => by first | rfl | simp [eqGuard])
    have Bf := Hh (show b = decide (l ∈ ls) by
     rcases Bl.o with ⟨_, e⟩ | ⟨e, _⟩
     · rw [hb, decide_eq_decide]; exact e
     · cases e)
    clear hb
    cases b with
    | false =>
     have A8 := Hh (show l ∉ ls from of_decide_eq_false Bf.o.symm)
     have Ba := Hh Bj.o.row0
     have A9 := Hh A6.o.row0
     have Ao := Hh (show (Tryz.prog.info? 32).map (·.size) = some XC.length by rw [Ab.o]; kernel_rfl)
     go_wp2_with (first
       | (refine wpList_load_midG rfl 32 (.tmp 6) rfl G6 0 rfl XC _ Ba.o Tryz.underlying32 rfl Ao.o ?_)
       | (refine wpList_load_midG rfl 32 (.tmp 3) rfl B 0 rfl LC _ A9.o Tryz.underlying32 rfl Ai.o ?_)
       | (refine wpList_neq_run rfl 32 _ (.tmp 24) (.tmp 25) rfl (.agg XC.toArray) (.agg LC.toArray) rfl rfl true (Bm.o _) (Bi.o _) ?_)
       | (refine wpList_build_run rfl 41 #[] rfl #[] (by kernel_rfl) (.agg LZ.toArray) (Bh.o _) ?_)
       | (refine wpList_store_row rfl 41 (.tmp 4) (.tmp 28) rfl (B + 1) LZ.toArray rfl rfl 41 zw Ar.o Ak.o.1 Ak.o.2.1 Ak.o.2.2 ?_))
     have HF := Hh (Bn.o A8.o W3 Ar.o An.o)
     refine bodyPost_ret (results_cell_tmp rfl _ _ (B + 1) 41 LZ.toArray (0, 0) _ rfl rfl HF.o.1 Tryz.underlying41 Ak.o.1) rfl ?_
     exact HF.o.2
    | true =>
     have Bk := Hh (show l ∈ ls from of_decide_eq_true Bf.o.symm)
     have Ba := Hh Bj.o.row0
     have A9 := Hh A6.o.row0
     have Ao := Hh (show (Tryz.prog.info? 32).map (·.size) = some XC.length by rw [Ab.o]; kernel_rfl)
     go_upto_region 6 with (first
       | (refine wpList_load_midG rfl 32 (.tmp 6) rfl G6 0 rfl XC _ Ba.o Tryz.underlying32 rfl Ao.o ?_)
       | (refine wpList_load_midG rfl 32 (.tmp 3) rfl B 0 rfl LC _ A9.o Tryz.underlying32 rfl Ai.o ?_)
       | (refine wpList_neq_run rfl 32 _ (.tmp 24) (.tmp 25) rfl (.agg XC.toArray) (.agg LC.toArray) rfl rfl false (Bm.o _) (Bi.o _) ?_))
     obtain ⟨qg, hqE⟩ : ∃ qg, (l.id, qg) ∈ E := by
       have h1 : l.id ∈ E.map (·.1) := by rw [H.o.ids]; exact (ids_mem ls l.id).2 ⟨l, Bk.o, rfl⟩
       obtain ⟨e, he, e2⟩ := List.mem_map.1 h1
       exact ⟨e.2, by rw [← e2]; exact he⟩
     have HE := Hh hqE
     have Aw : (E.map (·.1)).Nodup := by rw [H.o.ids]; exact ids_nodup ls
     have hcm : CmAt K s0 (fun k => S k ∧ k < w.heap.size) W3.drew g ls m0 m1 E Z := ((H.o.zoneS (S' := fun k => S k ∧ k < w.heap.size) (fun k h1 h2 => ⟨h2, h1⟩)).quiet An.o.drew)
     have HU := Hh (show ∀ k, (∃ e ∈ E, Z e.2 k) → k < w.heap.size ∧ S k ∧ k ≠ g ∧ k ≠ m0 from fun k ⟨e, he, hz⟩ => by have := H.o.zone e he k hz; exact ⟨this.1, this.2.1, this.2.2.1, this.2.2.2.1⟩)
     have Bw := Hh (show g < w.heap.size ∧ m0 < w.heap.size from ⟨H.o.obj.lt, H.o.map0.lt⟩)
     have Ax : ∀ v, MapIs v m0 (E.map entP) → (Instr.lookup 98 (.map (some m0)) (.agg LI.toArray) false).run Tryz.prog v = .ok (.pointer (some ⟨qg, 0, none⟩)) v := fun v hv => by
       have := lookup_is (T := 98) Tryz.underlying98 zero_ptrT hv HL.o.id
       rw [look_mem2 (by rw [ids_ents]; exact Aw) (List.mem_map.2 ⟨_, hqE, rfl⟩)] at this
       unfold arr at this
       rw [← A5.o] at this
       exact this
     have Ag := Hh (show ∀ v, Kept (fun k => (∃ e ∈ E, Z e.2 k) ∨ k = B + 1) W3 v → v.cell? ⟨g, 0, none⟩ = some (.map (some m0)) ∧ (Instr.lookup 98 (.map (some m0)) (.agg LI.toArray) false).run Tryz.prog v = .ok (.pointer (some ⟨qg, 0, none⟩)) v ∧ v.rangeAt B 0 LC ∧ v.rangeAt B 0 LI from fun v hv => by
       have a1 := EB.o
       have a2 := Bw.o
       have c3 := H.o.quiet An.o
       have ho := c3.obj.kept hv (fun e => by rcases e with e | e; exact (HU.o _ e).2.2.1 rfl; omega)
       have hm := c3.map0.kept hv (fun e => by rcases e with e | e; exact (HU.o _ e).2.2.2 rfl; omega)
       have hb := A6.o.kept hv (fun e => by rcases e with e | e; (have := (HU.o _ e).1; omega); omega)
       have hbi : v.rangeAt B 0 LI := by rw [A5.o]; rw [A3.o] at hb; exact coL_id hb
       exact ⟨ho.cell_is rfl, Ax v hm, hb.row0, hbi⟩)
     have A4 := Hh (show ∀ v, Kept (fun k => (∃ e ∈ E, Z e.2 k) ∨ k = B + 1) W3 v → Tabs K s0 v from fun v hv => (Br.o W3 An.o).kept hv (fun k e => by
       rcases e with e | e
       · exact HS.o k (HU.o k e).2.1
       · have a1 := EB.o; have a2 := HT.o.low; omega))
     have hz : Has W3.drew (B + 1) 41 zw := Ar.o
     have Bu := Hh (show IsHash (keyK K s0 l) from tagD_hash K s0 HT.o.len _ _)
     have By := Hh (show ∀ k, (S k ∧ k < w.heap.size) → 2 + 1 ≤ k from fun k hk => HS.o k hk.1)
     have Bp := Hh (show w.heap.size ≤ W3.heap.size from An.o.size)
     have Bo := Hh (show ∀ k, (∃ e ∈ E, Z e.2 k) → k ≠ B + 1 from fun k e => by have a1 := (HU.o k e).1; have a2 := EB.o; omega)
     have Bg := Hh (show B + 1 < W3.heap.size from Ar.o.lt)
     have hS0 : Kept (fun k => (∃ e ∈ E, Z e.2 k) ∨ k = B + 1) W3 W3.drew := (Kept.refl _ _).drew
     clear Aw Ax hqE
     refine wp_region_noPanic ?_
     refine wp_region_held_drew (S := (fun v => Kept (fun k => (∃ e ∈ E, Z e.2 k) ∨ k = B + 1) W3 v)) (by kernel_rfl) hS0 (fun hH0 => ?_)
     apply tl 0 rfl ?hv hH0 ?_
     case hv => intro w' hS; go_simp; try rfl
     simp only [qc]
     apply tl 1 rfl ?hv hH0 ?_
     case hv => intro w' hS; have z0 := (Ag.o w' hS).1; have z1 := (Ag.o w' hS).2.1; go_simp; try rfl
     simp only [qc]
     apply tl 2 rfl ?hv hH0 ?_
     case hv => intro w' hS; go_simp; try rfl
     simp only [qc]
     apply tl 3 rfl ?hv hH0 ?_
     case hv => intro w' hS; have z0 := (Ag.o w' hS).1; have z1 := (Ag.o w' hS).2.1; go_simp; try rfl
     simp only [qc]
     apply tl 4 rfl ?hv hH0 ?_
     case hv => intro w' hS; go_simp; try rfl
     simp only [qc]
     refine tk 5 (v := (.agg LI.toArray)) rfl (yieldsIf_load_mid (by kernel_rfl) 27 (.tmp 33) rfl B 0 rfl LI _ (fun w' h => (Ag.o _ h).2.2.2) Tryz.underlying27 rfl Bs.o) hH0 ?_
     simp only [qc]
     apply tl 6 rfl ?hv hH0 ?_
     case hv => intro w' hS; have z0 := (Ag.o w' hS).1; have z1 := (Ag.o w' hS).2.1; go_simp; try rfl
     simp only [qc]
     refine tk 7 (v := (.agg LC.toArray)) rfl (yieldsIf_load_mid (by kernel_rfl) 32 (.tmp 3) rfl B 0 rfl LC _ (fun w' h => (Ag.o _ h).2.2.1) Tryz.underlying32 rfl Ai.o) hH0 ?_
     simp only [qc]
     apply tl 10 rfl ?hv hH0 ?_
     case hv => intro w' hS; go_simp; try rfl
     simp only [qc]
     apply tl 12 rfl ?hv hH0 ?_
     case hv => intro w' hS; go_simp; try rfl
     simp only [qc]
     refine tk 13 (v := (.agg LI.toArray)) rfl (yieldsIf_load_mid (by kernel_rfl) 27 (.tmp 41) rfl B 0 rfl LI _ (fun w' h => (Ag.o _ h).2.2.2) Tryz.underlying27 rfl Bs.o) hH0 ?_
     simp only [qc]
     refine rdy [8] (ar1 rfl fun KK hKK => ?_)
     go_simp
     have hky := lfKey_is K s0 W3.drew (A4.o _ hH0) l HL.o
     unfold arr at hky
     rw [← A3.o, ← A2.o] at hky
     refine hky.mono ?_
     rintro _ xk ⟨rfl, hbk⟩
     have hs8 : Kept (fun k => (∃ e ∈ E, Z e.2 k) ∨ k = B + 1) W3 xk := Kept.trans hH0 (Kept.of_below hbk)
     replace hcm := hcm.quiet hbk
     replace hz := hz.below hbk hz.lt
     clear hky hbk
     refine hKK _ _ hs8 fun hH1 => ?_
     clear hKK KK
     try simp only [qc]
     refine rdy [9] (ar1 rfl fun KK hKK => ?_)
     go_simp
     have hmk := mkProof_is K s0 (Z qg) xk (A4.o _ hH1) qg (lowT K s0 ls l.id) (hcm.trees _ HE.o) (hcm.low _ HE.o) (keyK K s0 l) Bu.o
     unfold arr at hmk
     rw [← A2.o] at hmk
     refine hmk.mono ?_
     rintro _ xm ⟨bb, pa, pn, pc, rfl, hmd⟩
     have hs9 : Kept (fun k => (∃ e ∈ E, Z e.2 k) ∨ k = B + 1) W3 xm := Kept.trans hH1 (hmd.kept.mono (fun k _ e => .inl ⟨_, HE.o, e⟩))
     replace hcm := hcm.root HE.o hmd.tr hmd.kept
     replace hz := hz.kept hmd.kept (fun e => Bo.o _ ⟨_, HE.o, e⟩ rfl)
     obtain ⟨p, hpb, hpa, hpn, hpc, hof⟩ := made_of hmd
     subst hpb hpa hpn hpc
     have Ad := Hh (hof.more (show W3.heap.size ≤ xk.heap.size from Kept.size hH1))
     have Bc := Hh (show w.heap.size ≤ xm.heap.size ∧ W3.heap.size ≤ xm.heap.size from ⟨Nat.le_trans Bp.o hs9.size, hs9.size⟩)
     have hkx : Kept (fun k => (∃ e ∈ E, Z e.2 k) ∨ xm.heap.size ≤ k) xm xm := Kept.refl _ _
     clear hmk hmd hof
     refine hKK _ _ hs9 fun hH2 => ?_
     clear hKK KK
     try simp only [qc]
     refine rdy [11] (ar1 rfl fun KK hKK => ?_)
     go_simp
     refine (coAll_at hcm (A4.o _ hH2) By.o).mono ?_
     rintro _ xl ⟨ga, T, Za, rfl, Al, hta, hza, hlo, hcl, hkl⟩
     have Ay : Kept (fun k => (∃ e ∈ E, Z e.2 k) ∨ k = B + 1) W3 xl := Kept.trans hH2 (hkl.mono (fun k _ e => .inl e))
     replace hcm := hcl
     replace hz := hz.kept hkl (fun e => Bo.o _ e rfl)
     replace hkx := hkx.trans (hkl.mono (fun k _ e => .inl e))
     clear hcl hkl
     refine hKK _ _ Ay fun hH3 => ?_
     clear hKK KK
     try simp only [qc]
     refine rdy [14] (ar1 rfl fun KK hKK => ?_)
     go_simp
     have hmk := mkProof_is K s0 Za xl (A4.o _ hH3) ga T hta hlo l.id HL.o.id
     unfold arr at hmk
     rw [← A5.o] at hmk
     refine hmk.mono ?_
     rintro _ xn ⟨bb, pa, pn, pc, rfl, hmd⟩
     have Az : Kept (fun k => (∃ e ∈ E, Z e.2 k) ∨ k = B + 1) W3 xn := Kept.step hH3 hmd.kept (fun k e => .inr (Nat.le_trans Bc.o.2 (hza k e)))
     replace hcm := hcm.kept hmd.kept (fun k _ e1 e2 => by have a1 := hza k e2; have a2 := e1.2; have a3 := Bc.o.1; omega)
     replace hz := hz.kept hmd.kept (fun e => by have a1 := hza _ e; have a2 := Bc.o.2; have a3 := Bg.o; omega)
     replace hkx := hkx.trans (hmd.kept.mono (fun k _ e => .inr (hza k e)))
     obtain ⟨q, hqb, hqa, hqn, hqc, hof⟩ := made_of hmd
     subst hqb hqa hqn hqc
     have Ae := Hh (hof.more (show W3.heap.size ≤ xl.heap.size from Kept.size hH3))
     have As := Hh Al
     clear hmk hmd hof hta hza hlo Al
     refine hKK _ _ Az fun hH4 => ?_
     clear hKK KK
     try simp only [qc]
     refine tk 15 (v := (.agg (waysC p q).toArray)) rfl (yieldsIf_build (by kernel_rfl) 41 #[(0, .tmp 38), (1, .tmp 43)] rfl #[(0, .agg p.cells.toArray), (1, .agg q.cells.toArray)] (by kernel_rfl) _ (fun w' _ => build_ways p q Ad.o.at_.hash Ae.o.at_.hash w')) hH4 ?_
     simp only [qc]
     refine rdy [16] (ar1 rfl fun KK hKK => ?_)
     refine step_store_mid rfl 41 (.tmp 4) (.tmp 44) rfl (B + 1) 0 (waysC p q).toArray rfl rfl (hz.there 0 _ (by rw [List.size_toArray, (Au.o p q Ad.o.at_.hash Ae.o.at_.hash).2]; exact Nat.le_of_eq (Nat.zero_add _))) (Au.o p q Ad.o.at_.hash Ae.o.at_.hash).1 (waysC_one p q) ?_
     have Aa := set_box (B := 0) (W := xn) ⟨rfl, rfl, rfl, Nat.le_refl _, fun k hk => absurd hk (Nat.not_lt_zero k)⟩ hz (Nat.zero_le _) (Nat.zero_le _) (Au.o p q Ad.o.at_.hash Ae.o.at_.hash).2
     obtain ⟨xb, hxb⟩ : ∃ y, y = xn.setCells (B + 1) 0 (waysC p q) := ⟨_, rfl⟩
     rw [← hxb] at Aa
     change KK _ (xn.setCells (B + 1) 0 (waysC p q))
     rw [← hxb]
     have Ap : Kept (fun k => (∃ e ∈ E, Z e.2 k) ∨ k = B + 1) W3 xb := Kept.trans hH4 (Aa.2.2.mono (fun k _ e => .inr e))
     clear hxb
     refine hKK _ _ Ap fun hH5 => ?_
     clear hKK KK
     try simp only [qc]
     apply tl 17 rfl ?hv hH5 ?_
     case hv => intro w' hS; go_simp; try rfl
     simp only [qc]
     refine wpAnyH_done (by kernel_rfl) ?_ _
     refine NoPanic.normal ?_
     have hk5 : Kept (fun k => k = B + 1) xn xb := Aa.2.2
     have Av : ProveP K s0 S w g ls m0 m1 E Z l (.returned (.tuple #[.agg (waysC p q).toArray, .int .i64 0])) xb := by
       have a0 := EB.o
       have a1 := Bp.o
       have a2 := Bg.o
       refine ⟨(hcm.kept hk5 (fun k _ e1 e2 => by have a3 := e1.2; have a4 : k = B + 1 := e2; omega)).zoneS (fun k _ e => e.1), ((Kept.of_below An.o).step Ap (fun k e => ?_)), .inl ⟨Bk.o, p, q, T, rfl, ?_, As.o, ?_⟩⟩
       · rcases e with e | e
         · exact .inl e
         · exact .inr (by omega)
       · refine ((Ad.o.kept2 hkx (fun k e => ?_)).kept2 hk5 (fun k e => .inl (by have a4 : k = B + 1 := e; omega))).more a1
         rcases e with e | e
         · exact .inl (by have a3 := (HU.o k e).1; omega)
         · exact .inr e
       · exact (Ae.o.kept2 hk5 (fun k e => .inl (by have a4 : k = B + 1 := e; omega))).more a1
     have A7 := Hh Av
     have Bb := Hh Aa.2.1
     have Bz := Hh (Au.o p q Ad.o.at_.hash Ae.o.at_.hash).1
     clear Av Aa hs8 hs9 Ay Az Ap hS0 hcm hz hkx hk5
     go_wp2_with fail
     refine bodyPost_ret (results_cell_tmp rfl _ _ (B + 1) 41 (waysC p q).toArray (0, 0) _ rfl rfl Bb.o Tryz.underlying41 Bz.o) rfl ?_
     exact A7.o
end
/- Plain laws of a proof's bytes. -/

theorem drop_over (x y : List Nat) (n k : Nat) (h : x.length = n) : (x ++ y).drop (n + k) = y.drop k := by
 rw [List.drop_append, List.drop_eq_nil_of_le (by omega), List.nil_append]; congr 1; omega
def ndB (x : Nd) : List Nat := x.h ++ eight x.s
def pbytes (bb : List Nat) (xs : List Nd) : List Nat := bb ++ xs.flatMap ndB
theorem eight_lt (n : Nat) : ∀ x ∈ eight n, x < 256 := by rw [← eightR_full]; exact eightR_lt n 8
theorem ndB_len {x : Nd} (h : IsHash x.h) : (ndB x).length = 40 := by unfold ndB; rw [List.length_append, eight_length, h.1]
theorem pbytes_succ {bb : List Nat} {xs : List Nd} {k : Nat} {x : Nd} (h : xs[k]? = some x) : pbytes bb (xs.take (k + 1)) = pbytes bb (xs.take k) ++ (x.h ++ eight x.s) := by
 unfold pbytes
 rw [List.take_add_one, h]
 simp [List.flatMap_append, ndB]
theorem pbytes_len {bb : List Nat} (hb : bb.length = 32) : ∀ xs : List Nd, (∀ x ∈ xs, IsHash x.h) → (pbytes bb xs).length = 32 + 40 * xs.length
 | [], _ => by simp [pbytes, hb]
 | x :: xs, h => by
  have ih := pbytes_len hb xs (fun y hy => h y (List.mem_cons_of_mem _ hy))
  have h40 := ndB_len (h x (List.mem_cons_self ..))
  unfold pbytes at ih ⊢
  rw [List.flatMap_cons, List.length_append, List.length_append, h40, List.length_cons]
  rw [List.length_append] at ih
  omega
theorem pbytes_lt {bb : List Nat} (hb : IsHash bb) (xs : List Nd) (h : ∀ x ∈ xs, IsHash x.h) : ∀ y ∈ pbytes bb xs, y < 256 := by
 intro y hy
 rcases List.mem_append.1 hy with h1 | h1
 · exact hb.2 y h1
 · obtain ⟨x, hx, h2⟩ := List.mem_flatMap.1 h1
   rcases List.mem_append.1 h2 with h3 | h3
   · exact (h x hx).2 y h3
   · exact eight_lt _ y h3
theorem eight_at (s j : Nat) (h : j < 8) : (eight s)[j]? = some (s / 2 ^ (8 * (7 - j)) % 256) := by
 unfold eight
 rw [List.getElem?_map, List.getElem?_range h]; rfl
theorem eight_nth (s j : Nat) (h : j < 8) : (eight s).take (j + 1) = (eight s).take j ++ [s / 2 ^ (8 * (7 - j)) % 256] := by
 rw [List.take_add_one, eight_at s j h]; rfl
theorem bcells_app (x y : List Nat) : bcells x ++ bcells y = bcells (x ++ y) := by simp [bcells]

def num8 (l : List Nat) : Nat := l.foldl (fun x c => x * 256 + c) 0
theorem num8_snoc (l : List Nat) (c : Nat) : num8 (l ++ [c]) = num8 l * 256 + c := by simp [num8]
theorem num8_lt : ∀ (n : Nat) (l : List Nat), l.length = n → (∀ x ∈ l, x < 256) → num8 l < 256 ^ n := by
 intro n
 induction n with
 | zero => intro l hl _; obtain rfl := List.length_eq_zero_iff.1 hl; decide
 | succ n ih =>
  intro l hl hx
  obtain ⟨l', c, rfl⟩ : ∃ l' c, l = l' ++ [c] := ⟨l.dropLast, l.getLast (by intro e; subst e; simp at hl), (List.dropLast_concat_getLast _).symm⟩
  have h1 := ih l' (by simpa using hl) (fun x h => hx x (List.mem_append_left _ h))
  have h2 := hx c (by simp)
  rw [num8_snoc, Nat.pow_succ]
  omega
theorem eight_list (s : Nat) : eight s = [s / 2 ^ 56 % 256, s / 2 ^ 48 % 256, s / 2 ^ 40 % 256, s / 2 ^ 32 % 256, s / 2 ^ 24 % 256, s / 2 ^ 16 % 256, s / 2 ^ 8 % 256, s / 2 ^ 0 % 256] := rfl
theorem num8_eight (s : Nat) (h : s < 18446744073709551616) : num8 (eight s) = s := by
 rw [eight_list]
 simp only [num8, List.foldl_cons, List.foldl_nil]
 omega
def cntF (bare : Nat → Bool) (h : Nat) : Nat := ((List.range h).filter fun j => !bare j).length
theorem cnt_bare {bare : Nat → Bool} {h : Nat} (e : bare h = true) : cntF bare (h + 1) = cntF bare h := by
 unfold cntF; rw [List.range_succ, List.filter_append]; simp [e]
theorem cnt_node {bare : Nat → Bool} {h : Nat} (e : bare h = false) : cntF bare (h + 1) = cntF bare h + 1 := by
 unfold cntF; rw [List.range_succ, List.filter_append]; simp [e]
theorem cnt_le (bare : Nat → Bool) (h : Nat) : cntF bare h ≤ h := by
 unfold cntF; have := List.length_filter_le (fun j => !bare j) (List.range h); rw [List.length_range] at this; exact this
theorem cnt_mono (bare : Nat → Bool) (h : Nat) : ∀ k, cntF bare h ≤ cntF bare (h + k)
 | 0 => Nat.le_refl _
 | k + 1 => by
  refine Nat.le_trans (cnt_mono bare h k) ?_
  by_cases e : bare (h + k) = true
  · rw [← Nat.add_assoc, cnt_bare e]; exact Nat.le_refl _
  · rw [← Nat.add_assoc, cnt_node (by simpa using e)]; omega
theorem cnt_top {bare : Nat → Bool} {h : Nat} (hh : h < 256) (e : bare h = false) : cntF bare h + 1 ≤ cntF bare 256 := by
 have := cnt_mono bare (h + 1) (256 - (h + 1))
 rw [cnt_node e] at this
 rwa [show h + 1 + (256 - (h + 1)) = 256 by omega] at this
theorem cnt_congr {f g : Nat → Bool} {h : Nat} (e : ∀ j, j < h → f j = g j) : cntF f h = cntF g h := by
 unfold cntF
 congr 1
 exact List.filter_congr fun j hj => by rw [e j (List.mem_range.1 hj)]
def decNd (b : List Nat) (k : Nat) : Nd := ⟨(b.drop (32 + 40 * k)).take 32, num8 ((b.drop (32 + 40 * k + 32)).take 8)⟩
def decNds (b : List Nat) (n : Nat) : List Nd := (List.range n).map (decNd b)
theorem decNds_succ (b : List Nat) (n : Nat) : decNds b (n + 1) = decNds b n ++ [decNd b n] := by simp [decNds, List.range_succ]
theorem decNds_len (b : List Nat) (n : Nat) : (decNds b n).length = n := by simp [decNds]
def decP (b : List Nat) : Except Nat (List Nd) :=
 if b.length < 32 then .error 20
 else if b.length < 32 + 40 * cntF (bareB (b.take 32)) 256 then .error 20
 else if 32 + 40 * cntF (bareB (b.take 32)) 256 < b.length then .error 24
 else .ok (decNds b (cntF (bareB (b.take 32)) 256))
theorem decP_less {b : List Nat} (h : b.length < 32) : decP b = .error 20 := by unfold decP; rw [if_pos h]
theorem decP_short {b : List Nat} {h : Nat} (h32 : ¬ b.length < 32) (hh : h < 256) (e : bareB (b.take 32) h = false) (hl : b.length < 32 + 40 * (cntF (bareB (b.take 32)) h + 1)) : decP b = .error 20 := by
 have := cnt_top hh e
 unfold decP; rw [if_neg h32, if_pos (by omega)]
theorem decP_trail {b : List Nat} (h32 : ¬ b.length < 32) (hl : 32 + 40 * cntF (bareB (b.take 32)) 256 < b.length) : decP b = .error 24 := by
 unfold decP; rw [if_neg h32, if_neg (by omega), if_pos hl]
theorem decP_done {b : List Nat} (h32 : ¬ b.length < 32) (hl : 32 + 40 * cntF (bareB (b.take 32)) 256 = b.length) : decP b = .ok (decNds b (cntF (bareB (b.take 32)) 256)) := by
 unfold decP; rw [if_neg h32, if_neg (by omega), if_neg (by omega)]
theorem dec_hash {b : List Nat} (hb : ∀ x ∈ b, x < 256) {k : Nat} (h : 32 + 40 * (k + 1) ≤ b.length) : IsHash (decNd b k).h ∧ (decNd b k).s < 18446744073709551616 := by
 refine ⟨⟨by simp only [decNd, List.length_take, List.length_drop]; omega, fun x hx => hb x (List.mem_of_mem_drop (List.mem_of_mem_take hx))⟩, ?_⟩
 exact num8_lt 8 _ (by simp only [List.length_take, List.length_drop]; omega) (fun x hx => hb x (List.mem_of_mem_drop (List.mem_of_mem_take hx)))
theorem nds_hash {b : List Nat} (hb : ∀ x ∈ b, x < 256) {n : Nat} (h : 32 + 40 * n ≤ b.length) : ∀ x ∈ decNds b n, IsHash x.h ∧ x.s < 18446744073709551616 := by
 intro x hx
 obtain ⟨k, hk, rfl⟩ := List.mem_map.1 hx
 exact dec_hash hb (by have := List.mem_range.1 hk; omega)
theorem flat_at {α : Type} (f : α → List Nat) (c : Nat) : ∀ (xs : List α), (∀ x ∈ xs, (f x).length = c) → ∀ (k : Nat) x, xs[k]? = some x → ((xs.flatMap f).drop (c * k)).take c = f x
 | [], _, k, x, h => by simp at h
 | y :: xs, hl, 0, x, h => by
  have e : y = x := by simpa using h
  subst e
  rw [Nat.mul_zero, List.drop_zero, List.flatMap_cons, List.take_append_of_le_length (Nat.le_of_eq (hl y (List.mem_cons_self ..)).symm), List.take_of_length_le (Nat.le_of_eq (hl y (List.mem_cons_self ..)))]
 | y :: xs, hl, k + 1, x, h => by
  have hy := hl y (List.mem_cons_self ..)
  have := flat_at f c xs (fun z hz => hl z (List.mem_cons_of_mem _ hz)) k x (by simpa using h)
  rw [List.flatMap_cons, show c * (k + 1) = c + c * k by rw [Nat.mul_succ, Nat.add_comm], drop_over _ _ c _ hy]
  exact this
theorem dec_at {bb : List Nat} (hbb : bb.length = 32) {xs : List Nd} (hh : ∀ x ∈ xs, IsHash x.h) (hs : ∀ x ∈ xs, x.s < 18446744073709551616) {k : Nat} {x : Nd} (hx : xs[k]? = some x) : decNd (pbytes bb xs) k = x := by
 have hm := List.mem_of_getElem? hx
 have h40 := flat_at ndB 40 xs (fun y hy => ndB_len (hh y hy)) k x hx
 have e1 : (pbytes bb xs).drop (32 + 40 * k) = (xs.flatMap ndB).drop (40 * k) := by
  unfold pbytes; rw [drop_over _ _ 32 _ hbb]
 have e2 : (pbytes bb xs).drop (32 + 40 * k + 32) = ((xs.flatMap ndB).drop (40 * k)).drop 32 := by rw [← e1, List.drop_drop]
 unfold decNd
 rw [e1, e2]
 have e3 : ((xs.flatMap ndB).drop (40 * k)).take 32 = x.h := by
  have := congrArg (List.take 32) h40
  rw [List.take_take] at this
  rw [show min 32 40 = 32 from rfl] at this
  rw [this, ndB, List.take_append_of_le_length (Nat.le_of_eq (hh x hm).1.symm), List.take_of_length_le (Nat.le_of_eq (hh x hm).1)]
 have e4 : (((xs.flatMap ndB).drop (40 * k)).drop 32).take 8 = eight x.s := by
  have := congrArg (List.drop 32) h40
  rw [List.drop_take] at this
  rw [show 40 - 32 = 8 from rfl] at this
  rw [this, ndB, show 32 = 32 + 0 from rfl, drop_over _ _ 32 0 (hh x hm).1, List.drop_zero]
 rw [e3, e4, num8_eight _ (hs x hm)]
theorem decNds_of {bb : List Nat} (hbb : bb.length = 32) {xs : List Nd} (hh : ∀ x ∈ xs, IsHash x.h) (hs : ∀ x ∈ xs, x.s < 18446744073709551616) : decNds (pbytes bb xs) xs.length = xs := by
 refine List.ext_getElem? fun k => ?_
 by_cases hk : k < xs.length
 · have hx : xs[k]? = some xs[k] := List.getElem?_eq_getElem hk
   rw [hx, decNds, List.getElem?_map, List.getElem?_range hk]
   exact congrArg some (dec_at hbb hh hs hx)
 · rw [List.getElem?_eq_none (by rw [decNds_len]; omega), List.getElem?_eq_none (by omega)]
theorem pbytes_head {bb : List Nat} (hbb : bb.length = 32) (xs : List Nd) : (pbytes bb xs).take 32 = bb := by
 unfold pbytes
 rw [List.take_append_of_le_length (Nat.le_of_eq hbb.symm), List.take_of_length_le (Nat.le_of_eq hbb)]
theorem dec_written {bb : List Nat} (hbb : bb.length = 32) {xs : List Nd} (hh : ∀ x ∈ xs, IsHash x.h) (hs : ∀ x ∈ xs, x.s < 18446744073709551616) :
   decP (pbytes bb xs) = if xs.length < cntF (bareB bb) 256 then .error 20 else if cntF (bareB bb) 256 < xs.length then .error 24 else .ok xs := by
 unfold decP
 rw [pbytes_head hbb, pbytes_len hbb xs hh, if_neg (by omega)]
 by_cases h1 : xs.length < cntF (bareB bb) 256
 · rw [if_pos h1, if_pos (by omega)]
 · rw [if_neg h1, if_neg (by omega)]
   by_cases h2 : cntF (bareB bb) 256 < xs.length
   · rw [if_pos h2, if_pos (by omega)]
   · rw [if_neg h2, if_neg (by omega), show cntF (bareB bb) 256 = xs.length by omega, decNds_of hbb hh hs]
/- The walk of Encode: a proof's bytes. -/

structure EncW (w : World) (bs : List Nat) (v : Value) (wr : World) : Prop where
 own : ∃ oa oc, v = .slice oa bs.length oc ∧ wr.ownsRow w.heap.size 5 1 v bs.length (bcells bs)
 bel : Below w.heap.size w wr
set_option maxRecDepth 100000 in
set_option maxHeartbeats 4000000 in
theorem encode_is (w : World) (bb : List Nat) (hbb : IsHash bb) (a : Option Addr) (n c : Nat) (xs : List Nd) (hxs : NodesAt w a n xs) (hn : n ≤ 100000) :
  Calls Tryz.prog 70 #[.agg (pcells bb a n c).toArray] w fun e w' => ∃ oa oc, e = .returned (.slice oa (32 + 40 * n) oc) ∧ w'.ownsRow w.heap.size 5 1 (.slice oa (32 + 40 * n) oc) (32 + 40 * n) (bcells (pbytes bb xs)) ∧ Below w.heap.size w w' := by
 obtain ⟨Z, hz, hZs, hZn, -⟩ := zero_node
 obtain ⟨LP, hLP⟩ : ∃ L, L = pcells bb a n c := ⟨_, rfl⟩
 have A0 : LP[32]? = some (.slice a n c) := by rw [hLP]; exact pcells_row hbb a n c
 have Ao : ∀ i, i < 32 → LP[i]? = some (.int .u8 (bb.getD i 0 : Nat)) := fun i hi => by rw [hLP]; exact pcells_byte hbb a n c i hi
 rw [← hLP]
 have hbx := Has.new w 39 LP.toArray
 have Ai : Bytes (w.alloc (.cells LP.toArray 39)) (w.alloc (.cells LP.toArray 39)).heap.size (.slice (some ⟨w.heap.size, 0, none⟩) 32 32) bb := ⟨some ⟨w.heap.size, 0, none⟩, 32, by rw [hbb.1], by rw [hbb.1]; exact Nat.le_refl _, hbb.2, fun _ => ⟨w.heap.size, 0, rfl, by simp, fun i hi => by
  rw [Nat.zero_add]
  exact hbx.cell_is (by rw [List.getElem?_toArray]; exact Ao i (by rw [hbb.1] at hi; exact hi))⟩⟩
 have Bq := Hh (show ∀ x : Nd, IsHash x.h → (Tryz.prog.info? 30).map (·.size) = some (ndV x).toArray.size from fun x hx => by rw [List.size_toArray, ndV_len hx]; kernel_rfl)
 have Bp := Hh (show ∀ x : Nd, IsHash x.h → (Tryz.prog.info? 30).map (·.size) = some (ndV x).length from fun x hx => by rw [ndV_len hx]; kernel_rfl)
 have Bo := Hh (show ∀ x : Nd, IsHash x.h → Z.size = (ndV x).toArray.size from fun x hx => by rw [hZs, List.size_toArray, ndV_len hx])
 have As := Hh hxs
 have Bf := Hh hbx
 have Ar := Hh Ai
 have A6 := Hh hbb
 have A5 := Hh A0
 have Bj := Hh (show 0 + bb.length ≤ 100000000 by rw [hbb.1]; decide)
 have Ba := Hh (show w.heap.size ≤ (w.alloc (.cells LP.toArray 39)).heap.size by simp)
 have Bd := Hh (show Below w.heap.size w (w.alloc (.cells LP.toArray 39)) from (Below.refl _ _).alloc (Nat.le_refl _) _)
 clear hLP Ao hZs hxs hbx Ai hbb A0
 go_enter Tryz.func70, Tryz.ntmps70
 go_upto_region 2 with (at_builtin; refine wpList_append_bytes rfl (.const (.slice none 0 0)) (.tmp 8) rfl w.heap.size _ 0 [] rfl ⟨rfl, .inl ⟨rfl, rfl⟩⟩ _ _ bb rfl Ar.o Bj.o Ba.o ?_; intro oa2 oc2 w2 Af Au)
 have hb2 : Below w.heap.size w w2 := Bd.o.grown Au Ba.o (fun k e => by cases e)
 have hE2 : EncW w (pbytes bb (xs.take 0)) (.slice oa2 (0 + bb.length) oc2) w2 := by
  have e : pbytes bb (xs.take 0) = bb := by simp [pbytes]
  rw [e]
  rw [Nat.zero_add] at Af ⊢
  exact ⟨⟨oa2, oc2, rfl, Af⟩, hb2⟩
 have c32 : w2.cell? ⟨w.heap.size, 32, none⟩ = some (.slice a n c) := (Bf.o.grown Au (fun e => by cases e)).cell_is (by rw [List.getElem?_toArray]; exact A5.o)
 have A9 := Hh hE2
 clear hE2 hb2 Af Au
 go_wp2_with fail
 clear c32
 go_loopw [3, 13] (fun bv iv wr => ∃ k : Nat, iv = .int .i64 (k : Int) ∧ k ≤ n ∧ EncW w (pbytes bb (xs.take k)) bv wr) (fun _ iv _ => n - (intOf iv).toNat)
 case atStart => exact ⟨0, rfl, Nat.zero_le _, by have := A9.o; rwa [Nat.zero_add] at this⟩
 case round =>
  clear A9
  obtain ⟨k, rfl, hk, he⟩ := hrel
  obtain ⟨⟨oa, oc, hv, Ab⟩, Az⟩ := he
  subst hv
  obtain ⟨bs, hbs⟩ : ∃ l, l = pbytes bb (xs.take k) := ⟨_, rfl⟩
  rw [← hbs] at Ab ⊢
  have hbl : bs.length ≤ 5000000 := by
    rw [hbs, pbytes_len A6.o.1 _ (fun x hx => As.o.hash x (List.mem_of_mem_take hx)), List.length_take]; omega
  have Ax := Hh Ab
  have Ak := Hh Az
  have A8 := Hh hbs
  have A7 := Hh hbl
  clear Ab Az hbs hbl
  by_cases hkn : k < n
  · have hkn' : (k : Int) < (n : Int) := by omega
    obtain ⟨x, hx⟩ : ∃ x, xs[k]? = some x := ⟨_, List.getElem?_eq_getElem (by rw [As.o.len]; exact hkn)⟩
    have hxh : IsHash x.h := As.o.hash x (List.mem_of_getElem? hx)
    obtain ⟨b, o, ha, hbl, hr⟩ := (As.o.below Ak.o).at_ (by omega)
    have hrx := hr k x hx
    have hat := at_nodeo b o n c k hkn
    rw [← ha] at hat
    have hnw : Has ((wr.alloc (.cells Z 30)).setRow wr.heap.size (ndV x).toArray) wr.heap.size 30 (ndV x).toArray ∧ Below wr.heap.size wr ((wr.alloc (.cells Z 30)).setRow wr.heap.size (ndV x).toArray) := by
     rw [World.setRow_alloc_new]
     exact ⟨Has.new _ _ _, (Below.refl _ _).alloc (Nat.le_refl _) _⟩
    have Bn := Hh hrx
    have Aj := Hh hxh
    have Bm := Hh (show pbytes bb (xs.take (k + 1)) = bs ++ (x.h ++ eight x.s) by rw [A8.o]; exact pbytes_succ hx)
    have An := Hh hnw
    clear hx hxh hr hrx hbl hnw ha
    go_upto_region 5 with (first
     | (refine wpList_load_mid rfl 30 (.tmp 15) rfl b (o + k * 33) rfl (ndV x) _ Bn.o Tryz.underlying30 rfl (Bp.o x Aj.o) ?_)
     | (refine wpList_store_row rfl 30 (.tmp 5) (.tmp 16) rfl wr.heap.size (ndV x).toArray rfl rfl 30 Z (heap_alloc_new wr _) (Bq.o _ Aj.o) (Bo.o _ Aj.o) (ndV_one _) ?_))
    have A2 := Hh (own_kept Ax.o (Kept.of_below (S := fun _ => False) An.o.2) (fun _ _ e => e))
    have A1 := Hh (Ak.o.trans (An.o.2.mono Ak.o.size))
    generalize (wr.alloc (.cells Z 30)).setRow wr.heap.size (ndV x).toArray = W5 at An A2 A1 ⊢
    generalize wr.heap.size = G5 at An ⊢
    have Ai : Bytes W5 W5.heap.size (.slice (some ⟨G5, 0, none⟩) 32 32) x.h := ⟨some ⟨G5, 0, none⟩, 32, by rw [Aj.o.1], by rw [Aj.o.1]; exact Nat.le_refl _, Aj.o.2, fun _ => ⟨G5, 0, rfl, Nat.ne_of_lt An.o.1.lt, fun i hi => by
     rw [Nat.zero_add]
     exact An.o.1.cell_is (by
       rw [List.getElem?_toArray, ndV, ncells, List.getElem?_append_left (by rw [bcells_length]; exact hi)]
       exact bcells_get _ i hi)⟩⟩
    have Ar := Hh Ai
    have Bk := Hh (show bs.length + x.h.length ≤ 100000000 by rw [Aj.o.1]; have := A7.o; omega)
    clear Ai
    go_upto_region 6 with (at_builtin; refine wpList_append_bytes rfl (.tmp 17) (.tmp 19) rfl w.heap.size _ bs.length (bcells bs) rfl A2.o _ _ x.h rfl Ar.o Bk.o A1.o.size ?_; intro oa6 oc6 w6 Ag Av)
    have h6 : EncW w (bs ++ x.h ++ (eight x.s).take 0) (.slice oa6 (bs.length + x.h.length) oc6) w6 ∧ Has w6 G5 30 (ndV x).toArray := by
     rw [List.take_zero, List.append_nil]
     rw [bcells_app, ← List.length_append] at Ag
     refine ⟨⟨⟨oa6, oc6, by rw [List.length_append], by rw [← List.length_append]; exact Ag⟩, A1.o.grown Av A1.o.size (own_blk A2.o)⟩, An.o.1.grown Av (fun e => own_has_ne A2.o An.o.1 (by decide) G5 e.symm rfl)⟩
    have H6 := Hh h6
    obtain ⟨sx, hsx⟩ : ∃ v, v = x.s := ⟨_, rfl⟩
    have Bb := Hh hsx
    clear h6 Ag Av hsx
    go_wp2_with fail
    go_loopw [3, 6] (fun bv iv wx => ∃ j : Nat, iv = .int .i64 (7 - (j : Int)) ∧ j ≤ 8 ∧ EncW w (bs ++ x.h ++ (eight x.s).take j) bv wx ∧ Has wx G5 30 (ndV x).toArray) (fun _ iv _ => (intOf iv + 1).toNat)
    case atStart => exact ⟨0, by go_num, Nat.zero_le _, H6.o⟩
    case round =>
     clear H6
     obtain ⟨j, rfl, hj, ⟨⟨oa7, oc7, hv7, Ac⟩, Aa⟩, hx7⟩ := hrel
     subst hv7
     obtain ⟨cs, hcs⟩ : ∃ l, l = bs ++ x.h ++ (eight x.s).take j := ⟨_, rfl⟩
     rw [← hcs] at Ac ⊢
     by_cases hj8 : j < 8
     · obtain ⟨m, hm⟩ : ∃ m : Nat, (7 : Int) - (j : Int) = (m : Int) ∧ m = 7 - j ∧ m < 8 := ⟨7 - j, by omega, rfl, by omega⟩
       have hm0 : (m : Int) ≥ 0 := by omega
       rw [hm.1]
       obtain ⟨q, hq⟩ : ∃ q, q = sx / 2 ^ (8 * m) % 256 := ⟨_, rfl⟩
       have hq8 : q < 256 := by rw [hq]; exact Nat.mod_lt _ (by decide)
       have c5 : wr.cell? ⟨G5, 32, none⟩ = some (.int .u64 (sx : Int)) := hx7.cell_is (by
        rw [List.getElem?_toArray, ndV, ncells, List.getElem?_append_right (by rw [bcells_length, Aj.o.1]; exact Nat.le_refl _), bcells_length, Aj.o.1, Bb.o]; rfl)
       have hal : Below wr.heap.size wr (wr.alloc (.cells #[.int .u8 (q : Int)] 5)) := (Below.refl _ _).alloc (Nat.le_refl _) _
       have A4 := Hh (own_kept Ac (Kept.of_below (S := fun _ => False) hal) (fun _ _ e => e))
       have Bc := Hh (hx7.below hal hx7.lt)
       have Ap : Bytes (wr.alloc (.cells #[.int .u8 (q : Int)] 5)) (wr.alloc (.cells #[.int .u8 (q : Int)] 5)).heap.size (.slice (some ⟨wr.heap.size, 0, none⟩) 1 1) [q] := ⟨_, _, rfl, Nat.le_refl _, (fun z hz => by rw [List.mem_singleton.1 hz]; exact hq8), fun _ => ⟨wr.heap.size, 0, rfl, by simp, fun i hi => by
        obtain rfl : i = 0 := Nat.lt_one_iff.1 hi
        exact (Has.new wr _ _).cell_is rfl⟩⟩
       have Ay := Hh Ap
       have Aw := Hh (show ∀ z, w.heap.size ≤ (wr.alloc (.cells z 5)).heap.size from fun z => by have := Aa.size; simp; omega)
       have A3 := Hh (show cs.length + [q].length ≤ 100000000 by
        have h1 := A7.o
        have h2 := Aj.o.1
        rw [hcs, List.length_append, List.length_append, List.length_take, eight_length, h2]; simp; omega)
       have Be := Hh (Aa.alloc Aa.size (.cells #[.int .u8 (q : Int)] 5))
       have Bg := Hh (show bs ++ x.h ++ (eight x.s).take (j + 1) = cs ++ [q] by
        rw [eight_nth x.s j hj8, hcs, ← List.append_assoc, hq, Bb.o, hm.2.1])
       have HJ := Hh hj8
       have Bl := Hh hm
       have hnn : (8 * (m : Int)).toNat = 8 * m := by omega
       have hn0 : (0 : Int) ≤ 8 * (m : Int) := by omega
       have hn1 : 8 * (m : Int) < 64 := by omega
       have hu8 : IntKind.u8.wrap ((sx : Int) / 2 ^ (8 * m)) = (q : Int) := by
        rw [IntKind.wrap_u8, hq]
        have : ((sx : Int) / 2 ^ (8 * m)) = ((sx / 2 ^ (8 * m) : Nat) : Int) := by rw [Int.natCast_ediv, Int.natCast_pow]; rfl
        rw [this]; omega
       clear hal Ap hcs hm hj Ac Aa hx7 hq
       go_wp2_with (at_builtin; refine wpList_append_bytes rfl (.tmp 25) (.tmp 32) rfl w.heap.size _ cs.length (bcells cs) rfl A4.o _ _ [q] rfl Ay.o A3.o (Aw.o _) ?_; intro oa8 oc8 w8 Ah Al)
       have hgx : Kept (fun j => (Value.slice oa7 cs.length oc7).ownBlock = some j) (wr.alloc (.cells #[.int .u8 (q : Int)] 5)) w8 := (Kept.refl _ _).grown Al (fun j e => .inl e)
       have Ae : EncW w (bs ++ x.h ++ (eight x.s).take (j + 1)) (.slice oa8 (cs.length + [q].length) oc8) w8 ∧ Has w8 G5 30 (ndV x).toArray := by
        rw [Bg.o]
        rw [bcells_app, ← List.length_append] at Ah
        refine ⟨⟨⟨oa8, oc8, by rw [List.length_append], by rw [← List.length_append]; exact Ah⟩, Be.o.grown Al (Aw.o _) (own_blk A4.o)⟩, Bc.o.grown Al (fun e => own_has_ne A4.o Bc.o (by decide) G5 e.symm rfl)⟩
       have Aq := Hh Ae
       have Bh := Hh (show (m : Int) - 1 = 7 - ((j + 1 : Nat) : Int) by have h1 := Bl.o.2.1; have h2 := HJ.o; omega)
       clear hgx Ae Ah Al hu8 hnn hn0 hn1 c5
       go_wp2_with fail
       go_roundw
       case rel => exact ⟨j + 1, by rw [Bh.o], by have := HJ.o; omega, Aq.o⟩
       case measure => simp [intOf]
     · obtain rfl : j = 8 := by omega
       have hm0 : ¬ (7 - ((8 : Nat) : Int)) ≥ 0 := by omega
       have Ae : EncW w (pbytes bb (xs.take (k + 1))) (.slice oa7 cs.length oc7) wr := by
        have e : cs = pbytes bb (xs.take (k + 1)) := by
         rw [hcs, Bm.o, List.take_of_length_le (by rw [eight_length]; exact Nat.le_refl _), List.append_assoc]
        rw [← e]
        exact ⟨⟨oa7, oc7, rfl, Ac⟩, Aa⟩
       have Aq := Hh Ae
       have Bi := Hh hkn
       clear hcs Ac Aa hx7 Ae hj hj8
       go_wp2_with fail
       go_roundw
       case rel => exact ⟨k + 1, by go_num, Bi.o, Aq.o⟩
       case measure => simp [intOf]; omega
  · obtain rfl : k = n := by omega
    have hkn' : ¬ (k : Int) < (k : Int) := by omega
    have Ad : bs = pbytes bb xs := by rw [A8.o, List.take_of_length_le (by rw [As.o.len]; exact Nat.le_refl _)]
    have Am : bs.length = 32 + 40 * k := by rw [Ad, pbytes_len A6.o.1 _ As.o.hash, As.o.len]
    have Ab := Ax.o
    rw [Ad] at Ab
    rw [Ad] at Am
    rw [Am] at Ab
    have HF := Hh Ab
    have HE := Hh (show bs.length = 32 + 40 * k by rw [Ad, Am])
    clear Ad Am Ab hkn
    go_wp2_with fail
    go_ret
    exact ⟨oa, oc, congrArg (fun z => Ending.returned (Value.slice oa z oc)) HE.o, HF.o, Ak.o⟩
end Go.Proofs.YtknfbccbdiidjaaGreatDoor
