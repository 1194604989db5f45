/- The walk of Prove. -/
import Derived.Test.YtknfbccbdiidjaaGreatDoorWu
import Derived.Test.YtknfbccbdiidjaaGreatDoorLCo9
import Derived.Test.YtknfbccbdiidjaaGreatDoorLLb2
import Derived.Test.YtknfbccbdiidjaaGreatDoorLFc
import Derived.Test.YtknfbccbdiidjaaGreatDoorLTv6
import Derived.Laws.Cover3
import Derived.Test.YtknfbccbdiidjaaGreatDoorLLb5
import Derived.Test.YtknfbccbdiidjaaGreatDoorLTv7
import Derived.Test.YtknfbccbdiidjaaGreatDoorLSha7
import Derived.Laws.BytesArg
namespace Go.Proofs.YtknfbccbdiidjaaGreatDoor
set_option linter.unusedVariables false
set_option linter.unusedSimpArgs false
open Go.ChangeShapes Go.WideShapes Go.ChangeAt Go.RowKit Go.Maps

structure Pf.Of (p : Pf) (K s0 : List Wd) (T : List Lf) (key : List Nat) (N : Nat) (w : World) : Prop where
 at_ : p.At w
 bits : ∀ h, h < 256 → bareB p.b h = bareF K s0 (besF K s0 T key) h
 nodes : p.xs = nodesF K s0 (besF K s0 T key) 256
 new : 0 < p.n → ∀ A, p.a = some A → N ≤ A.block
 cap : p.n ≤ p.c
theorem NodesAt.keptN {S : Nat → Prop} {w w' : World} {a : Option Addr} {n : Nat} {xs : List Nd} (h : NodesAt w a n xs) (hk : Kept S w w') (hs : 0 < n → ∀ A, a = some A → ¬ S A.block) : NodesAt w' a n xs := by
 rcases Nat.eq_zero_or_pos n with e | e
 · subst e
   have : xs = [] := List.eq_nil_of_length_eq_zero h.len
   rw [this]
   exact nodes_nil w' a
 · exact h.kept hk (hs e)
theorem Pf.Of.kept {p : Pf} {K s0 : List Wd} {T : List Lf} {key : List Nat} {N : Nat} {w w' : World} {S : Nat → Prop} (h : p.Of K s0 T key N w) (hk : Kept S w w') (hs : ∀ k, S k → k < N) : p.Of K s0 T key N w' :=
 ⟨⟨h.at_.hash, h.at_.nodes.keptN hk (fun h0 A hA e => by have a1 := h.new h0 A hA; have a2 := hs _ e; omega), h.at_.cap⟩, h.bits, h.nodes, h.new, h.cap⟩
theorem Pf.Of.kept2 {p : Pf} {K s0 : List Wd} {T : List Lf} {key : List Nat} {N : Nat} {w w' : World} {S : Nat → Prop} (h : p.Of K s0 T key N w) (hk : Kept S w w') (hs : ∀ k, S k → k < N ∨ w.heap.size ≤ k) : p.Of K s0 T key N w' :=
 ⟨⟨h.at_.hash, h.at_.nodes.keptN hk (fun h0 A hA e => by
  have a1 := h.new h0 A hA
  obtain ⟨b, o, e1, hlt, _⟩ := h.at_.nodes.at_ h0
  rw [hA] at e1
  injection e1 with e1
  have a3 : A.block = b := by rw [e1]
  rcases hs _ e with a2 | a2 <;> omega), h.at_.cap⟩, h.bits, h.nodes, h.new, h.cap⟩
theorem Pf.Of.more {p : Pf} {K s0 : List Wd} {T : List Lf} {key : List Nat} {N N' : Nat} {w : World} (h : p.Of K s0 T key N w) (hn : N' ≤ N) : p.Of K s0 T key N' w := ⟨h.at_, h.bits, h.nodes, fun h0 A hA => Nat.le_trans hn (h.new h0 A hA), h.cap⟩
theorem Pf.Of.below {p : Pf} {K s0 : List Wd} {T : List Lf} {key : List Nat} {N : Nat} {w w' : World} (h : p.Of K s0 T key N w) (hb : Below w.heap.size w w') : p.Of K s0 T key N w' := ⟨h.at_.below hb, h.bits, h.nodes, h.new, h.cap⟩
theorem made_of {K s0 : List Wd} {S : Nat → Prop} {w w' : World} {g : Nat} {T : List Lf} {key bb : List Nat} {a : Option Addr} {n c : Nat} (h : Made K s0 S w g T key bb a n c w') : ∃ p : Pf, p.b = bb ∧ p.a = a ∧ p.n = n ∧ p.c = c ∧ p.Of K s0 T key w.heap.size w' := by
 obtain ⟨X, hX⟩ : ∃ X, X = nodesF K s0 (besF K s0 T key) 256 := ⟨_, rfl⟩
 have hn := h.nodes
 rw [← hX] at hn
 have hl : X.length ≤ 256 := by rw [hX]; exact nodesF_len 256
 have Aa : n ≤ 1000000 := by have := hn.len; omega
 exact ⟨⟨bb, a, n, c, X⟩, rfl, rfl, rfl, rfl, ⟨h.hash, hn, Aa⟩, h.bits, hX, h.new, h.cap⟩
section
variable {K s0 : List Wd} {S : Nat → Prop} {w w' : World} {g m0 m1 : Nat} {ls : List LeafT} {E : List (List Nat × Nat)} {Z : Nat → Nat → Prop}
def ProveP (K s0 : List Wd) (S : Nat → Prop) (w : World) (g : Nat) (ls : List LeafT) (m0 m1 : Nat) (E : List (List Nat × Nat)) (Z : Nat → Nat → Prop) (l : LeafT) (e : Ending) (w' : World) : Prop :=
 CmAt K s0 S w' g ls m0 m1 E Z ∧ Kept (fun k => ∃ e ∈ E, Z e.2 k) w w' ∧ ((l ∈ ls ∧ ∃ p q T, e = .returned (.tuple #[.agg (waysC p q).toArray, .int .i64 0]) ∧ p.Of K s0 (lowT K s0 ls l.id) (keyK K s0 l) w.heap.size w' ∧ T.Perm (topT K s0 ls) ∧ q.Of K s0 T l.id w.heap.size w') ∨
  (l ∉ ls ∧ ∃ p q : Pf, e = .returned (.tuple #[.agg (waysC p q).toArray, .int .i64 5]) ∧ p.xs = [] ∧ q.xs = [] ∧ p.At w' ∧ q.At w'))
def zPf : Pf := ⟨List.replicate 32 0, none, 0, 0, []⟩
theorem zPf_at (w : World) : zPf.At w := ⟨⟨rfl, fun k hk => by rw [List.eq_of_mem_replicate hk]; decide⟩, nodes_nil w none, by decide⟩
theorem zero_ways : ∃ Z : Array Value, (∀ w, (zeroValue 41).run Tryz.prog w = .ok (.agg Z) w) ∧ (∀ w, (Instr.build 41 #[]).run Tryz.prog w = .ok (.agg (waysC zPf zPf).toArray) w) ∧ Z.size = 66 ∧ ¬ Z = #[] := by
 have hs : (waysC zPf zPf).toArray.size = 66 := by kernel_rfl
 exact ⟨(waysC zPf zPf).toArray, fun w => by kernel_rfl, fun w => by kernel_rfl, hs, fun e => by rw [e] at hs; cases hs⟩
theorem build_ways (p q : Pf) (hp : IsHash p.b) (hq : IsHash q.b) (w : World) : (Instr.build 41 #[(0, .agg p.cells.toArray), (1, .agg q.cells.toArray)]).run Tryz.prog w = .ok (.agg (waysC p q).toArray) w := by
 obtain ⟨pb, pa, pn, pc, px⟩ := p
 obtain ⟨qb, qa, qn, qc, qx⟩ := q
 have h1 : pb.length = 32 := hp.1
 have h2 : qb.length = 32 := hq.1
 clear hp hq
 obtain ⟨d0, d1, d2, d3, d4, d5, d6, d7, d8, d9, d10, d11, d12, d13, d14, d15, d16, d17, d18, d19, d20, d21, d22, d23, d24, d25, d26, d27, d28, d29, d30, d31, rfl⟩ := thirty_two pb h1
 obtain ⟨e0, e1, e2, e3, e4, e5, e6, e7, e8, e9, e10, e11, e12, e13, e14, e15, e16, e17, e18, e19, e20, e21, e22, e23, e24, e25, e26, e27, e28, e29, e30, e31, rfl⟩ := thirty_two qb h2
 exact run_build w 41 _ _ (by kernel_rfl)
theorem wpList_neq_run {P : Program} {ops : Array Oper} {Q : Exit → Act → World → Prop} {a : Act} {w : World} {rest : List Oper} {o : Oper} (hw : Region.wanted o (yielded ops a.tmps) = true) (t t2 : TypeId) (x y : Operand) (ho : o.op = .binOp .neq t x y t2)
  (u v : Value) (hx : a.eval x = u) (hy : a.eval y = v) (b : Bool) (hrun : (binOp .neq t u v).run P w = .ok (.bool b) w) (hg : (eqGuard .neq t x y u v).run P w = .ok () w) (h : wpList P ops Q rest (a.put o.dst (.bool b)) w) : wpList P ops Q (o :: rest) a w := by
 refine BigFrame.wpList_want hw fun K hK => ?_
 unfold Oper.wp
 simp only [execOp, ho, hx, hy, Sem.run_bind, hg, hrun, Result.andThen_ok, Sem.run_pure]
 exact hK _ _ h
theorem boxes_prv (w : World) (LC : List Value) (Z : Array Value) : ∃ W1, W1 = (((w.alloc (.cells LC.toArray 32))).alloc (.cells Z 41)) ∧
   Has W1 (w.heap.size) 32 LC.toArray ∧ Has W1 (w.heap.size + 1) 41 Z ∧ Below w.heap.size w W1 := by
 refine ⟨_, rfl, ?_, ?_, ?_⟩
 · have := Has.new w 32 LC.toArray
   exact (this).alloc _
 · have := Has.new (w.alloc (.cells LC.toArray 32)) 41 Z
   exact (by simpa using this : Has _ (w.heap.size + 1) _ _)
 · exact ((Below.refl _ _).alloc (Nat.le_refl _) _).alloc (by simp) _
set_option maxRecDepth 100000 in
set_option maxHeartbeats 16000000 in
theorem coProve_at (h : CmAt K s0 S w g ls m0 m1 E Z) (hT : Tabs K s0 w) (hS : ∀ k, S k → 2 + 1 ≤ k) (l : LeafT) (hl : l.ok) :
  Calls Tryz.prog 33 #[.pointer (some ⟨g, 0, none⟩), .agg l.cells.toArray] w (ProveP K s0 S w g ls m0 m1 E Z l) := by
 obtain ⟨zw, hzw, hbw, A1, hzwn⟩ := zero_ways
 obtain ⟨zl, hzl, -, A0, hzln, hzle'⟩ := zero_leafT
 have Bd := Hh hzle'
 clear hzle'
 obtain ⟨LC, hLC⟩ : ∃ L, L = l.cells := ⟨_, rfl⟩
 obtain ⟨KL, hKL⟩ : ∃ L, L = bcells (keyK K s0 l) := ⟨_, rfl⟩
 obtain ⟨LI, hLI⟩ : ∃ L, L = bcells l.id := ⟨_, rfl⟩
 obtain ⟨LZ, hLZ⟩ : ∃ L, L = waysC zPf zPf := ⟨_, rfl⟩
 rw [← hLC]
 rw [← hLZ] at hbw
 have hkh : IsHash (keyK K s0 l) := tagD_hash K s0 hT.len _ _
 have Ai := Hh (show (Tryz.prog.info? 32).map (·.size) = some LC.length by rw [hLC, LeafT.len hl]; kernel_rfl)
 have Bs := Hh (show (Tryz.prog.info? 27).map (·.size) = some LI.length by rw [hLI, bcells_length, hl.id.1]; kernel_rfl)
 have Au := Hh (show ∀ p q : Pf, IsHash p.b → IsHash q.b → (Tryz.prog.info? 41).map (·.size) = some (waysC p q).toArray.size ∧ zw.size = (waysC p q).length from fun p q hp hq => ⟨by rw [List.size_toArray, waysC_len hp hq]; kernel_rfl, by rw [A1, waysC_len hp hq]⟩)
 have Bh := Hh hbw
 have Ah := Hh A0
 have A3 := Hh hLC
 have A2 := Hh hKL
 have A5 := Hh hLI
 have Be := Hh hLZ
 have HL := Hh hl
 have H := Hh h
 have HS := Hh hS
 have HT := Hh hT
 have Br := Hh (show ∀ v, Below w.heap.size w v → Tabs K s0 v from fun v hv => hT.below hv hT.low)
 obtain ⟨XL, kn, hXL, hXok, hLK1, hkn⟩ : ∃ (x : LeafT) (kn : Bool), x.cells.length = 99 ∧ x.ok ∧ (∀ v, Below w.heap.size w v → (Instr.lookup 99 (.map (some m1)) (.agg KL.toArray) true).run Tryz.prog v = .ok (.tuple #[.agg x.cells.toArray, .bool kn]) v) ∧ ((kn = true ∧ (x = l ↔ l ∈ ls)) ∨ (kn = false ∧ l ∉ ls)) := by
  have hlk : ∀ v, Below w.heap.size w v → (Instr.lookup 99 (.map (some m1)) (.agg KL.toArray) true).run Tryz.prog v = .ok (.tuple #[(look (ls.map (entL K s0)) (keyK K s0 l)).getD (.agg zl), .bool (look (ls.map (entL K s0)) (keyK K s0 l)).isSome]) v := fun v hv => by
    rw [hKL]
    exact lookup_ok_is (T := 99) Tryz.underlying99 hzl (h.quiet hv).map1 hkh
  rcases look_key h.fine.keys (keyK K s0 l) with ⟨o, ho, he, hlo⟩ | ⟨hne, hlo⟩
  · rw [hlo] at hlk
    exact ⟨o, true, LeafT.len (h.fine.ok o ho), h.fine.ok o ho, hlk, .inl ⟨rfl, fun e => by rw [← e]; exact ho, fun e => key_inj h.fine.keys ho e he⟩⟩
  · rw [hlo] at hlk
    have hz : LeafT.ok ⟨List.replicate 32 0, 0, List.replicate 32 0, 0, zNd⟩ := ⟨⟨rfl, fun k hk => by rw [List.eq_of_mem_replicate hk]; decide⟩, by decide, ⟨rfl, fun k hk => by rw [List.eq_of_mem_replicate hk]; decide⟩, by decide, by decide, zNd_hash, by decide⟩
    refine ⟨⟨List.replicate 32 0, 0, List.replicate 32 0, 0, zNd⟩, false, LeafT.len hz, hz, ?_, .inr ⟨rfl, fun e => hne (List.mem_map.2 ⟨l, e, rfl⟩)⟩⟩
    rw [← Bd.o]
    exact hlk
 have Bl := Hh hkn
 obtain ⟨XC, hXC⟩ : ∃ L, L = XL.cells := ⟨_, rfl⟩
 have Ab := Hh (show XC.length = 99 by rw [hXC]; exact hXL)
 have X1 := Hh (show XC.toArray.all (·.oneCell') = true by rw [hXC]; exact LeafT.one XL)
 have Bt := Hh (show ∀ v, (Op.equalIn 10000 32 (.agg XC.toArray) (.agg LC.toArray)).run Tryz.prog v = .ok (decide (XL = l)) v from fun v => by rw [hXC, hLC]; exact le_eq XL l hXok hl v)
 have Bv := Hh (show ∀ v, Below w.heap.size w v → v.cell? ⟨g, 1, none⟩ = some (.map (some m1)) ∧ (Instr.lookup 99 (.map (some m1)) (.agg KL.toArray) true).run Tryz.prog v = .ok (.tuple #[.agg XC.toArray, .bool kn]) v from fun v hv => ⟨(h.quiet hv).cells.2.1, by rw [hXC]; exact hLK1 v hv⟩)
 obtain ⟨W1, hW1, h1, h2, hb1⟩ := boxes_prv w LC zw
 have EW := Hh hW1
 have H1 := Hh h1
 have H2 := Hh h2
 have Am := Hh hb1
 clear h hT hS hl hLC hKL hLI hLZ hkh A1 hbw A0 hXL hXok hLK1 hkn hXC hW1 h1 h2 hb1
 go_enter Tryz.func33, Tryz.ntmps33
 go_upto_region 1 with (fail)
 rw [← EW.o]
 obtain ⟨B, hB⟩ : ∃ y, y = w.heap.size := ⟨_, rfl⟩
 rw [← hB] at H1 H2 ⊢
 have EB := Hh hB
 clear hB EW
 go_upto_region 3 with (fail)
 go_cut [6, 7] from 8 (fun v6 v7 wx => ∃ G6, v6 = .pointer (some ⟨G6, 0, none⟩) ∧ v7 = .bool kn ∧ Has wx G6 32 XC.toArray ∧ Below W1.heap.size W1 wx)
 case first =>
  have hS0 : Below W1.heap.size W1 W1.drew := (Below.refl _ _).drew
  have Bx := Hh (show ∀ v, Below W1.heap.size W1 v → v.rangeAt B 0 LC from fun v hv => (H1.o.below hv H1.o.lt).row0)
  have Aj := Hh (show ∀ v, Below W1.heap.size W1 v → v.cell? ⟨g, 1, none⟩ = some (.map (some m1)) ∧ (Instr.lookup 99 (.map (some m1)) (.agg KL.toArray) true).run Tryz.prog v = .ok (.tuple #[.agg XC.toArray, .bool kn]) v from fun v hv => Bv.o v (Am.o.trans (hv.mono Am.o.size)))
  have Bq := Hh (show ∀ v, Below W1.heap.size W1 v → Tabs K s0 v from fun v hv => Br.o v (Am.o.trans (hv.mono Am.o.size)))
  refine wp_region_noPanic ?_
  refine wp_region_held_drew (S := (fun v => Below W1.heap.size W1 v)) (by kernel_rfl) hS0 (fun hH0 => ?_)
  apply tl 0 rfl ?hv hH0 ?_
  case hv => intro w' hS; go_simp; try rfl
  simp only [qc]
  apply tl 1 rfl ?hv hH0 ?_
  case hv => intro w' hS; have z0 := (Aj.o w' hS).1; have z1 := (Aj.o w' hS).2; go_simp; try rfl
  simp only [qc]
  apply tl 2 rfl ?hv hH0 ?_
  case hv => intro w' hS; go_simp; try rfl
  simp only [qc]
  apply tl 3 rfl ?hv hH0 ?_
  case hv => intro w' hS; have z0 := (Aj.o w' hS).1; have z1 := (Aj.o w' hS).2; go_simp; try rfl
  simp only [qc]
  refine tk 4 (v := (.agg LC.toArray)) rfl (yieldsIf_load_mid (by kernel_rfl) 32 (.tmp 3) rfl B 0 rfl LC _ (fun w' h => (Bx.o _ h)) Tryz.underlying32 rfl Ai.o) hH0 ?_
  simp only [qc]
  refine rdy [5, 10] (AllReadyH.cons rfl (fun KK hKK => ?_) (ar1 rfl fun KK hKK => ?_))
  · go_simp
    have hky := lfKey_is K s0 W1.drew (Bq.o _ hH0) l HL.o
    unfold arr at hky
    rw [← A3.o, ← A2.o] at hky
    refine hky.mono ?_
    rintro _ xk ⟨rfl, hbk⟩
    have hs5 : Below W1.heap.size W1 xk := Below.trans hH0 (hbk.mono hH0.size)
    try replace hz9 := hz9.below hbk hz9.lt
    clear hky hbk
    refine hKK _ _ hs5 fun hH1 => ?_
    clear hKK KK
    try simp only [qc]
    apply tl 6 rfl ?hv hH1 ?_
    case hv => intro w' hS; have z0 := (Aj.o w' hS).1; have z1 := (Aj.o w' hS).2; go_simp; try rfl
    simp only [qc]
    apply tl 7 rfl ?hv hH1 ?_
    case hv => intro w' hS; go_simp; try rfl
    simp only [qc]
    apply tl 8 rfl ?hv hH1 ?_
    case hv => intro w' hS; go_simp; try rfl
    simp only [qc]
    apply tl 9 rfl ?hv hH1 ?_
    case hv => intro w' hS; go_simp; try rfl
    simp only [qc]
    refine rdy [10] (ar1 rfl fun KK hKK => ?_)
    go_simp
    obtain ⟨xa, hxa⟩ : ∃ y, y = xk.alloc (.cells zl 32) := ⟨_, rfl⟩
    have Af : Below xk.heap.size xk xa := by rw [hxa]; exact (Below.refl _ _).alloc (Nat.le_refl _) _
    have Aq : Below W1.heap.size W1 xa := Below.trans hH1 (Af.mono hH1.size)
    have hz9 : Has xa xk.heap.size 32 zl := by rw [hxa]; exact Has.new _ _ _
    have hg9 : W1.heap.size ≤ xk.heap.size := hH1.size
    first | rw [← hxa] | (change KK _ (xk.alloc (.cells zl 32)); rw [← hxa])
    obtain ⟨G9, hG9⟩ : ∃ y, y = xk.heap.size := ⟨_, rfl⟩
    first | rw [← hG9] | (have hq : W1.heap.size = G9 := hG9.symm; rw [hq]; clear hq)
    rw [← hG9] at hz9 hg9
    clear hG9
    clear hxa Af
    refine hKK _ _ Aq fun hH2 => ?_
    clear hKK KK
    try simp only [qc]
    refine rdy [11] (ar1 rfl fun KK hKK => ?_)
    refine step_store_mid rfl 32 (.tmp 6) (.tmp 19) rfl G9 0 XC.toArray rfl rfl (hz9.there 0 _ (by rw [List.size_toArray, Ah.o, Ab.o]; exact Nat.le_refl _)) (by rw [List.size_toArray, Ab.o]; kernel_rfl) X1.o ?_
    have Aa := set_box hH2 hz9 hg9 (Below.size hH2) (by rw [Ah.o, Ab.o])
    obtain ⟨xb, hxb⟩ : ∃ y, y = xa.setCells G9 0 XC := ⟨_, rfl⟩
    rw [← hxb] at Aa
    change KK _ (xa.setCells G9 0 XC)
    rw [← hxb]
    have Ac := Aa.1
    clear hxb
    refine hKK _ _ Ac fun hH3 => ?_
    clear hKK KK
    try simp only [qc]
    apply tl 12 rfl ?hv hH3 ?_
    case hv => intro w' hS; go_simp; try rfl
    simp only [qc]
    refine wpAnyH_done (by kernel_rfl) ?_ _
    refine NoPanic.normal ?_
    have HG := Hh Aa.2.1
    have HS := Hh Ac
    clear Aa Ac
    go_wp2_with fail
    go_meet
    case rel => exact ⟨G9, rfl, rfl, HG.o, HS.o⟩
  · go_simp
    obtain ⟨xa, hxa⟩ : ∃ y, y = W1.drew.alloc (.cells zl 32) := ⟨_, rfl⟩
    have Af : Below W1.drew.heap.size W1.drew xa := by rw [hxa]; exact (Below.refl _ _).alloc (Nat.le_refl _) _
    have Aq : Below W1.heap.size W1 xa := Below.trans hH0 (Af.mono hH0.size)
    have hz9 : Has xa W1.drew.heap.size 32 zl := by rw [hxa]; exact Has.new _ _ _
    have hg9 : W1.heap.size ≤ W1.drew.heap.size := hH0.size
    first | rw [← hxa] | (change KK _ (W1.drew.alloc (.cells zl 32)); rw [← hxa])
    obtain ⟨G9, hG9⟩ : ∃ y, y = W1.drew.heap.size := ⟨_, rfl⟩
    first | rw [← hG9] | (have hq : W1.heap.size = G9 := hG9.symm; rw [hq]; clear hq)
    rw [← hG9] at hz9 hg9
    clear hG9
    clear hxa Af
    refine hKK _ _ Aq fun hH1 => ?_
    clear hKK KK
    try simp only [qc]
    refine rdy [5] (ar1 rfl fun KK hKK => ?_)
    go_simp
    have hky := lfKey_is K s0 xa (Bq.o _ hH1) l HL.o
    unfold arr at hky
    rw [← A3.o, ← A2.o] at hky
    refine hky.mono ?_
    rintro _ xk ⟨rfl, hbk⟩
    have hs5 : Below W1.heap.size W1 xk := Below.trans hH1 (hbk.mono hH1.size)
    try replace hz9 := hz9.below hbk hz9.lt
    clear hky hbk
    refine hKK _ _ hs5 fun hH2 => ?_
    clear hKK KK
    try simp only [qc]
    apply tl 6 rfl ?hv hH2 ?_
    case hv => intro w' hS; have z0 := (Aj.o w' hS).1; have z1 := (Aj.o w' hS).2; go_simp; try rfl
    simp only [qc]
    apply tl 7 rfl ?hv hH2 ?_
    case hv => intro w' hS; go_simp; try rfl
    simp only [qc]
    apply tl 8 rfl ?hv hH2 ?_
    case hv => intro w' hS; go_simp; try rfl
    simp only [qc]
    apply tl 9 rfl ?hv hH2 ?_
    case hv => intro w' hS; go_simp; try rfl
    simp only [qc]
    refine rdy [11] (ar1 rfl fun KK hKK => ?_)
    refine step_store_mid rfl 32 (.tmp 6) (.tmp 19) rfl G9 0 XC.toArray rfl rfl (hz9.there 0 _ (by rw [List.size_toArray, Ah.o, Ab.o]; exact Nat.le_refl _)) (by rw [List.size_toArray, Ab.o]; kernel_rfl) X1.o ?_
    have Aa := set_box hH2 hz9 hg9 (Below.size hH2) (by rw [Ah.o, Ab.o])
    obtain ⟨xb, hxb⟩ : ∃ y, y = xk.setCells G9 0 XC := ⟨_, rfl⟩
    rw [← hxb] at Aa
    change KK _ (xk.setCells G9 0 XC)
    rw [← hxb]
    have Ac := Aa.1
    clear hxb
    refine hKK _ _ Ac fun hH3 => ?_
    clear hKK KK
    try simp only [qc]
    apply tl 12 rfl ?hv hH3 ?_
    case hv => intro w' hS; go_simp; try rfl
    simp only [qc]
    refine wpAnyH_done (by kernel_rfl) ?_ _
    refine NoPanic.normal ?_
    have HG := Hh Aa.2.1
    have HS := Hh Ac
    clear Aa Ac
    go_wp2_with fail
    go_meet
    case rel => exact ⟨G9, rfl, rfl, HG.o, HS.o⟩
 case rest =>
  obtain ⟨W3, hW3⟩ : ∃ x, x = wc := ⟨_, rfl⟩
  subst hW3
  obtain ⟨G6, rfl, rfl, hg6, hb3⟩ := hcut
  have An := Hh (Am.o.trans (hb3.mono Am.o.size))
  have A6 := Hh (H1.o.below hb3 H1.o.lt)
  have Ar := Hh (H2.o.below hb3 H2.o.lt)
  have Bj := Hh hg6
  clear hg6 hb3 H1 H2 Am
  have hno : l ∉ ls → ∀ v, Has v (B + 1) 41 zw → Below w.heap.size w v → Has (v.setRow (B + 1) LZ.toArray) (B + 1) 41 LZ.toArray ∧ ProveP K s0 S w g ls m0 m1 E Z l (.returned (.tuple #[.agg LZ.toArray, .int .i64 5])) (v.setRow (B + 1) LZ.toArray) := fun hn v hv hb => by
    have hb' : Below w.heap.size w (v.setRow (B + 1) LZ.toArray) := hb.trans ((kept_setRow (g := B + 1) v LZ.toArray).below hb.size (fun j e => by have e' : j = B + 1 := e; have := EB.o; omega))
    refine ⟨hv.setRow, H.o.quiet hb', Kept.of_below hb', .inr ⟨hn, zPf, zPf, by rw [Be.o], rfl, rfl, zPf_at _, zPf_at _⟩⟩
  have Bn := Hh hno
  have Ak := Hh (show (Tryz.prog.info? 41).map (·.size) = some LZ.toArray.size ∧ zw.size = LZ.toArray.size ∧ LZ.toArray.all (·.oneCell') = true by
    rw [Be.o]
    have := Au.o zPf zPf (zPf_at w).hash (zPf_at w).hash
    exact ⟨this.1, by rw [List.size_toArray]; exact this.2, waysC_one _ _⟩)
  clear hno
  cases kn with
  | false =>
    have A8 := Hh (show l ∉ ls by
     rcases Bl.o with ⟨e, _⟩ | ⟨_, e⟩
     · cases e
     · exact e)
    go_wp2_with (first
     | (refine wpList_build_run rfl 41 #[] rfl #[] (by kernel_rfl) (.agg LZ.toArray) (Bh.o _) ?_)
     | (refine wpList_store_row rfl 41 (.tmp 4) (.tmp 28) rfl (B + 1) LZ.toArray rfl rfl 41 zw Ar.o Ak.o.1 Ak.o.2.1 Ak.o.2.2 ?_))
    have HF := Hh (Bn.o A8.o W3 Ar.o An.o)
    refine bodyPost_ret (results_cell_tmp rfl _ _ (B + 1) 41 LZ.toArray (0, 0) _ rfl rfl HF.o.1 Tryz.underlying41 Ak.o.1) rfl ?_
    exact HF.o.2
  | true =>
    obtain ⟨b, hb⟩ : ∃ b, b = decide (XL = l) := ⟨_, rfl⟩
    have Bm := Hh (show ∀ v, (binOp .neq 32 (.agg XC.toArray) (.agg LC.toArray)).run Tryz.prog v = .ok (.bool (!b)) v from fun v => by rw [run_neq_struct, Bt.o, ← hb]; rfl)
    have Bi := Hh (show ∀ v, (eqGuard .neq 32 (.tmp 24) (.tmp 25) (.agg XC.toArray) (.agg LC.toArray)).run Tryz.prog v = .ok () v from fun v => by first | rfl | simp [eqGuard])
    have Bf := Hh (show b = decide (l ∈ ls) by
     rcases Bl.o with ⟨_, e⟩ | ⟨e, _⟩
     · rw [hb, decide_eq_decide]; exact e
     · cases e)
    clear hb
    cases b with
    | false =>
     have A8 := Hh (show l ∉ ls from of_decide_eq_false Bf.o.symm)
     have Ba := Hh Bj.o.row0
     have A9 := Hh A6.o.row0
     have Ao := Hh (show (Tryz.prog.info? 32).map (·.size) = some XC.length by rw [Ab.o]; kernel_rfl)
     go_wp2_with (first
       | (refine wpList_load_midG rfl 32 (.tmp 6) rfl G6 0 rfl XC _ Ba.o Tryz.underlying32 rfl Ao.o ?_)
       | (refine wpList_load_midG rfl 32 (.tmp 3) rfl B 0 rfl LC _ A9.o Tryz.underlying32 rfl Ai.o ?_)
       | (refine wpList_neq_run rfl 32 _ (.tmp 24) (.tmp 25) rfl (.agg XC.toArray) (.agg LC.toArray) rfl rfl true (Bm.o _) (Bi.o _) ?_)
       | (refine wpList_build_run rfl 41 #[] rfl #[] (by kernel_rfl) (.agg LZ.toArray) (Bh.o _) ?_)
       | (refine wpList_store_row rfl 41 (.tmp 4) (.tmp 28) rfl (B + 1) LZ.toArray rfl rfl 41 zw Ar.o Ak.o.1 Ak.o.2.1 Ak.o.2.2 ?_))
     have HF := Hh (Bn.o A8.o W3 Ar.o An.o)
     refine bodyPost_ret (results_cell_tmp rfl _ _ (B + 1) 41 LZ.toArray (0, 0) _ rfl rfl HF.o.1 Tryz.underlying41 Ak.o.1) rfl ?_
     exact HF.o.2
    | true =>
     have Bk := Hh (show l ∈ ls from of_decide_eq_true Bf.o.symm)
     have Ba := Hh Bj.o.row0
     have A9 := Hh A6.o.row0
     have Ao := Hh (show (Tryz.prog.info? 32).map (·.size) = some XC.length by rw [Ab.o]; kernel_rfl)
     go_upto_region 6 with (first
       | (refine wpList_load_midG rfl 32 (.tmp 6) rfl G6 0 rfl XC _ Ba.o Tryz.underlying32 rfl Ao.o ?_)
       | (refine wpList_load_midG rfl 32 (.tmp 3) rfl B 0 rfl LC _ A9.o Tryz.underlying32 rfl Ai.o ?_)
       | (refine wpList_neq_run rfl 32 _ (.tmp 24) (.tmp 25) rfl (.agg XC.toArray) (.agg LC.toArray) rfl rfl false (Bm.o _) (Bi.o _) ?_))
     obtain ⟨qg, hqE⟩ : ∃ qg, (l.id, qg) ∈ E := by
       have h1 : l.id ∈ E.map (·.1) := by rw [H.o.ids]; exact (ids_mem ls l.id).2 ⟨l, Bk.o, rfl⟩
       obtain ⟨e, he, e2⟩ := List.mem_map.1 h1
       exact ⟨e.2, by rw [← e2]; exact he⟩
     have HE := Hh hqE
     have Aw : (E.map (·.1)).Nodup := by rw [H.o.ids]; exact ids_nodup ls
     have hcm : CmAt K s0 (fun k => S k ∧ k < w.heap.size) W3.drew g ls m0 m1 E Z := ((H.o.zoneS (S' := fun k => S k ∧ k < w.heap.size) (fun k h1 h2 => ⟨h2, h1⟩)).quiet An.o.drew)
     have HU := Hh (show ∀ k, (∃ e ∈ E, Z e.2 k) → k < w.heap.size ∧ S k ∧ k ≠ g ∧ k ≠ m0 from fun k ⟨e, he, hz⟩ => by have := H.o.zone e he k hz; exact ⟨this.1, this.2.1, this.2.2.1, this.2.2.2.1⟩)
     have Bw := Hh (show g < w.heap.size ∧ m0 < w.heap.size from ⟨H.o.obj.lt, H.o.map0.lt⟩)
     have Ax : ∀ v, MapIs v m0 (E.map entP) → (Instr.lookup 98 (.map (some m0)) (.agg LI.toArray) false).run Tryz.prog v = .ok (.pointer (some ⟨qg, 0, none⟩)) v := fun v hv => by
       have := lookup_is (T := 98) Tryz.underlying98 zero_ptrT hv HL.o.id
       rw [look_mem2 (by rw [ids_ents]; exact Aw) (List.mem_map.2 ⟨_, hqE, rfl⟩)] at this
       unfold arr at this
       rw [← A5.o] at this
       exact this
     have Ag := Hh (show ∀ v, Kept (fun k => (∃ e ∈ E, Z e.2 k) ∨ k = B + 1) W3 v → v.cell? ⟨g, 0, none⟩ = some (.map (some m0)) ∧ (Instr.lookup 98 (.map (some m0)) (.agg LI.toArray) false).run Tryz.prog v = .ok (.pointer (some ⟨qg, 0, none⟩)) v ∧ v.rangeAt B 0 LC ∧ v.rangeAt B 0 LI from fun v hv => by
       have a1 := EB.o
       have a2 := Bw.o
       have c3 := H.o.quiet An.o
       have ho := c3.obj.kept hv (fun e => by rcases e with e | e; exact (HU.o _ e).2.2.1 rfl; omega)
       have hm := c3.map0.kept hv (fun e => by rcases e with e | e; exact (HU.o _ e).2.2.2 rfl; omega)
       have hb := A6.o.kept hv (fun e => by rcases e with e | e; (have := (HU.o _ e).1; omega); omega)
       have hbi : v.rangeAt B 0 LI := by rw [A5.o]; rw [A3.o] at hb; exact coL_id hb
       exact ⟨ho.cell_is rfl, Ax v hm, hb.row0, hbi⟩)
     have A4 := Hh (show ∀ v, Kept (fun k => (∃ e ∈ E, Z e.2 k) ∨ k = B + 1) W3 v → Tabs K s0 v from fun v hv => (Br.o W3 An.o).kept hv (fun k e => by
       rcases e with e | e
       · exact HS.o k (HU.o k e).2.1
       · have a1 := EB.o; have a2 := HT.o.low; omega))
     have hz : Has W3.drew (B + 1) 41 zw := Ar.o
     have Bu := Hh (show IsHash (keyK K s0 l) from tagD_hash K s0 HT.o.len _ _)
     have By := Hh (show ∀ k, (S k ∧ k < w.heap.size) → 2 + 1 ≤ k from fun k hk => HS.o k hk.1)
     have Bp := Hh (show w.heap.size ≤ W3.heap.size from An.o.size)
     have Bo := Hh (show ∀ k, (∃ e ∈ E, Z e.2 k) → k ≠ B + 1 from fun k e => by have a1 := (HU.o k e).1; have a2 := EB.o; omega)
     have Bg := Hh (show B + 1 < W3.heap.size from Ar.o.lt)
     have hS0 : Kept (fun k => (∃ e ∈ E, Z e.2 k) ∨ k = B + 1) W3 W3.drew := (Kept.refl _ _).drew
     clear Aw Ax hqE
     refine wp_region_noPanic ?_
     refine wp_region_held_drew (S := (fun v => Kept (fun k => (∃ e ∈ E, Z e.2 k) ∨ k = B + 1) W3 v)) (by kernel_rfl) hS0 (fun hH0 => ?_)
     apply tl 0 rfl ?hv hH0 ?_
     case hv => intro w' hS; go_simp; try rfl
     simp only [qc]
     apply tl 1 rfl ?hv hH0 ?_
     case hv => intro w' hS; have z0 := (Ag.o w' hS).1; have z1 := (Ag.o w' hS).2.1; go_simp; try rfl
     simp only [qc]
     apply tl 2 rfl ?hv hH0 ?_
     case hv => intro w' hS; go_simp; try rfl
     simp only [qc]
     apply tl 3 rfl ?hv hH0 ?_
     case hv => intro w' hS; have z0 := (Ag.o w' hS).1; have z1 := (Ag.o w' hS).2.1; go_simp; try rfl
     simp only [qc]
     apply tl 4 rfl ?hv hH0 ?_
     case hv => intro w' hS; go_simp; try rfl
     simp only [qc]
     refine tk 5 (v := (.agg LI.toArray)) rfl (yieldsIf_load_mid (by kernel_rfl) 27 (.tmp 33) rfl B 0 rfl LI _ (fun w' h => (Ag.o _ h).2.2.2) Tryz.underlying27 rfl Bs.o) hH0 ?_
     simp only [qc]
     apply tl 6 rfl ?hv hH0 ?_
     case hv => intro w' hS; have z0 := (Ag.o w' hS).1; have z1 := (Ag.o w' hS).2.1; go_simp; try rfl
     simp only [qc]
     refine tk 7 (v := (.agg LC.toArray)) rfl (yieldsIf_load_mid (by kernel_rfl) 32 (.tmp 3) rfl B 0 rfl LC _ (fun w' h => (Ag.o _ h).2.2.1) Tryz.underlying32 rfl Ai.o) hH0 ?_
     simp only [qc]
     apply tl 10 rfl ?hv hH0 ?_
     case hv => intro w' hS; go_simp; try rfl
     simp only [qc]
     apply tl 12 rfl ?hv hH0 ?_
     case hv => intro w' hS; go_simp; try rfl
     simp only [qc]
     refine tk 13 (v := (.agg LI.toArray)) rfl (yieldsIf_load_mid (by kernel_rfl) 27 (.tmp 41) rfl B 0 rfl LI _ (fun w' h => (Ag.o _ h).2.2.2) Tryz.underlying27 rfl Bs.o) hH0 ?_
     simp only [qc]
     refine rdy [8] (ar1 rfl fun KK hKK => ?_)
     go_simp
     have hky := lfKey_is K s0 W3.drew (A4.o _ hH0) l HL.o
     unfold arr at hky
     rw [← A3.o, ← A2.o] at hky
     refine hky.mono ?_
     rintro _ xk ⟨rfl, hbk⟩
     have hs8 : Kept (fun k => (∃ e ∈ E, Z e.2 k) ∨ k = B + 1) W3 xk := Kept.trans hH0 (Kept.of_below hbk)
     replace hcm := hcm.quiet hbk
     replace hz := hz.below hbk hz.lt
     clear hky hbk
     refine hKK _ _ hs8 fun hH1 => ?_
     clear hKK KK
     try simp only [qc]
     refine rdy [9] (ar1 rfl fun KK hKK => ?_)
     go_simp
     have hmk := mkProof_is K s0 (Z qg) xk (A4.o _ hH1) qg (lowT K s0 ls l.id) (hcm.trees _ HE.o) (hcm.low _ HE.o) (keyK K s0 l) Bu.o
     unfold arr at hmk
     rw [← A2.o] at hmk
     refine hmk.mono ?_
     rintro _ xm ⟨bb, pa, pn, pc, rfl, hmd⟩
     have hs9 : Kept (fun k => (∃ e ∈ E, Z e.2 k) ∨ k = B + 1) W3 xm := Kept.trans hH1 (hmd.kept.mono (fun k _ e => .inl ⟨_, HE.o, e⟩))
     replace hcm := hcm.root HE.o hmd.tr hmd.kept
     replace hz := hz.kept hmd.kept (fun e => Bo.o _ ⟨_, HE.o, e⟩ rfl)
     obtain ⟨p, hpb, hpa, hpn, hpc, hof⟩ := made_of hmd
     subst hpb hpa hpn hpc
     have Ad := Hh (hof.more (show W3.heap.size ≤ xk.heap.size from Kept.size hH1))
     have Bc := Hh (show w.heap.size ≤ xm.heap.size ∧ W3.heap.size ≤ xm.heap.size from ⟨Nat.le_trans Bp.o hs9.size, hs9.size⟩)
     have hkx : Kept (fun k => (∃ e ∈ E, Z e.2 k) ∨ xm.heap.size ≤ k) xm xm := Kept.refl _ _
     clear hmk hmd hof
     refine hKK _ _ hs9 fun hH2 => ?_
     clear hKK KK
     try simp only [qc]
     refine rdy [11] (ar1 rfl fun KK hKK => ?_)
     go_simp
     refine (coAll_at hcm (A4.o _ hH2) By.o).mono ?_
     rintro _ xl ⟨ga, T, Za, rfl, Al, hta, hza, hlo, hcl, hkl⟩
     have Ay : Kept (fun k => (∃ e ∈ E, Z e.2 k) ∨ k = B + 1) W3 xl := Kept.trans hH2 (hkl.mono (fun k _ e => .inl e))
     replace hcm := hcl
     replace hz := hz.kept hkl (fun e => Bo.o _ e rfl)
     replace hkx := hkx.trans (hkl.mono (fun k _ e => .inl e))
     clear hcl hkl
     refine hKK _ _ Ay fun hH3 => ?_
     clear hKK KK
     try simp only [qc]
     refine rdy [14] (ar1 rfl fun KK hKK => ?_)
     go_simp
     have hmk := mkProof_is K s0 Za xl (A4.o _ hH3) ga T hta hlo l.id HL.o.id
     unfold arr at hmk
     rw [← A5.o] at hmk
     refine hmk.mono ?_
     rintro _ xn ⟨bb, pa, pn, pc, rfl, hmd⟩
     have Az : Kept (fun k => (∃ e ∈ E, Z e.2 k) ∨ k = B + 1) W3 xn := Kept.step hH3 hmd.kept (fun k e => .inr (Nat.le_trans Bc.o.2 (hza k e)))
     replace hcm := hcm.kept hmd.kept (fun k _ e1 e2 => by have a1 := hza k e2; have a2 := e1.2; have a3 := Bc.o.1; omega)
     replace hz := hz.kept hmd.kept (fun e => by have a1 := hza _ e; have a2 := Bc.o.2; have a3 := Bg.o; omega)
     replace hkx := hkx.trans (hmd.kept.mono (fun k _ e => .inr (hza k e)))
     obtain ⟨q, hqb, hqa, hqn, hqc, hof⟩ := made_of hmd
     subst hqb hqa hqn hqc
     have Ae := Hh (hof.more (show W3.heap.size ≤ xl.heap.size from Kept.size hH3))
     have As := Hh Al
     clear hmk hmd hof hta hza hlo Al
     refine hKK _ _ Az fun hH4 => ?_
     clear hKK KK
     try simp only [qc]
     refine tk 15 (v := (.agg (waysC p q).toArray)) rfl (yieldsIf_build (by kernel_rfl) 41 #[(0, .tmp 38), (1, .tmp 43)] rfl #[(0, .agg p.cells.toArray), (1, .agg q.cells.toArray)] (by kernel_rfl) _ (fun w' _ => build_ways p q Ad.o.at_.hash Ae.o.at_.hash w')) hH4 ?_
     simp only [qc]
     refine rdy [16] (ar1 rfl fun KK hKK => ?_)
     refine step_store_mid rfl 41 (.tmp 4) (.tmp 44) rfl (B + 1) 0 (waysC p q).toArray rfl rfl (hz.there 0 _ (by rw [List.size_toArray, (Au.o p q Ad.o.at_.hash Ae.o.at_.hash).2]; exact Nat.le_of_eq (Nat.zero_add _))) (Au.o p q Ad.o.at_.hash Ae.o.at_.hash).1 (waysC_one p q) ?_
     have Aa := set_box (B := 0) (W := xn) ⟨rfl, rfl, rfl, Nat.le_refl _, fun k hk => absurd hk (Nat.not_lt_zero k)⟩ hz (Nat.zero_le _) (Nat.zero_le _) (Au.o p q Ad.o.at_.hash Ae.o.at_.hash).2
     obtain ⟨xb, hxb⟩ : ∃ y, y = xn.setCells (B + 1) 0 (waysC p q) := ⟨_, rfl⟩
     rw [← hxb] at Aa
     change KK _ (xn.setCells (B + 1) 0 (waysC p q))
     rw [← hxb]
     have Ap : Kept (fun k => (∃ e ∈ E, Z e.2 k) ∨ k = B + 1) W3 xb := Kept.trans hH4 (Aa.2.2.mono (fun k _ e => .inr e))
     clear hxb
     refine hKK _ _ Ap fun hH5 => ?_
     clear hKK KK
     try simp only [qc]
     apply tl 17 rfl ?hv hH5 ?_
     case hv => intro w' hS; go_simp; try rfl
     simp only [qc]
     refine wpAnyH_done (by kernel_rfl) ?_ _
     refine NoPanic.normal ?_
     have hk5 : Kept (fun k => k = B + 1) xn xb := Aa.2.2
     have Av : ProveP K s0 S w g ls m0 m1 E Z l (.returned (.tuple #[.agg (waysC p q).toArray, .int .i64 0])) xb := by
       have a0 := EB.o
       have a1 := Bp.o
       have a2 := Bg.o
       refine ⟨(hcm.kept hk5 (fun k _ e1 e2 => by have a3 := e1.2; have a4 : k = B + 1 := e2; omega)).zoneS (fun k _ e => e.1), ((Kept.of_below An.o).step Ap (fun k e => ?_)), .inl ⟨Bk.o, p, q, T, rfl, ?_, As.o, ?_⟩⟩
       · rcases e with e | e
         · exact .inl e
         · exact .inr (by omega)
       · refine ((Ad.o.kept2 hkx (fun k e => ?_)).kept2 hk5 (fun k e => .inl (by have a4 : k = B + 1 := e; omega))).more a1
         rcases e with e | e
         · exact .inl (by have a3 := (HU.o k e).1; omega)
         · exact .inr e
       · exact (Ae.o.kept2 hk5 (fun k e => .inl (by have a4 : k = B + 1 := e; omega))).more a1
     have A7 := Hh Av
     have Bb := Hh Aa.2.1
     have Bz := Hh (Au.o p q Ad.o.at_.hash Ae.o.at_.hash).1
     clear Av Aa hs8 hs9 Ay Az Ap hS0 hcm hz hkx hk5
     go_wp2_with fail
     refine bodyPost_ret (results_cell_tmp rfl _ _ (B + 1) 41 (waysC p q).toArray (0, 0) _ rfl rfl Bb.o Tryz.underlying41 Bz.o) rfl ?_
     exact A7.o
end
/- Plain laws of a proof's bytes. -/

def num8 (l : List Nat) : Nat := l.foldl (fun x c => x * 256 + c) 0
theorem num8_snoc (l : List Nat) (c : Nat) : num8 (l ++ [c]) = num8 l * 256 + c := by simp [num8]
theorem num8_lt : ∀ (n : Nat) (l : List Nat), l.length = n → (∀ x ∈ l, x < 256) → num8 l < 256 ^ n := by
 intro n
 induction n with
 | zero => intro l hl _; obtain rfl := List.length_eq_zero_iff.1 hl; decide
 | succ n ih =>
  intro l hl hx
  obtain ⟨l', c, rfl⟩ : ∃ l' c, l = l' ++ [c] := ⟨l.dropLast, l.getLast (by intro e; subst e; simp at hl), (List.dropLast_concat_getLast _).symm⟩
  have h1 := ih l' (by simpa using hl) (fun x h => hx x (List.mem_append_left _ h))
  have h2 := hx c (by simp)
  rw [num8_snoc, Nat.pow_succ]
  omega
def cntF (bare : Nat → Bool) (h : Nat) : Nat := ((List.range h).filter fun j => !bare j).length
def decNd (b : List Nat) (k : Nat) : Nd := ⟨(b.drop (32 + 40 * k)).take 32, num8 ((b.drop (32 + 40 * k + 32)).take 8)⟩
def decNds (b : List Nat) (n : Nat) : List Nd := (List.range n).map (decNd b)
theorem decNds_succ (b : List Nat) (n : Nat) : decNds b (n + 1) = decNds b n ++ [decNd b n] := by simp [decNds, List.range_succ]
theorem decNds_len (b : List Nat) (n : Nat) : (decNds b n).length = n := by simp [decNds]
def decP (b : List Nat) : Except Nat (List Nd) :=
 if b.length < 32 then .error 20
 else if b.length < 32 + 40 * cntF (bareB (b.take 32)) 256 then .error 20
 else if 32 + 40 * cntF (bareB (b.take 32)) 256 < b.length then .error 24
 else .ok (decNds b (cntF (bareB (b.take 32)) 256))
theorem decP_done {b : List Nat} (h32 : ¬ b.length < 32) (hl : 32 + 40 * cntF (bareB (b.take 32)) 256 = b.length) : decP b = .ok (decNds b (cntF (bareB (b.take 32)) 256)) := by
 unfold decP; rw [if_neg h32, if_neg (by omega), if_neg (by omega)]
theorem dec_hash {b : List Nat} (hb : ∀ x ∈ b, x < 256) {k : Nat} (h : 32 + 40 * (k + 1) ≤ b.length) : IsHash (decNd b k).h ∧ (decNd b k).s < 18446744073709551616 := by
 refine ⟨⟨by simp only [decNd, List.length_take, List.length_drop]; omega, fun x hx => hb x (List.mem_of_mem_drop (List.mem_of_mem_take hx))⟩, ?_⟩
 exact num8_lt 8 _ (by simp only [List.length_take, List.length_drop]; omega) (fun x hx => hb x (List.mem_of_mem_drop (List.mem_of_mem_take hx)))
theorem nds_hash {b : List Nat} (hb : ∀ x ∈ b, x < 256) {n : Nat} (h : 32 + 40 * n ≤ b.length) : ∀ x ∈ decNds b n, IsHash x.h ∧ x.s < 18446744073709551616 := by
 intro x hx
 obtain ⟨k, hk, rfl⟩ := List.mem_map.1 hx
 exact dec_hash hb (by have := List.mem_range.1 hk; omega)
section
/- The walk of proof.Decode. -/

def decE (bs : List Nat) : Nat := match decP bs with | .error e => e | .ok _ => 0
def decB (bs : List Nat) : List Nat := match decP bs with | .error _ => List.replicate 32 0 | .ok _ => bs.take 32
def decX (bs : List Nat) : List Nd := match decP bs with | .error _ => [] | .ok xs => xs
theorem dec_okE {bs : List Nat} {xs : List Nd} (h : decP bs = .ok xs) : decE bs = 0 ∧ decB bs = bs.take 32 ∧ decX bs = xs := by unfold decE decB decX; rw [h]; exact ⟨rfl, rfl, rfl⟩
def DecOut (w : World) (bs : List Nat) (e : Ending) (w' : World) : Prop :=
 ∃ a c, e = .returned (.tuple #[.agg (pcells (decB bs) a (decX bs).length c).toArray, .int .i64 (decE bs : Nat)]) ∧ NodesAt w' a (decX bs).length (decX bs) ∧ (∀ A, a = some A → w.heap.size ≤ A.block) ∧ Below w.heap.size w w'
structure DecW (w : World) (bs : List Nat) (B2 B4 : Nat) (Zp : Array Value) (n : Nat) (v : Value) (a : Option Addr) (c : Nat) (wr : World) : Prop where
 p : Has wr B4 39 (pcells (bs.take 32) a n c).toArray
 r : Has wr B2 39 Zp
 own : wr.ownsRow w.heap.size 30 33 (.slice a n c) n ((decNds bs n).flatMap ndV)
 src : Bytes w w.heap.size v (bs.drop (32 + 40 * n))
 bel : Below w.heap.size w wr
variable {w : World} {bs : List Nat} {B2 B4 : Nat} {Zp : Array Value} {n : Nat} {v : Value} {a : Option Addr} {c : Nat} {wr wr' : World}
theorem DecW.below (h : DecW w bs B2 B4 Zp n v a c wr) (hb : Below wr.heap.size wr wr') : DecW w bs B2 B4 Zp n v a c wr' :=
 ⟨h.p.below hb h.p.lt, h.r.below hb h.r.lt, own_kept h.own (Kept.of_below (S := fun _ => False) hb) (fun _ _ e => e), h.src, h.bel.trans (hb.mono h.bel.size)⟩
theorem DecW.kept {S : Nat → Prop} (h : DecW w bs B2 B4 Zp n v a c wr) (hk : Kept S wr wr') (h2 : ¬ S B2) (h4 : ¬ S B4) (ho : ∀ j, (Value.slice a n c).ownBlock = some j → ¬ S j) (hb : ∀ j, S j → w.heap.size ≤ j) : DecW w bs B2 B4 Zp n v a c wr' :=
 ⟨h.p.kept hk h4, h.r.kept hk h2, own_kept h.own hk ho, h.src, h.bel.trans (hk.below h.bel.size hb)⟩
theorem DecW.put (h : DecW w bs B2 B4 Zp n v a c wr) (hpl : w.heap.size ≤ B2 ∧ B2 < B4) (hh : IsHash (bs.take 32)) {C : Obj} {g7 cap7 : Nat} {w7 : World}
   (ho : w7.ownsRow w.heap.size 30 33 (.slice (some ⟨g7, 0, none⟩) (n + 1) cap7) (n + 1) ((decNds bs n).flatMap ndV ++ ndV (decNd bs n))) (hg : (wr.alloc C).grownBy w7 (Value.slice a n c).ownBlock) {v' : Value} (hv : Bytes w w.heap.size v' (bs.drop (32 + 40 * (n + 1)))) :
   Has w7 B4 39 (pcells (bs.take 32) a n c).toArray ∧ DecW w bs B2 B4 Zp (n + 1) v' (some ⟨g7, 0, none⟩) cap7 (w7.setCell ⟨B4, 32, none⟩ (.slice (some ⟨g7, 0, none⟩) (n + 1) cap7)) := by
 have hk1 : Kept (fun j => (Value.slice a n c).ownBlock = some j) wr w7 := ((Kept.refl _ wr).alloc _).grown hg (fun j e => .inl e)
 have hp7 := h.p.kept hk1 (fun e => own_has_ne h.own h.p (by decide) B4 e rfl)
 have hp8 := hp7.set 32 (.slice (some ⟨g7, 0, none⟩) (n + 1) cap7)
 rw [pcells_put hh] at hp8
 have hk2 : Kept (· = B4) w7 (w7.setCell ⟨B4, 32, none⟩ (.slice (some ⟨g7, 0, none⟩) (n + 1) cap7)) := (Kept.refl (· = B4) w7).set (p := ⟨B4, 32, none⟩) (.inl rfl) _
 have hk3 : Kept (fun j => j = B4 ∨ (Value.slice a n c).ownBlock = some j) wr (w7.setCell ⟨B4, 32, none⟩ (.slice (some ⟨g7, 0, none⟩) (n + 1) cap7)) := (hk1.mono (fun _ _ e => .inr e)).step hk2 (fun j e => .inl (.inl e))
 refine ⟨hp7, hp8, h.r.kept hk3 (fun e => e.elim (fun e => by omega) (fun e => own_has_ne h.own h.r (by decide) B2 e rfl)), ?_, hv, h.bel.trans (hk3.below h.bel.size (fun j e => ?_))⟩
 · rw [decNds_succ, List.flatMap_append]
   refine own_kept (by rw [List.flatMap_singleton]; exact ho) hk2 (fun j e1 e2 => own_has_ne ho hp7 (by decide) j e1 e2)
 · rcases e with e | e
   · omega
   · exact (h.own.lt j e).1
theorem DecW.done (h : DecW w bs B2 B4 Zp n v a c wr) (hpl : w.heap.size ≤ B2 ∧ B2 < B4) (hx : ∀ x ∈ bs, x < 256) (h32 : ¬ bs.length < 32) (hn : n = cntF (bareB (bs.take 32)) 256) (hl : 32 + 40 * n = bs.length) {cs : Array Value} :
   DecOut w bs (.returned (.tuple #[.agg (pcells (bs.take 32) a n c).toArray, .int .i64 0])) (wr.setRow B2 cs) := by
 have hd := decP_done h32 (by rw [← hn]; exact hl)
 rw [← hn] at hd
 obtain ⟨h1, h2, h3⟩ := dec_okE hd
 have hk := kept_setRow (g := B2) wr cs
 have hno := own_nodes (own_kept h.own hk (fun j e1 e2 => own_has_ne h.own h.r (by decide) j e1 e2)) (decNds_len bs n) (fun x hxx => (nds_hash hx (by omega) x hxx).1) (fun x hxx => (nds_hash hx (by omega) x hxx).2)
 refine ⟨a, c, ?_, ?_, fun A hA => (h.own.lt A.block (by rw [hA]; rfl)).1, h.bel.trans (hk.below h.bel.size (fun j e => by have e' : j = B2 := e; omega))⟩
 · rw [h1, h2, h3, decNds_len]; rfl
 · rw [h3, decNds_len]; exact hno.1
end
/- The walk of commit's Decode. -/

def WdP (w : World) (R : Except Nat (List Nat × List Nat)) (e : Ending) (w' : World) : Prop :=
 Below w.heap.size w w' ∧ match R with
  | .error x => e = .returned (.tuple #[.agg (waysC zPf zPf).toArray, .int .i64 (x : Int)])
  | .ok uv => ∃ p q : Pf, e = .returned (.tuple #[.agg (waysC p q).toArray, .int .i64 0]) ∧ p.At w' ∧ q.At w' ∧ p.b = decB uv.1 ∧ p.xs = decX uv.1 ∧ q.b = decB uv.2 ∧ q.xs = decX uv.2 ∧ (∀ A, p.a = some A → w.heap.size ≤ A.block) ∧ (∀ A, q.a = some A → w.heap.size ≤ A.block)
section
/- The plain law of commits: a proof that was made leads to what is said of all. -/

variable {K s0 : List Wd} {ls : List LeafT} {l : LeafT} {p q : Pf} {N : Nat} {w : World} {T : List Lf}
theorem low_find (h : Fine K s0 ls) (hl : l ∈ ls) : findT (lowT K s0 ls l.id) (keyK K s0 l) = some (lfL K s0 l) := by
 have hn : ((lowT K s0 ls l.id).map (·.k)).Nodup := by
  rw [low_keys]
  exact (List.Sublist.map _ List.filter_sublist).nodup h.keys
 have hm : lfL K s0 l ∈ lowT K s0 ls l.id := by
  unfold lowT ofId
  exact List.mem_map.2 ⟨l, List.mem_filter.2 ⟨hl, by simp⟩, rfl⟩
 exact find_mem hn hm
theorem top_find (hm : l.id ∈ idsOf ls) : findT (topT K s0 ls) l.id = some (topL K s0 ls l.id) := by
 have hn : ((topT K s0 ls).map (·.k)).Nodup := by
  have e : (topT K s0 ls).map (·.k) = idsOf ls := by
   unfold topT
   rw [List.map_map]
   have : (Lf.k ∘ topL K s0 ls) = id := rfl
   rw [this, List.map_id]
  rw [e]
  exact ids_nodup ls
 exact find_mem hn (List.mem_map.2 ⟨l.id, hm, rfl⟩)
theorem find_perm {T U : List Lf} (h : T.Perm U) (hT : (T.map (·.k)).Nodup) {k : List Nat} {t : Lf} (hu : findT U k = some t) : findT T k = some t := by
 obtain ⟨e1, e2⟩ := find_key hu
 have := find_mem hT (h.mem_iff.2 e2)
 rw [e1] at this
 exact this
theorem low_root (hs0 : s0.length = 8) (h : Fine K s0 ls) (hl : l ∈ ls) (ho : p.Of K s0 (lowT K s0 ls l.id) (keyK K s0 l) N w) : lowR K s0 p l = .ok (partNd K s0 256 (lowT K s0 ls l.id)) := by
 have Aa : sumT (lowT K s0 ls l.id) < 18446744073709551616 := by
  rw [low_sum]
  have a1 := of_le ls l.id
  have a2 := h.fit
  omega
 have hkh : IsHash (keyK K s0 l) := tagD_hash K s0 hs0 _ _
 have ht := pf_tree (low_keyed hs0 h.keys l.id) Aa hkh ho.bits
 have hv : valT (lowT K s0 ls l.id) (keyK K s0 l) = leafB l := by unfold valT; rw [low_find h hl]; rfl
 have hw : wasS (lowT K s0 ls l.id) (keyK K s0 l) = l.am := by unfold wasS; rw [low_find h hl]; rfl
 rw [← ho.nodes, hv, hw] at ht
 exact ht
theorem high_root (hs0 : s0.length = 8) (h : Fine K s0 ls) (hl : l ∈ ls) (hp : T.Perm (topT K s0 ls)) (hk : Keyed (T.map (·.k))) (ho : q.Of K s0 T l.id N w) : highR K s0 q l.id (partNd K s0 256 (lowT K s0 ls l.id)) = .ok (partNd K s0 256 (topT K s0 ls)) := by
 have Aa : sumT T < 18446744073709551616 := by
  rw [perm_sum hp]
  unfold topT
  rw [top_sum hs0 h]
  have a1 := ids_sum ls _ (ids_nodup ls)
  have a2 := h.fit
  omega
 have hm : l.id ∈ idsOf ls := (ids_mem ls l.id).2 ⟨l, hl, rfl⟩
 have hf := find_perm hp hk.nodup (top_find (K := K) (s0 := s0) hm)
 have ht := pf_tree hk Aa (h.ok l hl).id ho.bits
 obtain ⟨P, hP⟩ : ∃ P, P = partNd K s0 256 (lowT K s0 ls l.id) := ⟨_, rfl⟩
 have htl : topL K s0 ls l.id = ⟨l.id, P.h, P.s⟩ := by unfold topL; rw [← hP]
 rw [htl] at hf
 have hv : valT T l.id = P.h := by unfold valT; rw [hf]
 have hw : wasS T l.id = P.s := by unfold wasS; rw [hf]
 rw [← ho.nodes, hv, hw, top_perm h hp hk] at ht
 rw [← hP]
 exact ht
theorem lead_made (hs0 : s0.length = 8) (h : Fine K s0 ls) (hl : l ∈ ls) (hp : T.Perm (topT K s0 ls)) (ho : p.Of K s0 (lowT K s0 ls l.id) (keyK K s0 l) N w) (ho2 : q.Of K s0 T l.id N w) : leadR K s0 p q l = .ok (anchorOf K s0 ls) := by
 have hk : Keyed (T.map (·.k)) := by
  have hk0 := top_keyed (K := K) (s0 := s0) h
  have hpm : (T.map (·.k)).Perm ((topT K s0 ls).map (·.k)) := hp.map _
  exact ⟨fun k hk => hk0.hash k (hpm.mem_iff.1 hk), hpm.nodup_iff.2 hk0.nodup⟩
 have hne : ls ≠ [] := fun e => by rw [e] at hl; cases hl
 rw [lead_ok (by rw [h.good l hl]; decide) (low_root hs0 h hl ho) (high_root hs0 h hl hp hk ho2)]
 unfold anchorOf
 rw [if_neg hne]
/-! the head's leaf -/
theorem hZ_hash : IsHash hZ := ⟨rfl, fun k hk => by rw [List.eq_of_mem_replicate hk]; decide⟩
theorem hL_ok : hL.ok := ⟨hZ_hash, by decide, hZ_hash, by decide, by decide, ⟨by decide, by decide⟩, by decide⟩
theorem hA_ok : hA.ok := ⟨hZ_hash, by decide, hZ_hash, by decide, by decide, hZ_hash, by decide⟩
theorem head_add : addE KS SS [] hL = 0 := by
 unfold addE
 rw [if_neg (by decide), if_neg (by simp), if_neg (by decide), if_pos (by decide)]
theorem head_addC : addC KS SS [] hL = [hL] := by unfold addC; rw [if_pos head_add]; rfl
theorem head_tot : amS (ofId [hL] hZ) = 7 := by decide
theorem head_low : lowT KS SS [hL] hL.id = [⟨keyK KS SS hL, leafB hL, 7⟩] := by
 unfold lowT ofId
 rw [List.filter_cons_of_pos (by simp), List.filter_nil]
 rfl
theorem head_top : topT KS SS [hL] = [⟨hZ, rL, 7⟩] := by
 have e : idsOf [hL] = [hZ] := by decide
 unfold topT
 rw [e, List.map_cons, List.map_nil]
 unfold topL
 have e2 := head_low
 rw [show hL.id = hZ from rfl] at e2
 rw [e2, low_h]
theorem head_anchor : anchorOf KS SS [hL] = anchorK KS SS ⟨rH, 7⟩ := by
 unfold anchorOf
 rw [if_neg (by simp), head_top, high_h]
theorem head_ne : anchorOf KS SS [hL] ≠ hZ := by rw [head_anchor]; exact anchor_ne
theorem alone_none {t : Lf} {T : List Lf} (hT : T = [t]) {key : List Nat} (hk : key = t.k) (ho : p.Of K s0 T key N w) : p.n = 0 := by
 subst hT hk
 have h1 := ho.nodes
 rw [nodesF_all 256 (fun h _ => bareF_own K s0 t h)] at h1
 have h2 := ho.at_.nodes.len
 rw [h1] at h2
 exact h2.symm
end
/- The head of the laws of leaves: the document's example. -/

def zLf (n : Nat) : LeafT := ⟨List.replicate 32 0, n, List.replicate 32 0, 0, zNd⟩
theorem zLf_build (n : Nat) (w : World) : (Instr.build 32 #[(1, .int .u64 (n : Int))]).run Tryz.prog w = .ok (.agg (zLf n).cells.toArray) w := by kernel_rfl
theorem leaf_at0 (b n c : Nat) (hn : 0 < n) (w : World) : (Instr.indexAt 22 (.slice (some ⟨b, 0, none⟩) n c) (.int .i64 0)).run Tryz.prog w = .ok (.pointer (some ⟨b, 0, none⟩)) w := by simpa using at_leaf0 b n c 0 hn w
def hls : List LeafT := [zLf 3, zLf 4]
/- The walk of the commit's head. -/

theorem hA_tree : tlAt KS SS (placed [hA]) 1 = .ok (partsT KS SS [hA]) := by
 have e : placed [hA] = [hA] := rfl
 rw [e]
 exact tl_makes (ls := [hA]) (fun l hl => by rw [List.mem_singleton.1 hl]; exact hA_ok) (fun i l h => by
  have hi := (List.getElem?_eq_some_iff.1 h).1
  have : i = 0 := by simpa using hi
  subst this
  injection h with h
  rw [← h]
  exact ⟨rfl, by decide⟩) (by decide) 1 (by decide) (by decide)
theorem hA_parts : partsT KS SS [hA] = [partL KS SS 0 hA] := rfl
theorem hA_split : splitL ⟨rP, 7⟩ (placed [hA]) = [hL] := rfl
theorem prove_yes {K s0 : List Wd} {S : Nat → Prop} {w w' : World} {g m0 m1 : Nat} {ls : List LeafT} {E : List (List Nat × Nat)} {Z : Nat → Nat → Prop} {l : LeafT} {e : Ending} (h : ProveP K s0 S w g ls m0 m1 E Z l e w') (hl : l ∈ ls) :
   CmAt K s0 S w' g ls m0 m1 E Z ∧ Kept (fun k => ∃ e ∈ E, Z e.2 k) w w' ∧ ∃ p q T, e = .returned (.tuple #[.agg (waysC p q).toArray, .int .i64 0]) ∧ p.Of K s0 (lowT K s0 ls l.id) (keyK K s0 l) w.heap.size w' ∧ T.Perm (topT K s0 ls) ∧ q.Of K s0 T l.id w.heap.size w' := by
 obtain ⟨h1, h2, h3⟩ := h
 refine ⟨h1, h2, ?_⟩
 rcases h3 with ⟨_, h⟩ | ⟨hn, _⟩
 · exact h
 · exact absurd hl hn
theorem hA_build (w : World) : (Instr.build 32 #[(1, .int .u64 7)]).run Tryz.prog w = .ok (.agg hA.cells.toArray) w := zLf_build 7 w
set_option maxRecDepth 100000 in
set_option maxHeartbeats 16000000 in
theorem headC_is (w : World) (hT : Tabs KS SS w) : Calls Tryz.prog 9 #[] w fun e w' => e = .returned (.bool true) ∧ Below w.heap.size w w' := by
 obtain ⟨Zl, hzl, -, Bo, hzln, hzle'⟩ := zero_leafT
 clear hzle'
 obtain ⟨zw, hzw, -, A8, hzwn⟩ := zero_ways
 obtain ⟨Z, Ak, hzs⟩ := info_leafT
 obtain ⟨CA, hCA⟩ : ∃ L, L = hA.cells := ⟨_, rfl⟩
 obtain ⟨LC, hLC⟩ : ∃ L, L = hL.cells := ⟨_, rfl⟩
 obtain ⟨ZH, hZH⟩ : ∃ L, L = bcells hZ := ⟨_, rfl⟩
 have LA := Hh (show CA.length = 99 by rw [hCA]; exact LeafT.len hA_ok)
 have Bl := Hh (show (Tryz.prog.info? 32).map (·.size) = some LC.length by rw [hLC, LeafT.len hL_ok]; kernel_rfl)
 have B6 := Hh (show ∀ v, (Instr.build 32 #[(1, .int .u64 7)]).run Tryz.prog v = .ok (.agg CA.toArray) v from fun v => by rw [hCA]; exact hA_build v)
 have Bu := Hh (show ∀ v, (Instr.build 27 #[]).run Tryz.prog v = .ok (.agg ZH.toArray) v from fun v => by rw [hZH]; exact build_h0C v)
 obtain ⟨ii, hi1, hi2, hi3, hi4⟩ := info_parts Ak
 have Bg := Hh (And.intro hi1 (And.intro hi2 hi3))
 have B8 := Hh hzs
 have A9 := Hh hLC
 have Bq := Hh hZH
 have B9 := Hh A8
 obtain ⟨W1, hW1⟩ : ∃ W, W = w.alloc (.cells CA.toArray 32) := ⟨_, rfl⟩
 have hh1 : Has W1 w.heap.size 32 ([hA].flatMap LeafT.cells).toArray := by
  rw [hW1, hCA]
  simpa using Has.new w 32 hA.cells.toArray
 have hb1 : Below w.heap.size w W1 := by rw [hW1]; exact (Below.refl _ _).alloc (Nat.le_refl _) _
 have hr1 := rows_has hh1 (len_cells (fun l hl => by rw [List.mem_singleton.1 hl]; exact hA_ok))
 have Ad := lfParts_is KS SS W1 (hT.below hb1 hT.low) (some ⟨w.heap.size, 0, none⟩) 1 1 [hA] hr1 (fun l hl => by rw [List.mem_singleton.1 hl]; exact hA_ok) (by decide)
 rw [hA_tree] at Ad
 have Aj := Hh Ad
 have Ba := Hh hb1
 have Bp := Hh hW1
 have Am := Hh (show ∀ v, Below w.heap.size w v → Tabs KS SS v from fun v hv => hT.below hv hT.low)
 clear hT hCA hLC hZH hi1 hi2 hi3 hi4 Ak hzs Bo A8 hW1 hh1 hb1 hr1 Ad
 go_enter Tryz.func9, Tryz.ntmps9
 go_wp2_with (first
  | (refine wpList_build_run rfl 32 #[(1, .const (.int .u64 7))] rfl #[(1, .int .u64 7)] (by kernel_rfl) (.agg CA.toArray) (B6.o _) ?_)
  | (refine wpList_build1 rfl 22 32 (.tmp 7) rfl ii (.agg Z) Tryz.underlying22 Bg.o.1 Bg.o.2.1 CA (by rw [Bg.o.2.2, LA.o]) (by rw [LA.o]; show Z.size = 99; exact B8.o) (by rw [LA.o]; decide) (by rw [LA.o]; decide) rfl ?_))
 rw [← Bp.o]
 refine Aj.o.mono ?_
 rintro _ W2 ⟨hb2, a, c, rfl, Ap⟩
 have Ae : W2.ownsRow W1.heap.size 32 99 (.slice a 1 c) 1 ([hL].flatMap LeafT.cells) := by
  have e : splitL (partNd KS SS 256 (partsT KS SS [hA])) (placed [hA]) = [hL] := by rw [hA_parts, parts_h]; exact hA_split
  rw [e] at Ap
  exact Ap
 clear Ap
 obtain ⟨A5, Ao⟩ := own_rows Ae rfl (len_cells (fun l hl => by rw [List.mem_singleton.1 hl]; exact hL_ok))
 obtain ⟨gp, o, rfl, Bn, hrr⟩ := A5.at_ (by decide)
 have ho : o = 0 := by
  obtain ⟨g, cap, cur, e, _⟩ := own_open Ae (by decide)
  injection e with e; injection e with e; injection e
 subst ho
 have hrl : W2.rangeAt gp 0 LC := by
  have := hrr 0 hL rfl
  rw [A9.o]
  simpa using this
 have Af := Hh (Ba.o.trans (hb2.mono Ba.o.size))
 have B1 := Hh (show ∀ v, Below W2.heap.size W2 v → v.rangeAt gp 0 LC from fun v hv => rangeAt_kept hrl (Kept.of_below (S := fun _ => False) hv) (fun e => e))
 have Bt := Hh (show w.heap.size ≤ gp ∧ gp < W2.heap.size from ⟨by have := (Ao _ rfl).1; have a2 := Ba.o.size; exact Nat.le_trans a2 this, (Ao _ rfl).2⟩)
 have ha0 := leaf_at0 gp 1 c (by decide)
 have Ac := Hh ha0
 clear hb2 Ae A5 Ao Bn hrr hrl Aj Ba Bp ha0
 go_wp2_with fail
 refine (coNew_is KS SS (fun k => W2.heap.size ≤ k) W2 (fun k h => h)).mono ?_
 rintro _ W3 ⟨g, rfl, A2, hb3, hg3⟩
 have Aw := Hh A2
 have Ag := Hh hb3
 have Bs := Hh (Af.o.trans (hb3.mono Af.o.size))
 have hr3 := B1.o W3 hb3
 have B0 := Hh hr3
 have ha3 := Ac.o W3
 clear A2 hb3 hg3 hr3
 go_wp2_with (refine wpList_load_midG rfl 32 (.tmp 22) rfl gp 0 rfl LC _ B0.o Tryz.underlying32 rfl Bl.o ?_)
 have An := coAdd_is Aw.o (fun k h => Nat.le_trans Ag.o.size h) (Am.o W3 Bs.o) hL hL_ok
 rw [head_add, head_addC, ← A9.o] at An
 have Ar := Hh An
 clear An ha3
 refine Ar.o.mono ?_
 rintro _ W4 ⟨rfl, A3, hk4⟩
 have Ax := Hh A3
 have Al := Hh (Ag.o.trans (hk4.below Ag.o.size (fun k h => h)))
 clear A3 hk4 Ar Aw Bs B0 Ag
 obtain ⟨m0, m1, E, Z0, hat⟩ := Ax.o
 have Ai := coTotal_at hat hZ hZ_hash
 unfold arr at Ai
 rw [head_tot, ← Bq.o] at Ai
 have A1 := Hh Ai
 have Br := Hh hat
 clear Ai hat Ax
 go_wp2_with (refine wpList_build_run rfl 27 #[] rfl #[] (by kernel_rfl) (.agg ZH.toArray) (Bu.o _) ?_)
 refine A1.o.mono ?_
 rintro _ W5 ⟨rfl, hb5⟩
 have Au := Hh (Al.o.trans (hb5.mono Al.o.size))
 have Av := Hh (Af.o.trans (Au.o.mono Af.o.size))
 have As := Hh (Br.o.quiet hb5)
 have ha5 := Ac.o W5
 have Bi := Hh (B1.o W5 Au.o)
 clear hb5 A1 Br Al
 have hpv := coProve_at (As.o.zoneS (S' := fun k => W2.heap.size ≤ k ∧ k < W5.heap.size) (fun k h1 h2 => ⟨h2, h1⟩)) (Am.o W5 Av.o) (fun k hk => Nat.le_trans (Am.o W2 Af.o).low hk.1) hL hL_ok
 rw [← A9.o] at hpv
 have Bz := Hh hpv
 clear hpv
 go_wp2_with (refine wpList_load_midG rfl 32 (.tmp 36) rfl gp 0 rfl LC _ Bi.o Tryz.underlying32 rfl Bl.o ?_)
 refine Bz.o.mono ?_
 rintro _ W6 hpp
 obtain ⟨Ah, hk6, p, q, T, rfl, hop, Ab, hoq⟩ := prove_yes hpp (List.mem_singleton.2 rfl)
 have hpn : p.n = 0 := alone_none head_low rfl hop
 have hqn : q.n = 0 := by
  rw [head_top] at Ab
  exact alone_none (List.perm_singleton.1 Ab) rfl hoq
 have hU : ∀ k, (∃ e ∈ E, Z0 e.2 k) → W2.heap.size ≤ k ∧ k < W5.heap.size := fun k ⟨e, he, hz⟩ => (Ah.zone e he k hz).2.1
 have hb6 : Below w.heap.size w W6 := Av.o.trans (hk6.below Av.o.size (fun k e => Nat.le_trans Af.o.size (hU k e).1))
 have A6 := hk6.size
 have B5 := Hh (show leadR KS SS p q hL = .ok (anchorOf KS SS [hL]) from lead_made (Am.o W5 Av.o).len Ah.fine (List.mem_singleton.2 rfl) Ab hop hoq)
 have A4 := rangeAt_kept Bi.o hk6 (fun e => by have := (hU gp e).1; have := Bt.o.2; omega)
 have Bm := Hh (show (Tryz.prog.info? 41).map (·.size) = some (waysC p q).toArray.size ∧ zw.size = (waysC p q).toArray.size ∧ (Tryz.prog.info? 41).map (·.size) = some (waysC p q).length by
  have := waysC_len hop.at_.hash hoq.at_.hash
  exact ⟨by rw [List.size_toArray, this]; kernel_rfl, by rw [B9.o, List.size_toArray, this], by rw [this]; kernel_rfl⟩)
 have Bv := Hh (show ∀ C, Has ((W6.alloc (.cells zw 41)).setRow W6.heap.size C) W6.heap.size 41 C ∧ Below W6.heap.size W6 ((W6.alloc (.cells zw 41)).setRow W6.heap.size C) from fun C => by
  rw [World.setRow_alloc_new]
  exact ⟨Has.new W6 _ _, (Below.refl _ _).alloc (Nat.le_refl _) _⟩)
 have Ay := Hh Ah
 have Bw := Hh hop
 have Bx := Hh hoq
 have HU := Hh hU
 have Bd := Hh hb6
 have By := Hh (And.intro hpn hqn)
 have Az := Hh A4
 have Bj := Hh A6
 clear hpp Ah hk6 hop Ab hoq hpn hqn hU hb6 A4 A6 Bz Av As Bi ha5
 go_upto_region 6 with (refine wpList_store_row rfl 41 (.tmp 4) (.tmp 39) rfl W6.heap.size (waysC p q).toArray rfl rfl 41 zw (heap_alloc_new W6 _) Bm.o.1 Bm.o.2.1 (waysC_one p q) ?_)
 obtain ⟨h7, hb7⟩ := Bv.o (waysC p q).toArray
 clear Bv
 have hcm := Ay.o.quiet hb7
 have hop := Bw.o.below hb7
 have hoq := Bx.o.below hb7
 have Bb := Hh (Bd.o.trans (hb7.mono Bd.o.size))
 have A0 := Hh (rangeAt_kept Az.o (Kept.of_below (S := fun _ => False) hb7) (fun e => e))
 clear hb7 Ay Bw Bx Bd Az
 generalize (W6.alloc (.cells zw 41)).setRow W6.heap.size (waysC p q).toArray = W7 at h7 hcm hop hoq Bb A0 ⊢
 obtain ⟨B4, hB4⟩ : ∃ y, y = W6.heap.size := ⟨_, rfl⟩
 have hB45 : W5.heap.size ≤ B4 := by rw [hB4]; exact Bj.o
 rw [← hB4] at h7 ⊢
 clear hB4
 have Aa := Hh (show ∀ v, Kept (fun k => ∃ e ∈ E, Z0 e.2 k) W7 v → v.cell? ⟨B4, 32, none⟩ = some (.slice p.a 0 p.c) ∧ v.cell? ⟨B4, 65, none⟩ = some (.slice q.a 0 q.c) ∧ v.rangeAt B4 0 (waysC p q) ∧ v.rangeAt gp 0 LC ∧ Tabs KS SS v from fun v hv => by
  have h8 := h7.kept hv (fun e => by have := (HU.o B4 e).2; omega)
  obtain ⟨a1, a2⟩ := ways_at hop.at_.hash h8
  have b1 := a1 32 _ (pcells_row hop.at_.hash p.a p.n p.c)
  have b2 := a2 32 _ (pcells_row hoq.at_.hash q.a q.n q.c)
  rw [By.o.1] at b1
  rw [By.o.2] at b2
  exact ⟨b1, b2, h8.row0, rangeAt_kept A0.o hv (fun e => by have := (HU.o gp e).1; have := Bt.o.2; omega), (Am.o W7 Bb.o).kept hv (fun k e => Nat.le_trans (Am.o W2 Af.o).low (HU.o k e).1)⟩)
 have B2 := Hh (show ∀ k, (W2.heap.size ≤ k ∧ k < W5.heap.size) → 2 + 1 ≤ k from fun k hk => Nat.le_trans (Am.o W2 Af.o).low hk.1)
 obtain ⟨AN, hAN⟩ : ∃ y, y = anchorOf KS SS [hL] := ⟨_, rfl⟩
 obtain ⟨Bk, hLAN⟩ : ∃ y, y = bcells AN := ⟨_, rfl⟩
 have hANh : IsHash AN := by rw [hAN, head_anchor]; exact anchorK_hash KS SS ss_len _
 have Bc := Hh hANh
 have Bh := Hh hLAN
 have Be := Hh hAN
 have B7 := Hh (show ∀ v, (binOp .neq 27 (.agg Bk.toArray) (.agg ZH.toArray)).run Tryz.prog v = .ok (.bool true) v from fun v => by
  rw [run_neq_struct, hLAN, Bq.o, hash_eqC AN hZ hANh hZ_hash v, decide_eq_false (by rw [hAN]; exact head_ne)]
  rfl)
 have B3 := Hh (show ∀ v, (eqGuard .neq 27 (.tmp 69) (.tmp 70) (.agg Bk.toArray) (.agg ZH.toArray)).run Tryz.prog v = .ok () v from fun v => by first | rfl | simp [eqGuard])
 have hS0 : Kept (fun k => ∃ e ∈ E, Z0 e.2 k) W7 W7.drew := (Kept.refl _ _).drew
 have hcm' := hcm
 replace hcm := hcm.quiet (Below.refl W7.heap.size W7).drew
 replace hop := hop.below (Below.refl W7.heap.size W7).drew
 replace hoq := hoq.below (Below.refl W7.heap.size W7).drew
 clear hcm' hAN hLAN hANh h7 hB45
 refine wp_region_noPanic ?_
 refine wp_region_held_drew (S := (fun v => Kept (fun k => ∃ e ∈ E, Z0 e.2 k) W7 v)) (by kernel_rfl) hS0 (fun hH0 => ?_)
 apply tl 0 rfl ?hv hH0 ?_
 case hv => intro w' hS; go_simp; try rfl
 simp only [qc]
 apply tl 1 rfl ?hv hH0 ?_
 case hv => intro w' hS; have z0 := (Aa.o w' hS).1; have z1 := (Aa.o w' hS).2.1; have z2 := Ac.o w'; go_simp; try rfl
 simp only [qc]
 apply tl 2 rfl ?hv hH0 ?_
 case hv => intro w' hS; go_simp; try rfl
 simp only [qc]
 apply tl 3 rfl ?hv hH0 ?_
 case hv => intro w' hS; go_simp; try rfl
 simp only [qc]
 apply tl 4 rfl ?hv hH0 ?_
 case hv => intro w' hS; go_simp; try rfl
 simp only [qc]
 apply tl 5 rfl ?hv hH0 ?_
 case hv => intro w' hS; have z0 := (Aa.o w' hS).1; have z1 := (Aa.o w' hS).2.1; have z2 := Ac.o w'; go_simp; try rfl
 simp only [qc]
 apply tl 6 rfl ?hv hH0 ?_
 case hv => intro w' hS; have z0 := (Aa.o w' hS).1; have z1 := (Aa.o w' hS).2.1; have z2 := Ac.o w'; go_simp; try rfl
 simp only [qc]
 apply tl 7 rfl ?hv hH0 ?_
 case hv => intro w' hS; have z0 := (Aa.o w' hS).1; have z1 := (Aa.o w' hS).2.1; have z2 := Ac.o w'; go_simp; try rfl
 simp only [qc]
 apply tl 8 rfl ?hv hH0 ?_
 case hv => intro w' hS; go_simp; try rfl
 simp only [qc]
 apply tl 9 rfl ?hv hH0 ?_
 case hv => intro w' hS; go_simp; try rfl
 simp only [qc]
 apply tl 10 rfl ?hv hH0 ?_
 case hv => intro w' hS; go_simp; try rfl
 simp only [qc]
 apply tl 11 rfl ?hv hH0 ?_
 case hv => intro w' hS; go_simp; try rfl
 simp only [qc]
 apply tl 12 rfl ?hv hH0 ?_
 case hv => intro w' hS; have z0 := (Aa.o w' hS).1; have z1 := (Aa.o w' hS).2.1; have z2 := Ac.o w'; go_simp; try rfl
 simp only [qc]
 apply tl 13 rfl ?hv hH0 ?_
 case hv => intro w' hS; have z0 := (Aa.o w' hS).1; have z1 := (Aa.o w' hS).2.1; have z2 := Ac.o w'; go_simp; try rfl
 simp only [qc]
 apply tl 14 rfl ?hv hH0 ?_
 case hv => intro w' hS; have z0 := (Aa.o w' hS).1; have z1 := (Aa.o w' hS).2.1; have z2 := Ac.o w'; go_simp; try rfl
 simp only [qc]
 apply tl 15 rfl ?hv hH0 ?_
 case hv => intro w' hS; go_simp; try rfl
 simp only [qc]
 apply tl 16 rfl ?hv hH0 ?_
 case hv => intro w' hS; go_simp; try rfl
 simp only [qc]
 refine tk 17 (v := (.agg (waysC p q).toArray)) rfl (yieldsIf_load_mid (by kernel_rfl) 41 (.tmp 4) rfl B4 0 rfl (waysC p q) _ (fun w' h => (Aa.o _ h).2.2.1) Tryz.underlying41 rfl Bm.o.2.2) hH0 ?_
 simp only [qc]
 apply tl 18 rfl ?hv hH0 ?_
 case hv => intro w' hS; go_simp; try rfl
 simp only [qc]
 apply tl 20 rfl ?hv hH0 ?_
 case hv => intro w' hS; go_simp; try rfl
 simp only [qc]
 apply tl 21 rfl ?hv hH0 ?_
 case hv => intro w' hS; have z0 := (Aa.o w' hS).1; have z1 := (Aa.o w' hS).2.1; have z2 := Ac.o w'; go_simp; try rfl
 simp only [qc]
 refine tk 22 (v := (.agg LC.toArray)) rfl (yieldsIf_load_mid (by kernel_rfl) 32 (.tmp 62) rfl gp 0 rfl LC _ (fun w' h => (Aa.o _ h).2.2.2.1) Tryz.underlying32 rfl Bl.o) hH0 ?_
 simp only [qc]
 refine rdy [19] (ar1 rfl fun KK hKK => ?_)
 go_simp
 have han := coAnch_at hcm (Aa.o _ hH0).2.2.2.2 B2.o
 rw [← Be.o] at han
 unfold arr at han
 rw [← Bh.o] at han
 refine han.mono ?_
 rintro _ xa ⟨rfl, hcl, hkl⟩
 have A7 : Kept (fun k => ∃ e ∈ E, Z0 e.2 k) W7 xa := Kept.trans hH0 hkl
 replace hcm := hcl
 replace hop := hop.kept2 hkl (fun k e => .inl (HU.o k e).2)
 replace hoq := hoq.kept2 hkl (fun k e => .inl (HU.o k e).2)
 clear han hcl hkl
 refine hKK _ _ A7 fun hH1 => ?_
 clear hKK KK
 try simp only [qc]
 refine rdy [23] (ar1 rfl fun KK hKK => ?_)
 go_simp
 have hck := coCheck_is KS SS xa (Aa.o _ hH1).2.2.2.2 p q hop.at_ hoq.at_ AN Bc.o hL hL_ok
 rw [B5.o, ← Be.o, show chkR (.ok AN) AN = 0 from if_pos rfl, ← A9.o] at hck
 unfold arr at hck
 rw [← Bh.o] at hck
 refine hck.mono ?_
 rintro _ xc ⟨rfl, hbc⟩
 have hsc : Kept (fun k => ∃ e ∈ E, Z0 e.2 k) W7 xc := Kept.trans hH1 (Kept.of_below hbc)
 replace hcm := hcm.quiet hbc
 replace hop := hop.below hbc
 replace hoq := hoq.below hbc
 clear hck hbc
 refine hKK _ _ hsc fun hH2 => ?_
 clear hKK KK
 try simp only [qc]
 apply tl 24 rfl ?hv hH2 ?_
 case hv => intro w' hS; have z0 := (Aa.o w' hS).1; have z1 := (Aa.o w' hS).2.1; have z2 := Ac.o w'; go_simp; try rfl
 simp only [qc]
 apply tl 25 rfl ?hv hH2 ?_
 case hv => intro w' hS; go_simp; try rfl
 simp only [qc]
 apply tl 26 rfl ?hv hH2 ?_
 case hv => intro w' hS; go_simp; try rfl
 simp only [qc]
 apply tl 27 rfl ?hv hH2 ?_
 case hv => intro w' hS; go_simp; try rfl
 simp only [qc]
 refine tk 29 (v := (.agg ZH.toArray)) rfl (yieldsIf_build (by kernel_rfl) 27 #[] rfl #[] (by kernel_rfl) _ (fun w' _ => Bu.o w')) hH2 ?_
 simp only [qc]
 refine rdy [28] (ar1 rfl fun KK hKK => ?_)
 go_simp
 have han := coAnch_at hcm (Aa.o _ hH2).2.2.2.2 B2.o
 rw [← Be.o] at han
 unfold arr at han
 rw [← Bh.o] at han
 refine han.mono ?_
 rintro _ xd ⟨rfl, hcl, hkl⟩
 have Aq : Kept (fun k => ∃ e ∈ E, Z0 e.2 k) W7 xd := Kept.trans hH2 hkl
 replace hcm := hcl
 replace hop := hop.kept2 hkl (fun k e => .inl (HU.o k e).2)
 replace hoq := hoq.kept2 hkl (fun k e => .inl (HU.o k e).2)
 clear han hcl hkl
 refine hKK _ _ Aq fun hH3 => ?_
 clear hKK KK
 try simp only [qc]
 refine tl 30 (v := (.bool true)) rfl (by intro w' hS; have z7 := B7.o w'; have z8 := B3.o w'; revert z7 z8; generalize Value.agg Bk.toArray = VX; generalize Value.agg ZH.toArray = VY; intro z7 z8; go_simp; try rfl) hH3 ?_
 simp only [qc]
 apply tl 31 rfl ?hv hH3 ?_
 case hv => intro w' hS; go_simp; try rfl
 simp only [qc]
 apply tl 32 rfl ?hv hH3 ?_
 case hv => intro w' hS; go_simp; try rfl
 simp only [qc]
 refine wpAnyH_done (by kernel_rfl) ?_ _
 refine NoPanic.normal ?_
 have Bf := Hh (show Below w.heap.size w xd from Bb.o.trans (Aq.below Bb.o.size (fun k e => Nat.le_trans Af.o.size (HU.o k e).1)))
 clear hcm hop hoq A7 hsc Aq hS0
 go_wp2_with fail
 go_ret
 exact ⟨rfl, Bf.o⟩
/- The walk of the reference's Size. -/

theorem bigN_succ (x i : Nat) : bigN x (i + 1) = (x / 256 ^ i % 256) :: bigN x i := by
 apply List.ext_getElem?
 intro j
 cases j with
 | zero =>
  rw [bigN_at x (i + 1) 0 (by omega), List.getElem?_cons_zero]
  have : (2 : Nat) ^ (8 * (i + 1 - 1 - 0)) = 256 ^ i := by rw [show 8 * (i + 1 - 1 - 0) = 8 * i by omega, Nat.pow_mul]
  rw [this]
 | succ j =>
  rw [List.getElem?_cons_succ]
  by_cases h : j < i
  · rw [bigN_at x (i + 1) (j + 1) (by omega), bigN_at x i j h, show i + 1 - 1 - (j + 1) = i - 1 - j by omega]
  · rw [List.getElem?_eq_none (by rw [bigN_len]; omega), List.getElem?_eq_none (by rw [bigN_len]; omega)]
structure RzW (w : World) (x q n : Nat) (H i : Nat) (a : Option Addr) (c : Nat) (wr : World) : Prop where
 tail : Bytes wr wr.heap.size (.slice a i c) (bigN x i)
 head : wr.ownsRow w.heap.size 5 1 (.slice (some ⟨H, 0, none⟩) 1 1) 1 (bcells [q])
 bel : Below w.heap.size w wr
theorem RzW.round {w : World} {x q n H i : Nat} {a : Option Addr} {c : Nat} {wr w2 : World} {oa : Option Addr} {oc b : Nat} (h : RzW w x q n H i a c wr) (hb : x / 256 ^ i % 256 = b)
   (ho : w2.ownsRow wr.heap.size 5 1 (.slice oa (1 + i) oc) (1 + i) ([Value.int .u8 (b : Int)] ++ bcells (bigN x i))) (hg : (wr.alloc (.cells #[.int .u8 (b : Int)] 5)).grownBy w2 (Value.slice (some ⟨wr.heap.size, 0, none⟩) 1 1).ownBlock) :
   RzW w x q n H (i + 1) oa oc w2 := by
 have hb256 : b < 256 := by rw [← hb]; exact Nat.mod_lt _ (by decide)
 have Aa : Bytes w2 w2.heap.size (.slice oa (i + 1) oc) (bigN x (i + 1)) := by
   rw [show 1 + i = i + 1 by omega] at ho
   have e : [Value.int .u8 (b : Int)] ++ bcells (bigN x i) = bcells (bigN x (i + 1)) := by rw [bigN_succ, hb]; rfl
   rw [e] at ho
   exact own_bytes ho (bigN_len _ _) (bigN_lt _ _) (Nat.le_refl _)
 have hlt := own_lt h.head H rfl
 have hbl : Below w.heap.size w (wr.alloc (.cells #[.int .u8 (b : Int)] 5)) := h.bel.alloc h.bel.size _
 refine ⟨Aa, own_kept (h.head.alloc _) (Kept.of_grown hg) (fun k e e2 => ?_), hbl.grown hg hbl.size (fun k e => ?_)⟩
 · have e' : some H = some k := e
   have e2' : some k = some wr.heap.size := e2
   injection e' with e'
   injection e2' with e2'
   omega
 · have e' : some wr.heap.size = some k := e
   injection e' with e'
   have := h.bel.size
   omega
/- The walk of the reference's Decode. -/

theorem valr_kept {w w' : World} {base b2 : Nat} {v : Value} {n m : Nat} {xs cs : List Value} {vo : Value} (h : w.ownsRow base 5 1 v n xs) (ho : w.ownsRow b2 88 2 vo m cs) (hg : w.grownBy w' vo.ownBlock) : w'.ownsRow base 5 1 v n xs :=
 own_kept h (Kept.of_grown hg) (fun k e e2 => own_own_ne h ho (by decide) k e e2.symm)
structure TdR (w : World) (b0 : List Nat) (f k : Nat) (ms : List RecM) (oa : Option Addr) (oc : Nat) (wr : World) : Prop where
 go : tdec b0 = decF f (ms.map RecM.r) (b0.drop k)
 kl : k ≤ b0.length
 lt : b0.length - k < f
 own : wr.ownsRow w.heap.size 88 2 (.slice oa ms.length oc) ms.length (ms.flatMap RecM.cells)
 vals : ∀ x ∈ ms, x.t < 18446744073709551616 ∧ wr.ownsRow w.heap.size 5 1 (.slice x.a x.v.length x.c) x.v.length (bcells x.v) ∧ (∀ y ∈ x.v, y < 256) ∧ x.v.length ≤ 65536
 few : ms.length ≤ 256
 bel : Below w.heap.size w wr
theorem TdR.below {w wr w' : World} {b0 : List Nat} {f k : Nat} {ms : List RecM} {oa : Option Addr} {oc : Nat} (h : TdR w b0 f k ms oa oc wr) (hb : Below wr.heap.size wr w') : TdR w b0 f k ms oa oc w' :=
 ⟨h.go, h.kl, h.lt, own_kept h.own (Kept.of_below (S := fun _ => False) hb) (fun _ _ e => e), fun x hx => ⟨(h.vals x hx).1, own_kept (h.vals x hx).2.1 (Kept.of_below (S := fun _ => False) hb) (fun _ _ e => e), (h.vals x hx).2.2⟩, h.few, h.bel.trans (hb.mono h.bel.size)⟩
theorem TdR.step {w wr w1 w2 : World} {b0 : List Nat} {f f' k k' : Nat} {ms : List RecM} {oa oa' xa : Option Addr} {oc oc' xc tv : Nat} {bs : List Nat} {C0 : Obj} (h : TdR w b0 f k ms oa oc wr)
   (hx : w1.ownsRow wr.heap.size 5 1 (.slice xa bs.length xc) bs.length (bcells bs)) (hg1 : (wr.alloc C0).grownBy w1 (some wr.heap.size)) (hbs : ∀ y ∈ bs, y < 256) (hbl : bs.length ≤ 65536) (htv : tv < 18446744073709551616)
   (ho : w2.ownsRow w.heap.size 88 2 (.slice oa' (ms.length + 1) oc') (ms.length + 1) (ms.flatMap RecM.cells ++ RecM.cells (⟨tv, xa, bs, xc⟩ : RecM))) (C : Obj) (hg2 : (w1.alloc C).grownBy w2 (Value.slice oa ms.length oc).ownBlock)
   (hgo : tdec b0 = decF f' ((ms ++ [(⟨tv, xa, bs, xc⟩ : RecM)]).map RecM.r) (b0.drop k')) (hkl : k' ≤ b0.length) (hlt : b0.length - k' < f') (hfew : ms.length + 1 ≤ 256) :
   TdR w b0 f' k' (ms ++ [(⟨tv, xa, bs, xc⟩ : RecM)]) oa' oc' w2 := by
 have h0 := h.below ((Below.refl wr.heap.size wr).alloc (Nat.le_refl _) C0)
 have hk1 : Kept (fun k => some k = (some wr.heap.size : Option Nat)) (wr.alloc C0) w1 := Kept.of_grown hg1
 have hne : ∀ {e : TypeId} {s n : Nat} {v : Value} {xs : List Value}, wr.ownsRow w.heap.size e s v n xs → w1.ownsRow w.heap.size e s v n xs := fun hv => own_kept (hv.alloc C0) hk1 (fun k e e2 => by
   have := own_lt hv k e
   injection e2 with e2
   omega)
 have hb1 : Below w.heap.size w w1 := h0.bel.grown hg1 h0.bel.size (fun k e => by injection e with e; have := h.bel.size; omega)
 have Ab : Below w.heap.size w (w1.alloc C) := hb1.alloc (by exact hb1.size) C
 have Aa : (w1.alloc C).ownsRow w.heap.size 88 2 (.slice oa ms.length oc) ms.length (ms.flatMap RecM.cells) := (hne h.own).alloc C
 refine ⟨hgo, hkl, hlt, ?_, ?_, by rw [List.length_append]; exact hfew, Ab.grown hg2 (by exact Ab.size) (own_blk Aa)⟩
 · rw [List.flatMap_append, List.length_append]
   simpa using ho
 · intro x hx'
   rcases List.mem_append.1 hx' with h1 | h1
   · obtain ⟨p1, p2, p3, p4⟩ := h.vals x h1
     exact ⟨p1, valr_kept ((hne p2).alloc C) Aa hg2, p3, p4⟩
   · rw [List.mem_singleton.1 h1]
     exact ⟨htv, valr_kept ((own_base hx h.bel.size).alloc C) Aa hg2, hbs, hbl⟩
theorem TdR.done {w wr : World} {b0 : List Nat} {f k : Nat} {ms : List RecM} {oa : Option Addr} {oc : Nat} (h : TdR w b0 f k ms oa oc wr) (hk : b0.length ≤ k) : TdP w (tdec b0) (.returned (.tuple #[.slice oa ms.length oc, .int .i64 0])) wr := by
 obtain ⟨f', rfl⟩ : ∃ f', f = f' + 1 := ⟨f - 1, by have := h.lt; omega⟩
 rw [h.go, decF_stop (List.drop_eq_nil_iff.2 hk)]
 obtain ⟨p1, p2⟩ := own_rows h.own rfl (fun x _ => rfl)
 exact ⟨ms, oa, oc, rfl, rfl, ⟨p1, fun x hx => ⟨(h.vals x hx).1, by have := (h.vals x hx).2.2.2; omega, own_bytes (h.vals x hx).2.1 rfl (h.vals x hx).2.2.1 (Nat.le_refl _)⟩⟩, fun A e => (p2 A e).1, h.few, h.bel⟩
/- The walk of CommitReads. -/

def tdL : Except Nat (List Rec) → List Rec
 | .ok rs => rs
 | .error _ => []
def tdX : Except Nat (List Rec) → Nat
 | .ok _ => 0
 | .error x => x
def wdE : Except Nat (List Nat × List Nat) → Nat
 | .ok _ => 0
 | .error x => x
theorem TdP.all {w w' : World} {R : Except Nat (List Rec)} {e : Ending} (h : TdP w R e w') : ∃ (ms : List RecM) (a : Option Addr) (c : Nat), e = .returned (.tuple #[.slice a ms.length c, .int .i64 (tdX R : Int)]) ∧ ms.map RecM.r = tdL R ∧ RecsAt w' a ms.length ms ∧ Below w.heap.size w w' := by
 cases R with
 | error x => exact ⟨[], none, 0, h.1, rfl, ⟨⟨rfl, fun x hx => (by cases hx), fun h => absurd h (Nat.lt_irrefl 0)⟩, fun x hx => (by cases hx)⟩, h.2⟩
 | ok rs =>
  obtain ⟨ms, a, c, h1, h2, h3, _, _, h4⟩ := h
  exact ⟨ms, a, c, h1, h2, h3, h4⟩
theorem WdP.all {w w' : World} {R : Except Nat (List Nat × List Nat)} {e : Ending} (h : WdP w R e w') : ∃ p q : Pf, e = .returned (.tuple #[.agg (waysC p q).toArray, .int .i64 (wdE R : Int)]) ∧ p.At w' ∧ q.At w' ∧ Below w.heap.size w w' ∧
  ((∃ x, R = .error x ∧ p = zPf ∧ q = zPf) ∨ ∃ u v, R = .ok (u, v) ∧ p.b = decB u ∧ p.xs = decX u ∧ q.b = decB v ∧ q.xs = decX v ∧ (∀ A, p.a = some A → w.heap.size ≤ A.block) ∧ (∀ A, q.a = some A → w.heap.size ≤ A.block)) := by
 cases R with
 | error x => exact ⟨zPf, zPf, h.2, zPf_at _, zPf_at _, h.1, .inl ⟨x, rfl, rfl, rfl⟩⟩
 | ok uv =>
  obtain ⟨h0, p, q, h1, h2, h3, h4, h5, h6, h7, h8, h9⟩ := h
  exact ⟨p, q, h1, h2, h3, h0, .inr ⟨uv.1, uv.2, rfl, h4, h5, h6, h7, h8, h9⟩⟩
section
/- The plain law of CommitOrders: the order of the leaves is nothing to what is said of them. -/

variable {K s0 : List Wd} {ls ls' : List LeafT} {l : LeafT}
theorem Fine.perm (h : Fine K s0 ls) (hp : ls'.Perm ls) : Fine K s0 ls' :=
 ⟨fun l hl => h.ok l (hp.mem_iff.1 hl), fun l hl => h.good l (hp.mem_iff.1 hl), (hp.map _).nodup_iff.2 h.keys, by rw [hp.length_eq]; exact h.len, by rw [am_perm hp]; exact h.fit⟩
end
end Go.Proofs.YtknfbccbdiidjaaGreatDoor
