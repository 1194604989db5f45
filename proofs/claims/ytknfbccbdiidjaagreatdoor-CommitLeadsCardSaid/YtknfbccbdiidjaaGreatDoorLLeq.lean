/- The walk of commit's Add. -/
import Derived.Test.YtknfbccbdiidjaaGreatDoorWu
import Derived.Test.YtknfbccbdiidjaaGreatDoorLTv7
import Derived.Test.YtknfbccbdiidjaaGreatDoorLLb5
import Derived.Test.YtknfbccbdiidjaaGreatDoorLRnEq
import Derived.Test.YtknfbccbdiidjaaGreatDoorLLb2
namespace Go.Proofs.YtknfbccbdiidjaaGreatDoor
set_option linter.unusedVariables false
set_option linter.unusedSimpArgs false
open Go.ChangeShapes Go.WideShapes Go.ChangeAt Go.RowKit Go.Maps

set_option maxRecDepth 100000 in
theorem len_mapL {w : World} {m : Nat} {l : List Ent} (h : MapIs w m l) (ty : TypeId) : (Builtin.len_ #[99] ty #[.map (some m)]).run Tryz.prog w = .ok (goInt l.length) w := by
 obtain ⟨es, clock, hb, hs, he, hl⟩ := h
 have hl2 : es.size = l.length := by
  have := congrArg List.length he
  rw [List.length_map, List.length_map, Array.length_toList] at this
  exact this
 rw [← hl2]
 exact run_len_map w 99 ty m es clock Tryz.underlying99 hb
theorem zero_ptrT : ∀ w, (zeroValue 105).run Tryz.prog w = .ok (.pointer none) w := fun w => by kernel_rfl
theorem look_mem2 {l : List Ent} (hd : (l.map (·.1)).Nodup) {k : List Nat} {v : Value} (h : (k, v) ∈ l) : look l k = some v := by
 obtain ⟨j, hj⟩ := List.getElem?_of_mem h
 exact look_at hj hd
theorem look_key {K s0 : List Wd} {ls : List LeafT} (hk : (ls.map (keyK K s0)).Nodup) (k : List Nat) : (∃ l, l ∈ ls ∧ keyK K s0 l = k ∧ look (ls.map (entL K s0)) k = some (.agg l.cells.toArray)) ∨ (k ∉ ls.map (keyK K s0) ∧ look (ls.map (entL K s0)) k = none) := by
 have e1 : (ls.map (entL K s0)).map (·.1) = ls.map (keyK K s0) := by rw [List.map_map]; rfl
 by_cases h : k ∈ ls.map (keyK K s0)
 · obtain ⟨l, hl, e⟩ := List.mem_map.1 h
   exact .inl ⟨l, hl, e, look_mem2 (by rw [e1]; exact hk) (List.mem_map.2 ⟨l, hl, by unfold entL; rw [e]⟩)⟩
 · refine .inr ⟨h, look_none fun p hp e => h ?_⟩
   rw [← e1]
   exact List.mem_map.2 ⟨p, hp, e⟩
theorem look_id {E : List (List Nat × Nat)} (hn : (E.map (·.1)).Nodup) (id : List Nat) : (∃ q, (id, q) ∈ E ∧ look (E.map entP) id = some (.pointer (some ⟨q, 0, none⟩))) ∨ (id ∉ E.map (·.1) ∧ look (E.map entP) id = none) := by
 have e1 : (E.map entP).map (·.1) = E.map (·.1) := by rw [List.map_map]; rfl
 by_cases h : id ∈ E.map (·.1)
 · obtain ⟨e, he, e2⟩ := List.mem_map.1 h
   exact .inl ⟨e.2, by rw [← e2]; exact he, look_mem2 (by rw [e1]; exact hn) (List.mem_map.2 ⟨e, he, by rw [← e2]; rfl⟩)⟩
 · refine .inr ⟨h, look_none fun p hp e => h ?_⟩
   rw [← e1]
   exact List.mem_map.2 ⟨p, hp, e⟩
theorem coL_id {v : World} {B : Nat} {l : LeafT} (h : Has v B 32 l.cells.toArray) : v.rangeAt B 0 (bcells l.id) := fun j u hu => by
 rw [Nat.zero_add]
 refine h.cell_is ?_
 rw [List.getElem?_toArray]
 unfold LeafT.cells
 rw [List.getElem?_append_left (List.getElem?_eq_some_iff.1 hu).1]
 exact hu
theorem boxes_lf (w : World) (LC : List Value) : ∃ W1, W1 = (w.alloc (.cells LC.toArray 32)) ∧
   Has W1 (w.heap.size) 32 LC.toArray ∧ Below w.heap.size w W1 := by
 refine ⟨_, rfl, ?_, ?_⟩
 · have := Has.new w 32 LC.toArray
   exact this
 · exact (Below.refl _ _).alloc (Nat.le_refl _) _
section
variable {K s0 : List Wd} {S : Nat → Prop} {w : World} {g m0 m1 : Nat} {ls : List LeafT} {E : List (List Nat × Nat)} {Z : Nat → Nat → Prop}
def AddP (K s0 : List Wd) (S : Nat → Prop) (w : World) (g : Nat) (ls : List LeafT) (l : LeafT) (e : Ending) (w' : World) : Prop := e = .returned (.int .i64 (addE K s0 ls l)) ∧ Cm K s0 S w' g (addC K s0 ls l) ∧ Kept S w w'
theorem add_stay (h : CmAt K s0 S w g ls m0 m1 E Z) (l : LeafT) (x : Int) (hx : addE K s0 ls l = x) (h0 : x ≠ 0) (v : World) (hv : Below w.heap.size w v) : AddP K s0 S w g ls l (.returned (.int .i64 x)) v := by
 refine ⟨by rw [hx], ?_, Kept.of_below hv⟩
 unfold addC
 rw [if_neg (by rw [hx]; exact h0)]
 exact ⟨m0, m1, E, Z, h.quiet hv⟩
set_option maxRecDepth 100000 in
set_option maxHeartbeats 16000000 in
theorem coAdd_at (h : CmAt K s0 S w g ls m0 m1 E Z) (hn : ∀ k, w.heap.size ≤ k → S k) (hT : Tabs K s0 w) (l : LeafT) (hl : l.ok) :
   Calls Tryz.prog 11 #[.pointer (some ⟨g, 0, none⟩), .agg l.cells.toArray] w (AddP K s0 S w g ls l) := by
 obtain ⟨zk, hzk, B3, hzkn⟩ := zero_hashT
 obtain ⟨zl, hzl, -, Bc, hzln, hzle'⟩ := zero_leafT
 have B4 := Hh hzle'
 clear hzle'
 obtain ⟨LC, hLC⟩ : ∃ L, L = l.cells := ⟨_, rfl⟩
 obtain ⟨KL, hKL⟩ : ∃ L, L = bcells (keyK K s0 l) := ⟨_, rfl⟩
 obtain ⟨LI, hLI⟩ : ∃ L, L = bcells l.id := ⟨_, rfl⟩
 obtain ⟨SM, hSM⟩ : ∃ x, x = amS ls := ⟨_, rfl⟩
 obtain ⟨AM, hAM⟩ : ∃ x, x = l.am := ⟨_, rfl⟩
 have hkh : IsHash (keyK K s0 l) := tagD_hash K s0 hT.len _ _
 have Cy := Hh (show (Tryz.prog.info? 32).map (·.size) = some LC.toArray.size by rw [List.size_toArray, hLC, LeafT.len hl]; kernel_rfl)
 have Bs := Hh (show (Tryz.prog.info? 32).map (·.size) = some LC.length by rw [hLC, LeafT.len hl]; kernel_rfl)
 have C8 := Hh (show (Tryz.prog.info? 27).map (·.size) = some KL.toArray.size by rw [List.size_toArray, hKL, bcells_length, hkh.1]; kernel_rfl)
 have A6 := Hh (show (Tryz.prog.info? 27).map (·.size) = some KL.length by rw [hKL, bcells_length, hkh.1]; kernel_rfl)
 have Bt := Hh (show (Tryz.prog.info? 27).map (·.size) = some LI.length by rw [hLI, bcells_length, hl.id.1]; kernel_rfl)
 have C9 := Hh (show zk.size = KL.toArray.size by rw [B3, List.size_toArray, hKL, bcells_length, hkh.1])
 have Cq := Hh (show KL.toArray.all (·.oneCell') = true by rw [hKL]; exact all_oneCell_toArray (bcells_one _))
 have B5 := Hh hLC
 have Cf := Hh hKL
 have C0 := Hh hLI
 have B7 := Hh hSM
 have Bg := Hh hAM
 have HL := Hh hl
 have H0 := Hh h
 have HN := Hh hn
 have Ah := Hh (fun x hx h0 v hv => add_stay h l x hx h0 v hv)
 have Ce := Hh (show ∀ v, Below w.heap.size w v → Tabs K s0 v from fun v hv => hT.below hv hT.low)
 have Ca := Hh (show ∀ v, Below w.heap.size w v → v.cell? ⟨g, 0, none⟩ = some (.map (some m0)) ∧ v.cell? ⟨g, 1, none⟩ = some (.map (some m1)) ∧ v.cell? ⟨g, 2, none⟩ = some (.int .u64 (SM : Int)) from fun v hv => by rw [hSM]; exact (h.quiet hv).cells)
 have Ci := Hh (show ∀ (v : World) B, Has v B 32 LC.toArray → v.cell? ⟨B, 32, none⟩ = some (.int .u64 (AM : Int)) ∧ v.rangeAt B 0 LI from fun v B hv => by rw [hLC] at hv; exact ⟨by rw [hAM]; exact hv.cell_is (by rw [List.getElem?_toArray]; exact LeafT.at_am hl), by rw [hLI]; exact coL_id hv⟩)
 obtain ⟨XC, kn, hXL, hX1, hLK1, hkn⟩ : ∃ (XC : List Value) (kn : Bool), XC.length = 99 ∧ XC.toArray.all (·.oneCell') = true ∧ (∀ v, Below w.heap.size w v → (Instr.lookup 99 (.map (some m1)) (.agg KL.toArray) true).run Tryz.prog v = .ok (.tuple #[.agg XC.toArray, .bool kn]) v) ∧ (kn = true ↔ keyK K s0 l ∈ ls.map (keyK K s0)) := by
   have hlk : ∀ v, Below w.heap.size w v → (Instr.lookup 99 (.map (some m1)) (.agg KL.toArray) true).run Tryz.prog v = .ok (.tuple #[(look (ls.map (entL K s0)) (keyK K s0 l)).getD (.agg zl), .bool (look (ls.map (entL K s0)) (keyK K s0 l)).isSome]) v := fun v hv => by
     rw [hKL]
     exact lookup_ok_is (T := 99) Tryz.underlying99 hzl (h.quiet hv).map1 hkh
   rcases look_key h.fine.keys (keyK K s0 l) with ⟨o, ho, he, hlo⟩ | ⟨hne, hlo⟩
   · rw [hlo] at hlk
     exact ⟨o.cells, true, LeafT.len (h.fine.ok o ho), LeafT.one o, hlk, ⟨fun _ => List.mem_map.2 ⟨o, ho, he⟩, fun _ => rfl⟩⟩
   · rw [hlo] at hlk
     refine ⟨zl.toList, false, by rw [Array.length_toList, Bc], ?_, hlk, ⟨fun e => (by cases e), fun e => absurd e hne⟩⟩
     rw [Array.toArray_toList, B4.o]
     exact LeafT.one _
 obtain ⟨po, hLK0, hpo⟩ : ∃ po : Option Addr, (∀ v, Below w.heap.size w v → (Instr.lookup 98 (.map (some m0)) (.agg LI.toArray) false).run Tryz.prog v = .ok (.pointer po) v) ∧ ((∃ q, (l.id, q) ∈ E ∧ po = some ⟨q, 0, none⟩) ∨ (l.id ∉ idsOf ls ∧ po = none)) := by
   have hlk : ∀ v, Below w.heap.size w v → (Instr.lookup 98 (.map (some m0)) (.agg LI.toArray) false).run Tryz.prog v = .ok ((look (E.map entP) l.id).getD (.pointer none)) v := fun v hv => by
     rw [hLI]
     exact lookup_is (T := 98) Tryz.underlying98 zero_ptrT (h.quiet hv).map0 hl.id
   rcases look_id (by rw [h.ids]; exact ids_nodup ls) l.id with ⟨q, hq, e⟩ | ⟨hne, e⟩
   · rw [e] at hlk
     exact ⟨_, hlk, .inl ⟨q, hq, rfl⟩⟩
   · rw [e] at hlk
     exact ⟨_, hlk, .inr ⟨by rw [← h.ids]; exact hne, rfl⟩⟩
 obtain ⟨nl, hnl⟩ : ∃ x, x = ls.length := ⟨_, rfl⟩
 have Cj := Hh (show ∀ v ty, Below w.heap.size w v → (Builtin.len_ #[99] ty #[.map (some m1)]).run Tryz.prog v = .ok (goInt nl) v from fun v ty hv => by
   have := len_mapL (h.quiet hv).map1 ty
   rwa [List.length_map, ← hnl] at this)
 have Cg := Hh hnl
 have Bq := Hh (show nl ≤ 256 ∧ SM < 18446744073709551616 ∧ AM < 18446744073709551616 from ⟨by rw [hnl]; exact h.fine.len, by rw [hSM]; exact h.fine.fit, by rw [hAM]; exact hl.am⟩)
 have Cu := Hh hpo
 clear hnl hpo
 clear B4
 have XL := Hh hXL
 have X1 := Hh hX1
 have C7 := Hh hLK1
 have KN := Hh hkn
 have Cx := Hh hLK0
 have Br := Hh Bc
 rw [← hLC]
 clear hXL hX1 hLK1 hkn hLK0 Bc h hn hT hl hLC hKL hLI hSM hAM hkh B3
 go_enter Tryz.func11, Tryz.ntmps11
 go_upto_region 1 with (fail)
 obtain ⟨W1, hW1, h1, hb1⟩ := boxes_lf w LC
 rw [← hW1]
 clear hW1
 obtain ⟨B, hB⟩ : ∃ y, y = w.heap.size := ⟨_, rfl⟩
 rw [← hB] at h1 ⊢
 have EB := Hh hB
 have H1 := Hh h1
 have Bl := Hh hb1
 clear hB h1 hb1
 go_wp2_with (refine wpList_load_row rfl 32 (.tmp 3) rfl B rfl 32 LC.toArray (0, 0) _ H1.o Tryz.underlying32 rfl Cy.o ?_)
 have hck := leafCheck_is W1 l HL.o
 rw [← B5.o] at hck
 unfold leafE at hck
 by_cases hbad : leafBad l = true
 · rw [if_pos hbad] at hck
   have Cb := Hh hck
   have Af := Hh (show addE K s0 ls l = 1 by unfold addE; rw [if_pos hbad])
   clear hck hbad
   refine Cb.o.mono ?_
   rintro _ W2 ⟨rfl, hW2⟩
   have Be := Hh (show Below w.heap.size w W2 by rw [hW2]; exact Bl.o.alloc Bl.o.size _)
   clear hW2
   go_wp2
   go_ret
   exact Ah.o 1 Af.o (by decide) _ Be.o
 · rw [if_neg hbad] at hck
   have Cb := Hh hck
   have Af := Hh hbad
   clear hck hbad
   refine Cb.o.mono ?_
   rintro _ W2 ⟨rfl, hW2⟩
   have Be := Hh (show Below w.heap.size w W2 by rw [hW2]; exact Bl.o.alloc Bl.o.size _)
   have H2 := Hh (show Has W2 B 32 LC.toArray by rw [hW2]; exact H1.o.alloc _)
   clear hW2 Cb H1 Bl
   go_wp2_with (refine wpList_load_row rfl 32 (.tmp 3) rfl B rfl 32 LC.toArray (0, 0) _ H2.o Tryz.underlying32 rfl Cy.o ?_)
   have hky := lfKey_is K s0 W2 (Ce.o W2 Be.o) l HL.o
   unfold arr at hky
   rw [← B5.o, ← Cf.o] at hky
   have Cs := Hh hky
   clear hky
   refine Cs.o.mono ?_
   rintro _ W3 ⟨rfl, hb3⟩
   have B9 := Hh (Be.o.trans (hb3.mono Be.o.size))
   have H3 := Hh (H2.o.below hb3 H2.o.lt)
   clear hb3 Cs H2 Be
   go_upto_region 7 with (refine wpList_store_row rfl 27 (.tmp 6) (.tmp 21) rfl W3.heap.size KL.toArray rfl rfl 27 zk (heap_alloc_new W3 _) C8.o C9.o Cq.o ?_)
   have hnw : ∀ C, Has ((W3.alloc (.cells zk 27)).setRow W3.heap.size C) W3.heap.size 27 C ∧ Below W3.heap.size W3 ((W3.alloc (.cells zk 27)).setRow W3.heap.size C) := fun C => by
     rw [World.setRow_alloc_new]
     exact ⟨Has.new W3 _ _, (Below.refl _ _).alloc (Nat.le_refl _) _⟩
   obtain ⟨h6, hb6⟩ := hnw KL.toArray
   clear hnw
   have A7 := B9.o.trans (hb6.mono B9.o.size)
   have h36 := H3.o.below hb6 H3.o.lt
   clear hb6
   generalize (W3.alloc (.cells zk 27)).setRow W3.heap.size KL.toArray = W6 at h6 A7 h36 ⊢
   obtain ⟨B6, hB6⟩ : ∃ y, y = W3.heap.size := ⟨_, rfl⟩
   have Bp := Hh (show w.heap.size ≤ B6 by rw [hB6]; exact B9.o.size)
   rw [← hB6] at h6 ⊢
   have Bk := Hh h6
   have Bm := Hh A7
   have Ch := Hh h36
   clear h6 A7 h36 hB6 H3 B9
   have A4 := Hh (show ∀ v, Below W6.heap.size W6 v → v.cell? ⟨g, 1, none⟩ = some (.map (some m1)) ∧ (Instr.lookup 99 (.map (some m1)) (.agg KL.toArray) true).run Tryz.prog v = .ok (.tuple #[.agg XC.toArray, .bool kn]) v from fun v hv => by
     have hb := Bm.o.trans (hv.mono Bm.o.size)
     exact ⟨(Ca.o v hb).2.1, C7.o v hb⟩)
   have hS0 : Below W6.heap.size W6 W6.drew := (Below.refl _ _).drew
   refine wp_region_noPanic ?_
   refine wp_region_held_drew (S := (fun v => Below W6.heap.size W6 v)) (by kernel_rfl) hS0 (fun hH0 => ?_)
   apply tl 0 rfl ?hv hH0 ?_
   case hv => intro w' hS; go_simp; try rfl
   simp only [qc]
   apply tl 1 rfl ?hv hH0 ?_
   case hv => intro w' hS; have z0 := (A4.o w' hS).1; have z1 := (A4.o w' hS).2; go_simp; try rfl
   simp only [qc]
   apply tl 2 rfl ?hv hH0 ?_
   case hv => intro w' hS; go_simp; try rfl
   simp only [qc]
   apply tl 3 rfl ?hv hH0 ?_
   case hv => intro w' hS; have z0 := (A4.o w' hS).1; have z1 := (A4.o w' hS).2; go_simp; try rfl
   simp only [qc]
   refine tk 4 (v := (.agg KL.toArray)) rfl (yieldsIf_load_mid (by kernel_rfl) 27 (.tmp 6) rfl B6 0 rfl KL _ (fun w' h => ((Bk.o.below h Bk.o.lt).row0)) Tryz.underlying27 rfl A6.o) hH0 ?_
   simp only [qc]
   apply tl 5 rfl ?hv hH0 ?_
   case hv => intro w' hS; have z0 := (A4.o w' hS).1; have z1 := (A4.o w' hS).2; go_simp; try rfl
   simp only [qc]
   apply tl 6 rfl ?hv hH0 ?_
   case hv => intro w' hS; go_simp; try rfl
   simp only [qc]
   apply tl 7 rfl ?hv hH0 ?_
   case hv => intro w' hS; go_simp; try rfl
   simp only [qc]
   apply tl 8 rfl ?hv hH0 ?_
   case hv => intro w' hS; go_simp; try rfl
   simp only [qc]
   refine rdy [9] (ar1 rfl fun KK hKK => ?_)
   go_simp
   obtain ⟨xa, hxa⟩ : ∃ y, y = W6.drew.alloc (.cells zl 32) := ⟨_, rfl⟩
   have Bz : Below W6.drew.heap.size W6.drew xa := by rw [hxa]; exact (Below.refl _ _).alloc (Nat.le_refl _) _
   have B2 : Below W6.heap.size W6 xa := Below.trans hH0 (Bz.mono hH0.size)
   have hz9 : Has xa W6.drew.heap.size 32 zl := by rw [hxa]; exact Has.new _ _ _
   have hg9 : W6.heap.size ≤ W6.drew.heap.size := hH0.size
   first | rw [← hxa] | (change KK _ (W6.drew.alloc (.cells zl 32)); rw [← hxa])
   obtain ⟨G9, hG9⟩ : ∃ y, y = W6.drew.heap.size := ⟨_, rfl⟩
   first | rw [← hG9] | (have hq : W6.heap.size = G9 := hG9.symm; rw [hq]; clear hq)
   rw [← hG9] at hz9 hg9
   clear hG9
   clear hxa
   refine hKK _ _ B2 fun hH1 => ?_
   clear hKK KK
   try simp only [qc]
   refine rdy [10] (ar1 rfl fun KK hKK => ?_)
   refine step_store_mid rfl 32 (.tmp 7) (.tmp 29) rfl G9 0 XC.toArray rfl rfl (hz9.there 0 _ (by rw [List.size_toArray, Br.o, XL.o]; exact Nat.le_refl _)) (by rw [List.size_toArray, XL.o]; kernel_rfl) X1.o ?_
   have Bb := set_box (L := XC) hH1 hz9 hg9 (Below.size hH1) (by rw [Br.o, XL.o])
   obtain ⟨xb, hxb⟩ : ∃ y, y = xa.setCells G9 0 XC := ⟨_, rfl⟩
   rw [← hxb] at Bb
   change KK _ (xa.setCells G9 0 XC)
   rw [← hxb]
   have Ak := Bb.1
   clear hxb
   refine hKK _ _ Ak fun hH2 => ?_
   clear hKK KK
   try simp only [qc]
   apply tl 11 rfl ?hv hH2 ?_
   case hv => intro w' hS; go_simp; try rfl
   simp only [qc]
   refine wpAnyH_done (by kernel_rfl) ?_ _
   refine NoPanic.normal ?_
   have Aj := Hh (Bm.o.trans (Ak.mono Bm.o.size))
   have B8 := Hh (Bk.o.below Ak Bk.o.lt)
   have Bd := Hh (Ch.o.below Ak Ch.o.lt)
   clear Bb Ak hz9 hg9 hS0 Bk Ch A4 Bm Bz B2
   obtain ⟨W7, hW7⟩ : ∃ y, y = xb := ⟨_, rfl⟩
   subst hW7
   cases kn with
   | true =>
     have HE := Hh (show addE K s0 ls l = 6 by unfold addE; rw [if_neg Af.o, if_pos (KN.o.1 rfl)])
     go_wp2
     go_ret
     exact Ah.o 6 HE.o (by decide) _ Aj.o
   | false =>
     have Cn := Hh (show ¬ keyK K s0 l ∈ ls.map (keyK K s0) from fun e => absurd (KN.o.2 e) (by decide))
     have hc1 := (Ca.o W7 Aj.o).2.1
     have Cr : ∀ ty, (Builtin.len_ #[99] ty #[.map (some m1)]).run Tryz.prog W7 = .ok (goInt nl) W7 := fun ty => Cj.o W7 ty Aj.o
     have hnl := Bq.o.1
     by_cases h256 : 256 ≤ nl
     · have h256' : (256 : Int) ≤ (nl : Int) := by omega
       have HE := Hh (show addE K s0 ls l = 4 by unfold addE; rw [if_neg Af.o, if_neg Cn.o, if_pos (by rw [← Cg.o]; exact h256)])
       go_wp2
       go_ret
       exact Ah.o 4 HE.o (by decide) _ Aj.o
     · have h256' : ¬ (256 : Int) ≤ (nl : Int) := by omega
       have A2 := Hh h256
       clear h256
       go_upto_region 12 with (fail)
       clear Cr hc1 h256' hnl
       have Aa := Hh (show ∀ v, Below W7.heap.size W7 v → v.cell? ⟨g, 2, none⟩ = some (.int .u64 (SM : Int)) ∧ v.cell? ⟨B, 32, none⟩ = some (.int .u64 (AM : Int)) from fun v hv => ⟨(Ca.o v (Aj.o.trans (hv.mono Aj.o.size))).2.2, (Ci.o v B (Bd.o.below hv Bd.o.lt)).1⟩)
       have hS0 : Below W7.heap.size W7 W7.drew := (Below.refl _ _).drew
       by_cases hfit : SM + AM < 18446744073709551616
       · have Ap := Hh hfit
         clear hfit
         refine wp_region_noPanic ?_
         refine wp_region_held_drew (S := (fun v => Below W7.heap.size W7 v)) (by kernel_rfl) hS0 (fun hH0 => ?_)
         apply tl 0 rfl ?hv hH0 ?_
         case hv => intro w' hS; go_simp; try rfl
         simp only [qc]
         apply tl 1 rfl ?hv hH0 ?_
         case hv => intro w' hS; have z0 := (Aa.o w' hS).1; have z1 := (Aa.o w' hS).2; go_simp; try rfl
         simp only [qc]
         apply tl 2 rfl ?hv hH0 ?_
         case hv => intro w' hS; go_simp; try rfl
         simp only [qc]
         apply tl 3 rfl ?hv hH0 ?_
         case hv => intro w' hS; have z0 := (Aa.o w' hS).1; have z1 := (Aa.o w' hS).2; go_simp; try rfl
         simp only [qc]
         apply tl 4 rfl ?hv hH0 ?_
         case hv => intro w' hS; go_simp; try rfl
         simp only [qc]
         apply tl 5 rfl ?hv hH0 ?_
         case hv => intro w' hS; have z0 := (Aa.o w' hS).1; have z1 := (Aa.o w' hS).2; go_simp; try rfl
         simp only [qc]
         refine rdy [6] (ar1 rfl fun KK hKK => ?_)
         go_simp
         refine (add_fits _ SM AM Ap.o).mono ?_
         rintro _ xc ⟨rfl, hxc⟩
         have hsc : Below W7.heap.size W7 xc := by rw [hxc]; exact hH0
         clear hxc
         refine hKK _ _ hsc fun hH1 => ?_
         clear hKK KK
         try simp only [qc]
         apply tl 7 rfl ?hv hH1 ?_
         case hv => intro w' hS; go_simp; try rfl
         simp only [qc]
         apply tl 8 rfl ?hv hH1 ?_
         case hv => intro w' hS; go_simp; try rfl
         simp only [qc]
         apply tl 9 rfl ?hv hH1 ?_
         case hv => intro w' hS; go_simp; try rfl
         simp only [qc]
         apply tl 10 rfl ?hv hH1 ?_
         case hv => intro w' hS; go_simp; try rfl
         simp only [qc]
         apply tl 11 rfl ?hv hH1 ?_
         case hv => intro w' hS; go_simp; try rfl
         simp only [qc]
         refine wpAnyH_done (by kernel_rfl) ?_ _
         refine NoPanic.normal ?_
         have Ac := Hh (Aj.o.trans (hsc.mono Aj.o.size))
         have Bi := Hh (B8.o.below hsc B8.o.lt)
         have Am := Hh (Bd.o.below hsc Bd.o.lt)
         clear hsc hS0 Aa Aj B8 Bd
         obtain ⟨A3, hW12⟩ : ∃ y, y = xc := ⟨_, rfl⟩
         subst hW12
         have HE := Hh (show addE K s0 ls l = 0 by unfold addE; rw [if_neg Af.o, if_neg Cn.o, if_neg (by rw [← Cg.o]; exact A2.o), if_pos (by rw [← B7.o, ← Bg.o]; exact Ap.o)])
         have Ag := Hh (show ∀ v, Below A3.heap.size A3 v → v.cell? ⟨g, 0, none⟩ = some (.map (some m0)) ∧ (Instr.lookup 98 (.map (some m0)) (.agg LI.toArray) false).run Tryz.prog v = .ok (.pointer po) v from fun v hv => ⟨(Ca.o v (Ac.o.trans (hv.mono Ac.o.size))).1, Cx.o v (Ac.o.trans (hv.mono Ac.o.size))⟩)
         go_upto_region 15 with (fail)
         have hS0 : Below A3.heap.size A3 A3.drew := (Below.refl _ _).drew
         refine wp_region_noPanic ?_
         refine wp_region_held_drew (S := (fun v => Below A3.heap.size A3 v)) (by kernel_rfl) hS0 (fun hH0 => ?_)
         apply tl 0 rfl ?hv hH0 ?_
         case hv => intro w' hS; go_simp; try rfl
         simp only [qc]
         apply tl 1 rfl ?hv hH0 ?_
         case hv => intro w' hS; have z0 := (Ag.o w' hS).1; have z1 := (Ag.o w' hS).2; go_simp; try rfl
         simp only [qc]
         apply tl 2 rfl ?hv hH0 ?_
         case hv => intro w' hS; go_simp; try rfl
         simp only [qc]
         apply tl 3 rfl ?hv hH0 ?_
         case hv => intro w' hS; have z0 := (Ag.o w' hS).1; have z1 := (Ag.o w' hS).2; go_simp; try rfl
         simp only [qc]
         apply tl 4 rfl ?hv hH0 ?_
         case hv => intro w' hS; go_simp; try rfl
         simp only [qc]
         refine tk 5 (v := (.agg LI.toArray)) rfl (yieldsIf_load_mid (by kernel_rfl) 27 (.tmp 55) rfl B 0 rfl LI _ (fun w' h => (Ci.o _ B (Am.o.below h Am.o.lt)).2) Tryz.underlying27 rfl Bt.o) hH0 ?_
         simp only [qc]
         apply tl 6 rfl ?hv hH0 ?_
         case hv => intro w' hS; have z0 := (Ag.o w' hS).1; have z1 := (Ag.o w' hS).2; go_simp; try rfl
         simp only [qc]
         apply tl 7 rfl ?hv hH0 ?_
         case hv => intro w' hS; go_simp; try rfl
         simp only [qc]
         refine wpAnyH_done (by kernel_rfl) ?_ _
         refine NoPanic.normal ?_
         obtain ⟨Al, hW15⟩ : ∃ y, y = A3.drew := ⟨_, rfl⟩
         have Ad := Hh (show Below w.heap.size w Al by rw [hW15]; exact Ac.o.drew)
         have Ao := Hh (show Has Al B6 27 KL.toArray by rw [hW15]; exact Bi.o)
         have An := Hh (show Has Al B 32 LC.toArray by rw [hW15]; exact Am.o)
         rw [← hW15]
         clear hW15 hS0 Ag Ac Bi Am
         go_upto_if 59 with (fail)
         go_cut [11] from 51 to 60 (fun pv wx => ∃ q Zt, pv = .pointer (some ⟨q, 0, none⟩) ∧ Below Al.heap.size Al wx ∧ Tr K s0 Zt wx q (lowT K s0 ls l.id) ∧ (∀ k, Zt k → k < wx.heap.size) ∧ 2 + 1 ≤ q ∧ (((l.id, q) ∈ E ∧ Zt = Z q ∧ ∀ k, Zt k → k < w.heap.size) ∨ (l.id ∉ idsOf ls ∧ ∀ k, Zt k → Al.heap.size ≤ k)))
         case first =>
          rcases Cu.o with ⟨q, hq, hpo⟩ | ⟨hne, hpo⟩
          · subst hpo
            have HQ := Hh hq
            have C5 := Hh ((H0.o.trees _ hq).quiet Ad.o)
            have Cw := Hh (fun k hz => (H0.o.zone _ hq k hz).1)
            have Cl := Hh (H0.o.low _ hq)
            clear hq
            go_wp2
            go_meet
            case rel => exact ⟨q, Z q, rfl, Below.refl _ _, C5.o, fun k hz => Nat.lt_of_lt_of_le (Cw.o k hz) Ad.o.size, Cl.o, .inl ⟨HQ.o, rfl, Cw.o⟩⟩
          · subst hpo
            have Ct := Hh hne
            clear hne
            go_wp2_with fail
            refine (newT_is K s0 (fun k => Al.heap.size ≤ k) Al (fun k h => h)).mono ?_
            rintro _ wn ⟨q, rfl, htr, hbn, hqs⟩
            have Cp := Hh (show Tr K s0 (fun k => Al.heap.size ≤ k ∧ k < wn.heap.size) wn q (lowT K s0 ls l.id) by rw [low_nil Ct.o]; exact htr.zone (fun k h1 h2 => ⟨h2, h1⟩))
            have C2 := Hh hbn
            have Cl := Hh (show 2 + 1 ≤ q from Nat.le_trans (Ce.o Al Ad.o).low hqs)
            clear htr hbn hqs
            go_wp2
            go_meet
            case rel => exact ⟨q, _, rfl, C2.o, Cp.o, fun k hz => hz.2, Cl.o, .inr ⟨Ct.o, fun k hz => hz.1⟩⟩
         case rest =>
          obtain ⟨Ai, hW18⟩ : ∃ x, x = wc := ⟨_, rfl⟩
          subst hW18
          obtain ⟨q, Zt, rfl, As, htr, hzl, Bx, hqz⟩ := hcut
          have Ae := Hh (Ad.o.trans (As.mono Ad.o.size))
          have Bj := Hh (Ao.o.below As Ao.o.lt)
          have Bh := Hh (An.o.below As An.o.lt)
          have Cp := Hh htr
          have Cv := Hh hzl
          have Ck := Hh Bx
          have Cc := Hh (show ¬ Zt B ∧ ¬ Zt B6 by
            have a1 := An.o.lt
            have a2 := Ao.o.lt
            have a3 := Bp.o
            have a4 := EB.o
            rcases hqz with ⟨_, _, h3⟩ | ⟨_, h3⟩
            · exact ⟨fun e => by have := h3 _ e; omega, fun e => by have := h3 _ e; omega⟩
            · exact ⟨fun e => by have := h3 _ e; omega, fun e => by have := h3 _ e; omega⟩)
          have Cd := Hh (show ((l.id, q) ∈ E ∧ Zt = Z q) ∨ (l.id ∉ idsOf ls ∧ ∀ k, Zt k → w.heap.size ≤ k) by
            rcases hqz with ⟨h1, h2, _⟩ | ⟨h1, h2⟩
            · exact .inl ⟨h1, h2⟩
            · exact .inr ⟨h1, fun k hk => Nat.le_trans Ad.o.size (h2 k hk)⟩)
          clear As htr hzl Bx hqz Cu Cx Ad Ao An
          go_upto_region 18 with (fail)
          have hS0 : Below Ai.heap.size Ai Ai.drew := (Below.refl _ _).drew
          have hS0 : Kept Zt Ai Ai.drew := (Kept.refl _ _).drew
          have hbb : Below Ai.heap.size Ai Ai.drew := (Below.refl _ _).drew
          have A5 := Hh (show ∀ v, Kept Zt Ai v → v.rangeAt B6 0 KL ∧ v.rangeAt B 0 LC from fun v hv => ⟨(Bj.o.kept hv Cc.o.2).row0, (Bh.o.kept hv Cc.o.1).row0⟩)
          refine wp_region_noPanic ?_
          refine wp_region_held_drew (S := (fun v => Kept Zt Ai v)) (by kernel_rfl) hS0 (fun hH0 => ?_)
          apply tl 0 rfl ?hv hH0 ?_
          case hv => intro w' hS; go_simp; try rfl
          simp only [qc]
          refine tk 1 (v := (.agg KL.toArray)) rfl (yieldsIf_load_mid (by kernel_rfl) 27 (.tmp 6) rfl B6 0 rfl KL _ (fun w' h => (A5.o _ h).1) Tryz.underlying27 rfl A6.o) hH0 ?_
          simp only [qc]
          refine tk 2 (v := (.agg LC.toArray)) rfl (yieldsIf_load_mid (by kernel_rfl) 32 (.tmp 3) rfl B 0 rfl LC _ (fun w' h => (A5.o _ h).2) Tryz.underlying32 rfl Bs.o) hH0 ?_
          simp only [qc]
          refine rdy [3] (ar1 rfl fun KK hKK => ?_)
          go_simp
          have hsm := lfSum_is Ai.drew l HL.o
          rw [← B5.o] at hsm
          refine hsm.mono ?_
          rintro _ xs ⟨hbs, hor⟩
          obtain ⟨sv, rfl, hby⟩ := sum_good Af.o hor
          have hs3 : Kept Zt Ai xs := Kept.trans hH0 (Kept.of_below hbs)
          replace hbb := hbb.trans (hbs.mono hbb.size)
          clear hsm hor hbs
          rw [← Bg.o]
          refine hKK _ _ hs3 fun hH1 => ?_
          clear hKK KK
          try simp only [qc]
          refine rdy [4] (ar1 rfl fun KK hKK => ?_)
          go_simp
          have hpt := add_put (Ce.o Ai Ae.o).len H0.o.fine HL.o HE.o Cp.o hbb Cv.o hby
          unfold arr at hpt
          rw [← Cf.o, ← Bg.o] at hpt
          refine hpt.mono ?_
          rintro _ xp ⟨rfl, htp, hkp⟩
          clear hpt hby hbb
          refine hKK _ _ hkp fun hH2 => ?_
          clear hKK KK
          try simp only [qc]
          apply tl 5 rfl ?hv hH2 ?_
          case hv => intro w' hS; go_simp; try rfl
          simp only [qc]
          refine wpAnyH_done (by kernel_rfl) ?_ _
          refine NoPanic.normal ?_
          have C4 := Hh htp
          have Bf := Hh hkp
          clear htp hkp hs3 hS0 A5
          obtain ⟨Ab, hW21⟩ : ∃ y, y = xp := ⟨_, rfl⟩
          subst hW21
          have Ay : MapIs Ab m0 (E.map entP) := ((H0.o.quiet Ae.o).map0).kept Bf.o (fun e => by
            rcases Cd.o with ⟨h1, h2⟩ | ⟨_, h2⟩
            · rw [h2] at e; exact (H0.o.zone _ h1 m0 e).2.2.2.1 rfl
            · have a1 := h2 m0 e; have a2 := H0.o.map0.lt; omega)
          have Az : MapIs Ab m1 (ls.map (entL K s0)) := ((H0.o.quiet Ae.o).map1).kept Bf.o (fun e => by
            rcases Cd.o with ⟨h1, h2⟩ | ⟨_, h2⟩
            · rw [h2] at e; exact (H0.o.zone _ h1 m1 e).2.2.2.2 rfl
            · have a1 := h2 m1 e; have a2 := H0.o.map1.lt; omega)
          have Ba : Has Ab g 101 #[.map (some m0), .map (some m1), .int .u64 (SM : Int)] := by
            have := ((H0.o.quiet Ae.o).obj).kept Bf.o (fun e => by
              rcases Cd.o with ⟨h1, h2⟩ | ⟨_, h2⟩
              · rw [h2] at e; exact (H0.o.zone _ h1 g e).2.2.1 rfl
              · have a1 := h2 g e; have a2 := H0.o.obj.lt; omega)
            rw [← B7.o] at this
            exact this
          have Ar := Bj.o.kept Bf.o Cc.o.2
          have Aq := Bh.o.kept Bf.o Cc.o.1
          obtain ⟨Au, Av⟩ := (H0.o.quiet Ae.o).gm
          have A9 := H0.o.ne
          have hB6m : B6 ≠ m0 ∧ B6 ≠ m1 := ⟨map_has_ne Ay Ar, map_has_ne Az Ar⟩
          have hBm : B ≠ m0 ∧ B ≠ m1 := ⟨map_has_ne Ay Aq, map_has_ne Az Aq⟩
          have hBg : B ≠ g ∧ B6 ≠ g := by have a1 := H0.o.obj.lt; have a2 := EB.o; have a3 := Bp.o; exact ⟨by omega, by omega⟩
          have hkh : IsHash (keyK K s0 l) := tagD_hash K s0 (Ce.o Ai Ae.o).len _ _
          obtain ⟨w1, v0, st0, q1, hk1, ⟨-, -⟩, B0⟩ := entry_is (T := 98) Tryz.underlying98 zero_ptrT Ay.drew HL.o.id
          obtain ⟨w2, q2, hm2, hk2⟩ := B0 (.pointer (some ⟨q, 0, none⟩))
          have hk2' : Kept (fun k => k = m0) Ab w2 := ((Kept.refl (fun k => k = m0) Ab).drew).trans hk2
          have By : MapIs w2 m1 (ls.map (entL K s0)) := Az.kept hk2' (fun e => A9 e.symm)
          obtain ⟨w3, v1, st1, q3, hk3, ⟨-, -⟩, B1⟩ := entry_is (T := 99) Tryz.underlying99 hzl By hkh
          obtain ⟨w4, q4, hm4, hk4⟩ := B1 (.agg LC.toArray)
          unfold arr at q1 q3
          rw [← C0.o] at q1
          rw [← Cf.o] at q3
          have Aw : Kept (fun k => k = m0 ∨ k = m1) Ab w4 := (hk2'.mono (fun _ _ e => .inl e)).trans (hk4.mono (fun _ _ e => .inr e))
          have Bv : Kept (fun k => k = m0 ∨ k = m1) Ab w1 := (((Kept.refl (fun k => k = m0) Ab).drew).trans hk1).mono (fun _ _ e => .inl e)
          have A8 : Kept (fun k => k = m0 ∨ k = m1) Ab w2 := hk2'.mono (fun _ _ e => .inl e)
          have Bw : Kept (fun k => k = m0 ∨ k = m1) Ab w3 := A8.trans (hk3.mono (fun _ _ e => .inr e))
          have A0 := Ba.kept Aw (fun e => by rcases e with e | e; exact Au e; exact Av e)
          have hc2 : w4.cell? ⟨g, 2, none⟩ = some (.int .u64 (SM : Int)) := A0.cell_is rfl
          have hz2 : w4.frozen? ⟨g, 2, none⟩ = false := A0.free 2
          obtain ⟨w5, hw5⟩ : ∃ y, y = w4.setCell ⟨g, 2, none⟩ (.int .u64 ((SM : Int) + (AM : Int))) := ⟨_, rfl⟩
          have A1 : Has w5 g 101 #[.map (some m0), .map (some m1), .int .u64 ((SM + AM : Nat) : Int)] := by rw [hw5, show ((SM + AM : Nat) : Int) = (SM : Int) + (AM : Int) from Int.natCast_add SM AM]; exact A0.set 2 _
          have Ax : Kept (fun k => k = g) w4 w5 := by rw [hw5]; exact (Kept.refl (fun k => k = g) w4).set (p := ⟨g, 2, none⟩) (.inl rfl) _
          have hk5 : Kept (fun k => k = m0 ∨ k = m1 ∨ k = g) Ab w5 := (Aw.mono (fun _ _ e => by rcases e with e | e; exact .inl e; exact .inr (.inl e))).trans (Ax.mono (fun _ _ e => .inr (.inr e)))
          have Bu := add_fin H0.o HN.o HL.o HE.o Ae.o Cd.o Cv.o Ck.o C4.o Bf.o hk5 (by rw [← B7.o, ← Bg.o]; exact A1) ((hm2.kept (S := fun k => k = m1) hk4 (fun e => A9 e)).kept Ax (fun e => Au e.symm)) (by rw [← B5.o]; exact hm4.kept Ax (fun e => Av e.symm))
          have Bn := Hh Bu
          have Co := Hh (show ∀ v, Kept (fun k => k = m0 ∨ k = m1 ∨ k = g) Ab v → v.rangeAt B 0 LC ∧ v.rangeAt B 0 LI ∧ v.rangeAt B6 0 KL from fun v hv => by
            have h3 := Aq.kept hv (fun e => by rcases e with e | e | e; exact hBm.1 e; exact hBm.2 e; exact hBg.1 e)
            have h6 := Ar.kept hv (fun e => by rcases e with e | e | e; exact hB6m.1 e; exact hB6m.2 e; exact hBg.2 e)
            exact ⟨h3.row0, (Ci.o v B h3).2, h6.row0⟩)
          have C3 := Hh (show ∀ v, Kept (fun k => k = m0 ∨ k = m1) Ab v → v.cell? ⟨g, 0, none⟩ = some (.map (some m0)) ∧ v.cell? ⟨g, 1, none⟩ = some (.map (some m1)) from fun v hv => by
            have h3 := Ba.kept hv (fun e => by rcases e with e | e; exact Au e; exact Av e)
            exact ⟨h3.cell_is rfl, h3.cell_is rfl⟩)
          have hup : ∀ v, Kept (fun k => k = m0 ∨ k = m1) Ab v → Kept (fun k => k = m0 ∨ k = m1 ∨ k = g) Ab v ∧ v.cell? ⟨g, 0, none⟩ = some (.map (some m0)) ∧ v.cell? ⟨g, 1, none⟩ = some (.map (some m1)) := fun v hv => ⟨hv.mono (fun _ _ e => by rcases e with e | e; exact .inl e; exact .inr (.inl e)), C3.o v hv⟩
          have hS1 := hup w1 Bv
          have hS2 := hup w2 A8
          have hS3 := hup w3 Bw
          have hS4 := hup w4 Aw
          have hS5 : Kept (fun k => k = m0 ∨ k = m1 ∨ k = g) Ab w5 ∧ w5.cell? ⟨g, 0, none⟩ = some (.map (some m0)) ∧ w5.cell? ⟨g, 1, none⟩ = some (.map (some m1)) := ⟨hk5, A1.cell_is rfl, A1.cell_is rfl⟩
          have hS0 := hup Ab.drew ((Kept.refl _ _).drew)
          have C1 := Hh hw5
          have C6 := Hh hS5
          have Bo := Hh (show addC K s0 ls l = ls ++ [l] by unfold addC; rw [if_pos HE.o])
          clear Ay Az Ba Ar Aq B0 B1 hm2 hm4 By hk1 hk2 hk3 hk4 hk2' Bv A8 Bw Aw A0 A1 Ax hk5 Bu hup hw5 hS5 hkh hB6m hBm hBg Au Av A9
          go_upto_region 21 with (fail)
          refine wp_region_noPanic ?_
          refine wp_region_held_drew (S := (fun v => Kept (fun k => k = m0 ∨ k = m1 ∨ k = g) Ab v ∧ v.cell? ⟨g, 0, none⟩ = some (.map (some m0)) ∧ v.cell? ⟨g, 1, none⟩ = some (.map (some m1)))) (by kernel_rfl) hS0 (fun hH0 => ?_)
          apply tl 0 rfl ?hv hH0 ?_
          case hv => intro w' hS; go_simp; try rfl
          simp only [qc]
          apply tl 1 rfl ?hv hH0 ?_
          case hv => intro w' hS; have z0 := hS.2.1; have z1 := hS.2.2; go_simp; try rfl
          simp only [qc]
          apply tl 2 rfl ?hv hH0 ?_
          case hv => intro w' hS; go_simp; try rfl
          simp only [qc]
          apply tl 3 rfl ?hv hH0 ?_
          case hv => intro w' hS; have z0 := hS.2.1; have z1 := hS.2.2; go_simp; try rfl
          simp only [qc]
          apply tl 4 rfl ?hv hH0 ?_
          case hv => intro w' hS; go_simp; try rfl
          simp only [qc]
          refine tk 5 (v := (.agg LI.toArray)) rfl (yieldsIf_load_mid (by kernel_rfl) 27 (.tmp 73) rfl B 0 rfl LI _ (fun w' h => (Co.o _ h.1).2.1) Tryz.underlying27 rfl Bt.o) hH0 ?_
          simp only [qc]
          apply tl 6 rfl ?hv hH0 ?_
          case hv => intro w' hS; go_simp; try rfl
          simp only [qc]
          apply tl 7 rfl ?hv hH0 ?_
          case hv => intro w' hS; have z0 := hS.2.1; have z1 := hS.2.2; go_simp; try rfl
          simp only [qc]
          apply tl 8 rfl ?hv hH0 ?_
          case hv => intro w' hS; go_simp; try rfl
          simp only [qc]
          apply tl 9 rfl ?hv hH0 ?_
          case hv => intro w' hS; have z0 := hS.2.1; have z1 := hS.2.2; go_simp; try rfl
          simp only [qc]
          refine tk 10 (v := (.agg KL.toArray)) rfl (yieldsIf_load_mid (by kernel_rfl) 27 (.tmp 6) rfl B6 0 rfl KL _ (fun w' h => (Co.o _ h.1).2.2) Tryz.underlying27 rfl A6.o) hH0 ?_
          simp only [qc]
          apply tl 11 rfl ?hv hH0 ?_
          case hv => intro w' hS; go_simp; try rfl
          simp only [qc]
          apply tl 12 rfl ?hv hH0 ?_
          case hv => intro w' hS; go_simp; try rfl
          simp only [qc]
          refine tk 13 (v := (.agg LC.toArray)) rfl (yieldsIf_load_mid (by kernel_rfl) 32 (.tmp 3) rfl B 0 rfl LC _ (fun w' h => (Co.o _ h.1).1) Tryz.underlying32 rfl Bs.o) hH0 ?_
          simp only [qc]
          apply tl 14 rfl ?hv hH0 ?_
          case hv => intro w' hS; go_simp; try rfl
          simp only [qc]
          refine rdy [15] (ar1 rfl fun KK hKK => ?_)
          go_simp
          refine hKK _ _ hS1 fun hH1 => ?_
          clear hKK KK
          try simp only [qc]
          apply tl 16 rfl ?hv hH1 ?_
          case hv => intro w' hS; go_simp; try rfl
          simp only [qc]
          refine rdy [17] (ar1 rfl fun KK hKK => ?_)
          go_simp
          refine hKK _ _ hS2 fun hH2 => ?_
          clear hKK KK
          try simp only [qc]
          refine rdy [18] (ar1 rfl fun KK hKK => ?_)
          go_simp
          refine hKK _ _ hS3 fun hH3 => ?_
          clear hKK KK
          try simp only [qc]
          apply tl 19 rfl ?hv hH3 ?_
          case hv => intro w' hS; go_simp; try rfl
          simp only [qc]
          refine rdy [20] (ar1 rfl fun KK hKK => ?_)
          go_simp
          refine hKK _ _ hS4 fun hH4 => ?_
          clear hKK KK
          try simp only [qc]
          apply tl 21 rfl ?hv hH4 ?_
          case hv => intro w' hS; have z0 := hS.2.1; have z1 := hS.2.2; go_simp; try rfl
          simp only [qc]
          apply tl 22 rfl ?hv hH4 ?_
          case hv => intro w' hS; go_simp; try rfl
          simp only [qc]
          refine rdy [23] (ar1 rfl fun KK hKK => ?_)
          go_simp
          rw [← C1.o]
          refine hKK _ _ C6.o fun hH5 => ?_
          clear hKK KK
          try simp only [qc]
          refine wpAnyH_done (by kernel_rfl) ?_ _
          refine NoPanic.normal ?_
          go_wp2
          go_ret
          exact ⟨by rw [HE.o]; rfl, by rw [Bo.o]; exact Bn.o.1, Bn.o.2⟩
       · have Ap := Hh hfit
         have HE := Hh (show addE K s0 ls l = 10 by unfold addE; rw [if_neg Af.o, if_neg Cn.o, if_neg (by rw [← Cg.o]; exact A2.o), if_neg (by rw [← B7.o, ← Bg.o]; exact hfit)])
         clear hfit
         refine wp_region_noPanic ?_
         refine wp_region_held_drew (S := (fun v => Below W7.heap.size W7 v)) (by kernel_rfl) hS0 (fun hH0 => ?_)
         apply tl 0 rfl ?hv hH0 ?_
         case hv => intro w' hS; go_simp; try rfl
         simp only [qc]
         apply tl 1 rfl ?hv hH0 ?_
         case hv => intro w' hS; have z0 := (Aa.o w' hS).1; have z1 := (Aa.o w' hS).2; go_simp; try rfl
         simp only [qc]
         apply tl 2 rfl ?hv hH0 ?_
         case hv => intro w' hS; go_simp; try rfl
         simp only [qc]
         apply tl 3 rfl ?hv hH0 ?_
         case hv => intro w' hS; have z0 := (Aa.o w' hS).1; have z1 := (Aa.o w' hS).2; go_simp; try rfl
         simp only [qc]
         apply tl 4 rfl ?hv hH0 ?_
         case hv => intro w' hS; go_simp; try rfl
         simp only [qc]
         apply tl 5 rfl ?hv hH0 ?_
         case hv => intro w' hS; have z0 := (Aa.o w' hS).1; have z1 := (Aa.o w' hS).2; go_simp; try rfl
         simp only [qc]
         refine rdy [6] (ar1 rfl fun KK hKK => ?_)
         go_simp
         refine (add_over _ SM AM (Nat.le_of_not_lt Ap.o) (by have := Bq.o; omega)).mono ?_
         rintro _ xc ⟨rfl, hxc⟩
         have hsc : Below W7.heap.size W7 xc := by rw [hxc]; exact hH0
         clear hxc
         refine hKK _ _ hsc fun hH1 => ?_
         clear hKK KK
         try simp only [qc]
         apply tl 7 rfl ?hv hH1 ?_
         case hv => intro w' hS; go_simp; try rfl
         simp only [qc]
         apply tl 8 rfl ?hv hH1 ?_
         case hv => intro w' hS; go_simp; try rfl
         simp only [qc]
         apply tl 9 rfl ?hv hH1 ?_
         case hv => intro w' hS; go_simp; try rfl
         simp only [qc]
         apply tl 10 rfl ?hv hH1 ?_
         case hv => intro w' hS; go_simp; try rfl
         simp only [qc]
         apply tl 11 rfl ?hv hH1 ?_
         case hv => intro w' hS; go_simp; try rfl
         simp only [qc]
         refine wpAnyH_done (by kernel_rfl) ?_ _
         refine NoPanic.normal ?_
         have Ac := Hh (Aj.o.trans (hsc.mono Aj.o.size))
         clear hsc hS0 Aa Aj B8 Bd
         go_wp2
         go_ret
         exact Ah.o 10 HE.o (by decide) _ Ac.o
theorem coAdd_is (h : Cm K s0 S w g ls) (hn : ∀ k, w.heap.size ≤ k → S k) (hT : Tabs K s0 w) (l : LeafT) (hl : l.ok) :
  Calls Tryz.prog 11 #[.pointer (some ⟨g, 0, none⟩), .agg l.cells.toArray] w fun e w' => e = .returned (.int .i64 (addE K s0 ls l)) ∧ Cm K s0 S w' g (addC K s0 ls l) ∧ Kept S w w' := by
 obtain ⟨m0, m1, E, Z, h⟩ := h
 exact coAdd_at h hn hT l hl
end
section
/- The walks of commit's all and Anchor. -/

variable {K s0 : List Wd} {S : Nat → Prop} {w w' : World} {g m0 m1 : Nat} {ls : List LeafT} {E : List (List Nat × Nat)} {Z : Nat → Nat → Prop}
set_option maxRecDepth 100000 in
theorem put_tight (hs0 : s0.length = 8) {v : World} {Za : Nat → Prop} {q : Nat} {T : List Lf} (htr : Tr K s0 Za v q T) (l : Lf) (hk : IsHash l.k) {sv : Value} (hv : Bytes v v.heap.size sv l.v) (hs : l.s < 18446744073709551616) (hlen : l.v.length ≤ 1000000) :
   Calls Tryz.prog 43 #[.pointer (some ⟨q, 0, none⟩), arr l.k, leafV sv l.s] v fun e w' => e = .returned (.int .i64 (putE T l)) ∧ Tr K s0 (fun k => (Za k ∨ v.heap.size ≤ k) ∧ k < w'.heap.size) w' q (putN T l) ∧ Kept Za v w' := by
 have t1 : Tr K s0 (fun k => Za k ∨ v.heap.size ≤ k) v q T := htr.zone (fun k _ hz => .inl hz)
 refine (tr_put t1 hs0 (fun k hk => .inr hk) l hk sv hv hs hlen).mono fun e w' ⟨r1, r2, r3⟩ => ?_
 refine ⟨r1, r2.zone (fun k hk hz => ⟨hz, hk⟩), r3.mono (fun k hk hz => ?_)⟩
 rcases hz with hz | hz
 · exact hz
 · omega
set_option maxRecDepth 100000 in
/-- one of the trees was asked for its root. -/
theorem CmAt.root (h : CmAt K s0 S w g ls m0 m1 E Z) {e : List Nat × Nat} (he : e ∈ E) (htr : Tr K s0 (Z e.2) w' e.2 (lowT K s0 ls e.1)) (hk : Kept (Z e.2) w w') : CmAt K s0 S w' g ls m0 m1 E Z := by
 have hz := fun k (hk : Z e.2 k) => (h.zone e he k hk).2.2
 refine ⟨h.obj.kept hk (fun e2 => (hz _ e2).1 rfl), h.map0.kept hk (fun e2 => (hz _ e2).2.1 rfl), h.map1.kept hk (fun e2 => (hz _ e2).2.2 rfl), h.ids, fun a ha => ?_, fun a ha k h2 => ⟨Nat.lt_of_lt_of_le (h.zone a ha k h2).1 hk.size, (h.zone a ha k h2).2⟩, h.apart, h.gs, h.low, h.inS, h.ne, h.fine⟩
 by_cases e1 : a.2 = e.2
 · rw [ent_eq h.gs ha he e1]; exact htr
 · exact (h.trees a ha).kept hk (fun k _ h2 h3 => h.apart a ha e he e1 k h2 h3)
theorem top_s (hs0 : s0.length = 8) (hf : Fine K s0 ls) (id : List Nat) : (topL K s0 ls id).s = amS (ofId ls id) := by
 unfold topL
 dsimp only
 exact low_part hs0 hf.keys id
theorem top_sum (hs0 : s0.length = 8) (hf : Fine K s0 ls) (D : List (List Nat)) : sumT (D.map (topL K s0 ls)) = (D.map fun id => amS (ofId ls id)).sum := by
 induction D with
 | nil => rfl
 | cons a D ih =>
  unfold sumT at ih ⊢
  rw [List.map_cons, List.map_cons, List.sum_cons, ih, List.map_cons, List.sum_cons, top_s hs0 hf]
theorem ids_len (ls : List LeafT) : (idsOf ls).length ≤ ls.length := by
 have h := len_sub (idsOf ls) (ls.map (·.id)) (ids_nodup ls) (fun x hx => by
  obtain ⟨l, hl, e⟩ := (ids_mem ls x).1 hx
  exact List.mem_map.2 ⟨l, hl, e⟩)
 rwa [List.length_map] at h
theorem top_put (hs0 : s0.length = 8) (hf : Fine K s0 ls) {D : List (List Nat)} {id : List Nat} (hn : (D ++ [id]).Nodup) (hm : ∀ x ∈ D ++ [id], x ∈ idsOf ls) : putE (D.map (topL K s0 ls)) (topL K s0 ls id) = 0 ∧ putN (D.map (topL K s0 ls)) (topL K s0 ls id) = (D ++ [id]).map (topL K s0 ls) := by
 have hni : id ∉ D := fun e => by
  rw [List.nodup_append] at hn
  exact hn.2.2 id e id (by simp) rfl
 have hfd : findT (D.map (topL K s0 ls)) (topL K s0 ls id).k = none := by
  cases hc : findT (D.map (topL K s0 ls)) (topL K s0 ls id).k with
  | none => rfl
  | some o =>
   exfalso
   obtain ⟨e1, e2⟩ := find_key hc
   obtain ⟨x, hx, rfl⟩ := List.mem_map.1 e2
   have e3 : x = id := e1
   exact hni (by rw [← e3]; exact hx)
 have Ab := len_sub _ _ hn hm
 rw [List.length_append, List.length_singleton] at Ab
 have hl2 := ids_len ls
 have hl3 := hf.len
 have Aa := ids_sum ls _ hn
 rw [List.map_append, List.sum_append] at Aa
 have Ac : ([id].map fun id => amS (ofId ls id)).sum = amS (ofId ls id) := by simp
 rw [Ac] at Aa
 have hfit := hf.fit
 have hv : (topL K s0 ls id).v.length = 32 := (low_hash (ls := ls) hs0 id).1
 have hs := top_s hs0 hf id
 have e0 : putE (D.map (topL K s0 ls)) (topL K s0 ls id) = 0 := by
  unfold putE
  rw [if_neg (fun e => by have := e.1; omega), if_neg (by rw [hv]; decide), if_neg (fun e => by have := e.2; rw [List.length_map] at this; omega), show wasS (D.map (topL K s0 ls)) (topL K s0 ls id).k = 0 by unfold wasS; rw [hfd], top_sum hs0 hf, hs, if_pos (by omega)]
 refine ⟨e0, ?_⟩
 unfold putN
 rw [if_pos e0, put_new hfd, List.map_append]
 rfl
def AllP (K s0 : List Wd) (S : Nat → Prop) (w : World) (g : Nat) (ls : List LeafT) (m0 m1 : Nat) (E : List (List Nat × Nat)) (Z : Nat → Nat → Prop) (e : Ending) (w' : World) : Prop :=
 ∃ ga T Za, e = .returned (.pointer (some ⟨ga, 0, none⟩)) ∧ T.Perm (topT K s0 ls) ∧ Tr K s0 Za w' ga T ∧ (∀ k, Za k → w.heap.size ≤ k) ∧ 2 + 1 ≤ ga ∧ CmAt K s0 S w' g ls m0 m1 E Z ∧ Kept (fun k => ∃ e ∈ E, Z e.2 k) w w'
structure GoAll (K s0 : List Wd) (w : World) (S : Nat → Prop) (g : Nat) (ls : List LeafT) (m0 m1 : Nat) (E : List (List Nat × Nat)) (Z : Nat → Nat → Prop) (r ga : Nat) (wr : World) (done : List (List Nat)) (Za : Nat → Prop) : Prop where
 iter : Iter wr m0 r (E.map entP) done
 tree : Tr K s0 Za wr ga (done.map (topL K s0 ls))
 zone : ∀ k, Za k → w.heap.size ≤ k ∧ k ≠ r ∧ k < wr.heap.size
 cm : CmAt K s0 (fun k => S k ∧ k < w.heap.size) wr g ls m0 m1 E Z
 kept : Kept (fun k => ∃ e ∈ E, Z e.2 k) w wr
 lt : r < wr.heap.size
set_option maxRecDepth 100000 in
set_option maxHeartbeats 16000000 in
theorem coAll_at (h : CmAt K s0 S w g ls m0 m1 E Z) (hT : Tabs K s0 w) (hS : ∀ k, S k → 2 + 1 ≤ k) :
  Calls Tryz.prog 45 #[.pointer (some ⟨g, 0, none⟩)] w (AllP K s0 S w g ls m0 m1 E Z) := by
 obtain ⟨zk, hzk, Ay, hzkn⟩ := zero_hashT
 have Bm := Hh Ay
 have h1 : CmAt K s0 (fun k => S k ∧ k < w.heap.size) w g ls m0 m1 E Z := h.zoneS (fun k h1 h2 => ⟨h2, h1⟩)
 have Ba := Hh (show ∀ e ∈ E, ∀ k, Z e.2 k → k < w.heap.size ∧ S k from fun e he k hz => ⟨(h.zone e he k hz).1, (h.zone e he k hz).2.1⟩)
 have Bl := Hh (show ∀ v, Kept (fun k => ∃ e ∈ E, Z e.2 k) w v → Tabs K s0 v from fun v hv => hT.kept hv (fun k ⟨e, he, hz⟩ => hS k (h.zone e he k hz).2.1))
 have A5 := Hh (show 2 + 1 ≤ w.heap.size from hT.low)
 have A0 := Hh (show s0.length = 8 from hT.len)
 have A3 := Hh (show Fine K s0 ls from h.fine)
 have Am := Hh h.ids
 have Bi := Hh h.low
 have H1 := Hh h1
 clear h h1 hT hS Ay
 go_enter Tryz.func45, Tryz.ntmps45
 go_wp2_with fail
 refine (newT_is K s0 (fun k => w.heap.size ≤ k) w (fun k h => h)).mono ?_
 rintro _ W2 ⟨ga, rfl, htr, hb2, hga⟩
 have hz2 : Tr K s0 (fun k => w.heap.size ≤ k ∧ k < W2.heap.size) W2 ga [] := htr.zone (fun k h1 h2 => ⟨h2, h1⟩)
 have Aa := H1.o.quiet hb2
 obtain ⟨w0, Av, hit, hk0, Aw⟩ := range_is (T := 98) Tryz.underlying98 Aa.map0
 have hc0 := Aa.cells.1
 obtain ⟨r, hr⟩ : ∃ y, y = W2.heap.size := ⟨_, rfl⟩
 rw [← hr] at Av hit
 have Be := Hh (show GoAll K s0 w S g ls m0 m1 E Z r ga w0 [] (fun k => w.heap.size ≤ k ∧ k < W2.heap.size) from
  ⟨hit, hz2.kept hk0 (fun _ _ _ e => e), fun k hk => ⟨hk.1, by omega, Nat.lt_of_lt_of_le hk.2 hk0.size⟩, Aa.kept hk0 (fun _ _ _ e => e), (Kept.of_below hb2).trans (hk0.mono (fun _ _ e => e.elim)), by rw [Aw]; omega⟩)
 have Bg := Hh (show w.heap.size ≤ ga from hga)
 have HR := Hh (show w.heap.size ≤ r by rw [hr]; exact hb2.size)
 clear htr hb2 hga hz2 Aa hit hk0 Aw hr H1
 go_wp2_with fail
 go_loopw [] (fun wr => ∃ done Za, GoAll K s0 w S g ls m0 m1 E Z r ga wr done Za) (fun wr => wr.rangeLeft m0 r)
 case atStart => exact ⟨_, _, Be.o⟩
 case round =>
  clear Be Av hc0
  obtain ⟨done, Za, hgo⟩ := hrel
  rcases next_is hgo.iter 0 with ⟨hd, hnx⟩ | ⟨key, vv, w2, hmem, hnd, hkh, hnx, hit1, hk1, hsz1, hlt1, hen⟩
  · have Ac : (done.map (topL K s0 ls)).Perm (topT K s0 ls) := by
     refine List.Perm.map _ ?_
     refine (List.perm_ext_iff_of_nodup hgo.iter.nodup.1 (ids_nodup ls)).2 fun id => ?_
     rw [← Am.o, ← ids_ents]
     exact ⟨fun e => hgo.iter.nodup.2.2 id e, fun e => by
       obtain ⟨p, hp, rfl⟩ := List.mem_map.1 e
       exact hd p hp⟩
    have A2 := Hh (show AllP K s0 S w g ls m0 m1 E Z (.returned (.pointer (some ⟨ga, 0, none⟩))) wr from ⟨ga, _, Za, rfl, Ac, hgo.tree, fun k hk => (hgo.zone k hk).1, Nat.le_trans A5.o Bg.o, hgo.cm.zoneS (fun k _ e => e.1), hgo.kept⟩)
    clear Ac hgo hd
    go_wp2
    go_ret
    exact A2.o
  · obtain ⟨e, he, hee⟩ := List.mem_map.1 hmem
    obtain ⟨id, q⟩ := e
    obtain ⟨rfl, rfl⟩ : key = id ∧ vv = .pointer (some ⟨q, 0, none⟩) := by
     unfold entP at hee
     injection hee with e1 e2
     exact ⟨e1.symm, e2.symm⟩
    have Au : m0 ≠ r := hgo.iter.ne
    have hnr : ∀ k, (∃ e ∈ E, Z e.2 k) → k ≠ r := fun k ⟨e, he, hz⟩ => by have a1 := (Ba.o e he k hz).1; have a2 := HR.o; omega
    have Ax := hgo.tree.kept hk1 (fun k _ hz e => (hgo.zone k hz).2.1 e)
    have Aa := hgo.cm.kept hk1 (fun k _ hz e => by have a1 := hz.2; have a2 := HR.o; have e' : k = r := e; omega)
    have As : Kept (fun k => ∃ e ∈ E, Z e.2 k) w w2 := hgo.kept.step hk1 (fun k e => .inr (by rw [show k = r from e]; exact HR.o))
    obtain ⟨L, hL⟩ : ∃ L, L = bcells key := ⟨_, rfl⟩
    have hLl : L.length = 32 := by rw [hL, bcells_length, hkh.1]
    have Bo := Hh (show (Tryz.prog.info? 27).map (·.size) = some L.toArray.size by rw [List.size_toArray, hLl]; kernel_rfl)
    have Bb := Hh (show (Tryz.prog.info? 27).map (·.size) = some L.length by rw [hLl]; kernel_rfl)
    have Bn := Hh (show L.toArray.all (·.oneCell') = true by rw [hL]; exact all_oneCell_toArray (bcells_one key))
    have Bp := Hh (show zk.size = L.toArray.size by rw [Bm.o, List.size_toArray, hLl])
    unfold arr at hnx hen
    rw [← hL] at hnx hen
    have EL := Hh hL
    have Bf := Hh (show ∀ C, Has ((w2.alloc (.cells zk 27)).setRow w2.heap.size C) w2.heap.size 27 C ∧ Kept (fun _ => False) w2 ((w2.alloc (.cells zk 27)).setRow w2.heap.size C) from fun C => by
     rw [World.setRow_alloc_new]
     exact ⟨Has.new w2 _ _, (Kept.refl _ _).alloc _⟩)
    have Ae := Hh hit1
    have A6 := Hh hlt1
    have Ar := Hh Ax
    have Al := Hh Aa
    have Ao := Hh As
    have Bh := Hh hkh
    have HE := Hh he
    have Bj := Hh hnr
    have A1 := Hh (show ∀ k, Za k → w.heap.size ≤ k ∧ k ≠ r ∧ k < w2.heap.size from fun k hz => ⟨(hgo.zone k hz).1, (hgo.zone k hz).2.1, Nat.lt_of_lt_of_le (hgo.zone k hz).2.2 hk1.size⟩)
    have Az := Hh (show r < w2.heap.size ∧ m0 < w.heap.size ∧ m0 ≠ r from ⟨Nat.lt_of_lt_of_le hgo.lt hk1.size, hgo.cm.inS.2.1.2, Au⟩)
    have Bc := Hh (show (done ++ [key]).Nodup ∧ ∀ x ∈ done ++ [key], x ∈ idsOf ls from ⟨hit1.nodup.1, fun x hx => by
     have := hit1.nodup.2.2 x hx
     rwa [ids_ents, Am.o] at this⟩)
    clear hit1 hlt1 Ax Aa As hkh he hnd hgo hL hLl hk1 hsz1 hmem hee Au hnr
    go_upto_region 5 with (refine wpList_store_row rfl 27 (.tmp 4) (.tmp 15) rfl w2.heap.size L.toArray rfl rfl 27 zk (heap_alloc_new w2 _) Bo.o Bp.o Bn.o ?_)
    obtain ⟨h9, hk9⟩ := Bf.o L.toArray
    have Ag := Ae.o.kept hk9 (fun h => h) (fun h => h)
    have Ai := Ae.o.left_kept hk9 (fun h => h) (fun h => h)
    have Aj := Ar.o.kept hk9 (fun _ _ _ h => h)
    have Af := Al.o.kept hk9 (fun _ _ _ h => h)
    have Ah := Ao.o.trans (hk9.mono (fun _ _ h => h.elim))
    have hs5 := hk9.size
    clear hk9 Bf Ae Ar Al Ao
    generalize (w2.alloc (.cells zk 27)).setRow w2.heap.size L.toArray = W5 at h9 Ag Ai Aj Af Ah hs5 ⊢
    obtain ⟨G5, hG5⟩ : ∃ y, y = w2.heap.size := ⟨_, rfl⟩
    rw [← hG5] at h9 ⊢
    have Bd := Hh (show ¬ Za G5 ∧ ¬ Z q G5 from ⟨fun hz => by have := (A1.o _ hz).2.2; omega, fun hz => by have a1 := (Ba.o _ HE.o _ hz).1; have a2 := Az.o.1; have a3 := HR.o; omega⟩)
    have Bk := Hh (show r < W5.heap.size by have := Az.o.1; omega)
    have Ak := Hh (show ∀ k, Za k → w.heap.size ≤ k ∧ k ≠ r from fun k hz => ⟨(A1.o k hz).1, (A1.o k hz).2.1⟩)
    have A8 := Hh (show ∀ v, Kept (fun k => Z q k ∨ Za k) W5 v → v.rangeAt G5 0 L from fun v hv => (h9.kept hv (fun e => by rcases e with e | e; exact Bd.o.2 e; exact Bd.o.1 e)).row0)
    have An := Hh Ag
    have A4 := Hh Ai
    have A9 := Hh Aj
    have Ad := Hh Af
    have Ap := Hh Ah
    clear Ag Ai Aj Af Ah hs5 h9 hG5 A1 hnx hen
    have hS0 : Kept (fun k => Z q k ∨ Za k) W5 W5.drew := (Kept.refl _ _).drew
    refine wp_region_noPanic ?_
    refine wp_region_held_drew (S := (fun v => Kept (fun k => Z q k ∨ Za k) W5 v)) (by kernel_rfl) hS0 (fun hH0 => ?_)
    apply tl 0 rfl ?hv hH0 ?_
    case hv => intro w' hS; go_simp; try rfl
    simp only [qc]
    refine tk 1 (v := (.agg L.toArray)) rfl (yieldsIf_load_mid (by kernel_rfl) 27 (.tmp 4) rfl G5 0 rfl L _ (fun w' h => (A8.o _ h)) Tryz.underlying27 rfl Bb.o) hH0 ?_
    simp only [qc]
    apply tl 2 rfl ?hv hH0 ?_
    case hv => intro w' hS; go_simp; try rfl
    simp only [qc]
    refine rdy [3] (ar1 rfl fun KK hKK => ?_)
    go_simp
    have hrt := tr_root ((Ad.o.trees _ HE.o).kept (S := Z q) (Z := fun _ => False) ((Kept.refl (fun _ => False) W5).drew) (fun _ _ _ e => e)) (Bl.o W5.drew Ap.o.drew) (Bi.o _ HE.o)
    obtain ⟨P, hP⟩ : ∃ P, P = partNd K s0 256 (lowT K s0 ls key) := ⟨_, rfl⟩
    rw [← hP] at hrt
    have A7 := Hh hP
    clear hP
    refine hrt.mono ?_
    rintro _ xr ⟨rfl, hra, hrk⟩
    have hs3 : Kept (fun k => Z q k ∨ Za k) W5 xr := Kept.trans hH0 (hrk.mono (fun _ _ e => .inl e))
    have hcr := (Ad.o.kept (T := fun _ => False) ((Kept.refl (fun _ => False) W5).drew) (fun _ _ _ e => e)).root HE.o hra hrk
    have hta := (A9.o.kept (Z := fun _ => False) ((Kept.refl (fun _ => False) W5).drew) (fun _ _ _ e => e)).kept hrk (fun k _ hz e => by have a1 := (Ba.o _ HE.o _ e).1; have a2 := (Ak.o k hz).1; omega)
    have hka : Kept (fun k => Z q k) W5 xr := ((Kept.refl _ W5).drew).trans hrk
    clear hrt hra hrk
    refine hKK _ _ hs3 fun hH1 => ?_
    clear hKK KK
    try simp only [qc]
    refine rdy [4] (ar1 rfl fun KK hKK => ?_)
    go_simp
    have hPh : IsHash P.h := by rw [A7.o]; exact low_hash A0.o key
    have hPs : P.s < 18446744073709551616 := by rw [A7.o, low_part A0.o A3.o.keys]; have a1 := of_le ls key; have a2 := A3.o.fit; omega
    refine (coHigh_is xr P hPh hPs).mono ?_
    rintro _ xh ⟨sv, rfl, hby, hbh⟩
    have hs4 : Kept (fun k => Z q k ∨ Za k) W5 xh := Kept.trans hH1 (Kept.of_below hbh)
    replace hcr := hcr.quiet hbh
    replace hta := hta.quiet hbh
    replace hka := hka.trans (Kept.of_below hbh)
    clear hbh
    refine hKK _ _ hs4 fun hH2 => ?_
    clear hKK KK
    try simp only [qc]
    refine rdy [5] (ar1 rfl fun KK hKK => ?_)
    go_simp
    have htl : topL K s0 ls key = ⟨key, P.h, P.s⟩ := by unfold topL; rw [← A7.o]
    obtain ⟨tp1, tp2⟩ := top_put A0.o A3.o Bc.o.1 Bc.o.2
    have hpt := put_tight A0.o hta ⟨key, P.h, P.s⟩ Bh.o hby hPs (by show P.h.length ≤ 1000000; rw [hPh.1]; decide)
    rw [htl] at tp1 tp2
    rw [tp1, tp2] at hpt
    unfold arr at hpt
    rw [show bcells (⟨key, P.h, P.s⟩ : Lf).k = L from EL.o.symm] at hpt
    refine hpt.mono ?_
    rintro _ xp ⟨rfl, htp, hkp⟩
    have hs5 : Kept (fun k => Z q k ∨ Za k) W5 xp := Kept.trans hH2 (hkp.mono (fun _ _ e => .inr e))
    have hcp := hcr.kept hkp (fun k _ e1 e2 => by have a1 := (Ak.o k e2).1; have a2 := e1.2; omega)
    refine hKK _ _ hs5 fun hH3 => ?_
    clear hKK KK
    try simp only [qc]
    refine wpAnyH_done (by kernel_rfl) ?_ _
    refine NoPanic.normal ?_
    have hkz : Kept (fun k => Z q k ∨ Za k) W5 xp := hs5
    have Ab : ∀ k, (Z q k ∨ Za k) → k ≠ r ∧ k ≠ m0 := fun k hz => by
     have a3 := Az.o
     rcases hz with hz | hz
     · exact ⟨Bj.o k ⟨_, HE.o, hz⟩, (Ad.o.zone _ HE.o k hz).2.2.2.1⟩
     · have a1 := Ak.o k hz; exact ⟨a1.2, by omega⟩
    have Aq := Hh (show GoAll K s0 w S g ls m0 m1 E Z r ga xp (done ++ [key]) (fun k => (Za k ∨ xh.heap.size ≤ k) ∧ k < xp.heap.size) ∧ xp.rangeLeft m0 r < wr.rangeLeft m0 r by
     have a1 := hkz.size
     have a2 := hs4.size
     have a3 := Bk.o
     have a4 := Az.o
     have a5 := HR.o
     refine ⟨⟨An.o.kept hkz (fun e => (Ab m0 e).2 rfl) (fun e => (Ab r e).1 rfl), htp, fun k hz => ?_, hcp, Ap.o.step hkz (fun k e => ?_), by omega⟩, ?_⟩
     · rcases hz.1 with h1 | h1
       · exact ⟨(Ak.o k h1).1, (Ak.o k h1).2, hz.2⟩
       · exact ⟨by omega, by omega, hz.2⟩
     · rcases e with e | e
       · exact .inl ⟨_, HE.o, e⟩
       · exact .inr (Ak.o k e).1
     · rw [An.o.left_kept hkz (fun e => (Ab m0 e).2 rfl) (fun e => (Ab r e).1 rfl), A4.o]
       exact A6.o)
    clear hs3 hs4 hs5 hS0 hkz Ab htp hkp hcp hcr hta hka hby hPh hPs
    go_wp2_with fail
    go_roundw
    case rel => exact ⟨_, _, Aq.o.1⟩
    case measure => exact Aq.o.2
end
section
/- The walk of commit's Anchor. -/

variable {K s0 : List Wd} {S : Nat → Prop} {w w' : World} {g m0 m1 : Nat} {ls : List LeafT} {E : List (List Nat × Nat)} {Z : Nat → Nat → Prop}
theorem top_keyed (hf : Fine K s0 ls) : Keyed ((topT K s0 ls).map (·.k)) := by
 have e : (topT K s0 ls).map (·.k) = idsOf ls := by
  unfold topT
  rw [List.map_map]
  have : (Lf.k ∘ topL K s0 ls) = id := rfl
  rw [this, List.map_id]
 rw [e]
 exact ⟨fun k hk => by
  obtain ⟨l, hl, e2⟩ := (ids_mem ls k).1 hk
  rw [← e2]
  exact (hf.ok l hl).id, ids_nodup ls⟩
theorem top_perm (hf : Fine K s0 ls) {T : List Lf} (hp : T.Perm (topT K s0 ls)) (hk : Keyed (T.map (·.k))) : partNd K s0 256 T = partNd K s0 256 (topT K s0 ls) := part_perm K s0 256 T _ hk (coh_top _) hp
theorem top_fit (hs0 : s0.length = 8) (hf : Fine K s0 ls) : (partNd K s0 256 (topT K s0 ls)).s < 18446744073709551616 := by
 rw [part_sum K s0 256 _ (top_keyed hf) (coh_top _)]
 unfold topT
 rw [top_sum hs0 hf]
 have a1 := ids_sum ls _ (ids_nodup ls)
 have a2 := hf.fit
 omega
theorem top_hash (hs0 : s0.length = 8) : IsHash (partNd K s0 256 (topT K s0 ls)).h := part_hash K s0 hs0 256 _
theorem boxes_an (w : World) (Z : Array Value) : ∃ W1, W1 = (w.alloc (.cells Z 27)) ∧
   Has W1 (w.heap.size) 27 Z ∧ Below w.heap.size w W1 := by
 refine ⟨_, rfl, ?_, ?_⟩
 · have := Has.new w 27 Z
   exact this
 · exact (Below.refl _ _).alloc (Nat.le_refl _) _
set_option maxRecDepth 100000 in
set_option maxHeartbeats 8000000 in
theorem coAnch_at (h : CmAt K s0 S w g ls m0 m1 E Z) (hT : Tabs K s0 w) (hS : ∀ k, S k → 2 + 1 ≤ k) :
   Calls Tryz.prog 12 #[.pointer (some ⟨g, 0, none⟩)] w fun e w' => e = .returned (arr (anchorOf K s0 ls)) ∧ CmAt K s0 S w' g ls m0 m1 E Z ∧ Kept (fun k => ∃ e ∈ E, Z e.2 k) w w' := by
 obtain ⟨zk, hzk, Ag, hzkn⟩ := zero_hashT
 obtain ⟨D, hD⟩ : ∃ D, D = anchorOf K s0 ls := ⟨_, rfl⟩
 have hDh : IsHash D := by
   rw [hD]
   unfold anchorOf
   by_cases e : ls = []
   · rw [if_pos e]; exact ⟨rfl, fun k hk => by rw [List.eq_of_mem_replicate hk]; decide⟩
   · rw [if_neg e]; exact anchorK_hash K s0 hT.len _
 unfold arr
 rw [← hD]
 obtain ⟨LD, hLD⟩ : ∃ L, L = bcells D := ⟨_, rfl⟩
 rw [← hLD]
 have Ai := Hh (show (Tryz.prog.info? 27).map (·.size) = some LD.toArray.size by rw [List.size_toArray, hLD, bcells_length, hDh.1]; kernel_rfl)
 have Az := Hh (show zk.size = LD.toArray.size by rw [Ag, List.size_toArray, hLD, bcells_length, hDh.1])
 have Af := Hh (show LD.toArray.all (·.oneCell') = true by rw [hLD]; exact all_oneCell_toArray (bcells_one D))
 obtain ⟨nl, hnl⟩ : ∃ n, n = ls.length := ⟨_, rfl⟩
 have Al := Hh (show ∀ v ty, Below w.heap.size w v → (Builtin.len_ #[99] ty #[.map (some m1)]).run Tryz.prog v = .ok (goInt nl) v from fun v ty hv => by
   have := len_mapL (h.quiet hv).map1 ty
   rwa [List.length_map, ← hnl] at this)
 have Aw := Hh hnl
 have HD := Hh hD
 have An := Hh hLD
 have H := Hh h
 have HS := Hh hS
 have HT := Hh hT
 obtain ⟨W1, hW1, h1, hb1⟩ := boxes_an w zk
 have EW := Hh hW1
 have H1 := Hh h1
 have Aa := Hh hb1
 clear h hT hS hD hDh hLD hnl hW1 h1 hb1 Ag
 go_enter Tryz.func12, Tryz.ntmps12
 go_upto_region 1 with (fail)
 rw [← EW.o]
 obtain ⟨B, hB⟩ : ∃ y, y = w.heap.size := ⟨_, rfl⟩
 rw [← hB] at H1 ⊢
 have EB := Hh hB
 clear hB EW
 have hc1 := (H.o.quiet Aa.o).cells.2.1
 have Am : ∀ ty, (Builtin.len_ #[99] ty #[.map (some m1)]).run Tryz.prog W1 = .ok (goInt nl) W1 := fun ty => Al.o W1 ty Aa.o
 by_cases hn0 : nl = 0
 · have HZ := Hh (show LD = bcells (List.replicate 32 0) by
     have e0 : ls = [] := List.eq_nil_of_length_eq_zero (by rw [← Aw.o]; exact hn0)
     rw [An.o, HD.o]
     unfold anchorOf
     rw [if_pos e0])
   have A0 := Hh (show ∀ v, (Instr.build 27 #[]).run Tryz.prog v = .ok (.agg LD.toArray) v from fun v => by rw [HZ.o]; kernel_rfl)
   subst hn0
   go_wp2_with (first
     | (refine wpList_build_run rfl 27 #[] rfl #[] (by kernel_rfl) (.agg LD.toArray) (A0.o _) ?_)
     | (refine wpList_store_row rfl 27 (.tmp 2) (.tmp 13) rfl B LD.toArray rfl rfl 27 zk H1.o Ai.o Az.o Af.o ?_))
   have hk9 := kept_setRow (g := B) W1 LD.toArray
   have hb9 := Aa.o.trans (hk9.below Aa.o.size (fun j e => by rw [show j = B from e, EB.o]; exact Nat.le_refl _))
   have Ab := Hh (show Has (W1.setRow B LD.toArray) B 27 LD.toArray from H1.o.setRow)
   have Ad := Hh (And.intro (H.o.quiet hb9) (show Kept (fun k => ∃ e ∈ E, Z e.2 k) w (W1.setRow B LD.toArray) from Kept.of_below hb9))
   clear hk9 hb9
   refine bodyPost_ret (results_cell_row rfl _ _ B 27 LD.toArray (0, 0) _ rfl Ab.o Tryz.underlying27 rfl Ai.o) rfl ?_
   exact ⟨rfl, Ad.o⟩
 · have hn1 : ¬ (nl : Int) = 0 := by omega
   have A3 := Hh (show ¬ ls = [] from fun e => hn0 (by rw [Aw.o, e]; rfl))
   clear hn0
   have hal := coAll_at ((H.o.zoneS (S' := fun k => S k ∧ k < w.heap.size) (fun k h1 h2 => ⟨h2, h1⟩)).quiet Aa.o) (HT.o.below Aa.o HT.o.low) (fun k e => HS.o k e.1)
   have Ao := Hh hal
   clear hal
   go_wp2_with fail
   refine Ao.o.mono ?_
   rintro _ W3 ⟨ga, T, Za, rfl, Ac, htr, hza, hlo, hcm, hkp⟩
   have hBz : ¬ (∃ e ∈ E, Z e.2 B) := fun ⟨e, he, hz⟩ => by have a1 := (H.o.zone e he B hz).1; have a2 := EB.o; omega
   have hb3 := H1.o.kept hkp hBz
   have ht3 : Tabs K s0 W3 := (HT.o.below Aa.o HT.o.low).kept hkp (fun k ⟨e, he, hz⟩ => HS.o k (H.o.zone e he k hz).2.1)
   have hrt := tr_root htr ht3 hlo
   rw [top_perm H.o.fine Ac htr.keyed] at hrt
   obtain ⟨P, hP⟩ : ∃ P, P = partNd K s0 256 (topT K s0 ls) := ⟨_, rfl⟩
   rw [← hP] at hrt
   have A4 := Hh (show IsHash P.h by rw [hP]; exact top_hash ht3.len)
   have A5 := Hh (show P.s < 18446744073709551616 by rw [hP]; exact top_fit ht3.len H.o.fine)
   have A1 := Hh (show anchorK K s0 P = D by rw [HD.o, hP]; unfold anchorOf; rw [if_neg A3.o])
   have Ax := Hh hrt
   have Av := Hh hkp
   have As := Hh hcm
   have Aq := Hh hb3
   have Ay := Hh ht3
   have Ah := Hh (show ∀ k, Za k → W1.heap.size ≤ k ∧ k ≠ B ∧ 2 + 1 ≤ k from fun k hz => by have a1 := hza k hz; have a2 := H1.o.lt; have a3 := (HT.o.below Aa.o HT.o.low).low; exact ⟨a1, by omega, by omega⟩)
   clear Ac htr hza hlo hcm hkp hBz hb3 ht3 hrt hP Ao Am hc1
   go_wp2_with fail
   refine Ax.o.mono ?_
   rintro _ W4 ⟨rfl, -, hk4⟩
   have hb4 := Aq.o.kept hk4 (fun e => (Ah.o B e).2.1 rfl)
   have Aj := Hh hb4
   have Ae := Hh (As.o.kept hk4 (fun k _ e1 e2 => by have a1 := (Ah.o k e2).1; have a2 := e1.2; have a3 := Aa.o.size; omega))
   have A6 := Hh (Ay.o.kept hk4 (fun k e => (Ah.o k e).2.2))
   have Au := Hh (show Kept (fun k => (∃ e ∈ E, Z e.2 k) ∨ w.heap.size ≤ k) w W4 from ((Kept.of_below Aa.o).trans (Av.o.mono (fun _ _ e => .inl e))).step hk4 (fun k e => .inr (Nat.le_trans Aa.o.size (Ah.o k e).1)))
   clear hb4 hk4 Aq As Ay Ax Av
   have han := coAnchor_is K s0 W4 A6.o P A4.o A5.o
   rw [A1.o] at han
   unfold arr at han
   rw [← An.o] at han
   have Ap := Hh han
   clear han
   go_wp2_with fail
   refine Ap.o.mono ?_
   rintro _ W5 ⟨rfl, hb5⟩
   have Ar := Hh (Aj.o.below hb5 Aj.o.lt)
   have Ak := Hh (Ae.o.quiet hb5)
   have A2 := Hh (Au.o.trans (Kept.of_below hb5))
   clear hb5 Ap Ae Au Aj
   go_wp2_with (refine wpList_store_row rfl 27 (.tmp 2) (.tmp 17) rfl B LD.toArray rfl rfl 27 zk Ar.o Ai.o Az.o Af.o ?_)
   have hk9 := kept_setRow (g := B) W5 LD.toArray
   have Ab := Hh (show Has (W5.setRow B LD.toArray) B 27 LD.toArray from Ar.o.setRow)
   have Ad := Hh (show CmAt K s0 S (W5.setRow B LD.toArray) g ls m0 m1 E Z ∧ Kept (fun k => ∃ e ∈ E, Z e.2 k) w (W5.setRow B LD.toArray) from by
     refine ⟨(Ak.o.kept hk9 (fun k _ e1 e2 => by have a1 := e1.2; have a2 : k = B := e2; have a3 := EB.o; omega)).zoneS (fun k _ e => e.1), ?_⟩
     · exact (A2.o.step hk9 (fun k e => .inr (by rw [show k = B from e, EB.o]; exact Nat.le_refl _))).mono (fun k hk e => by rcases e with e | e; exact e; omega))
   clear hk9
   refine bodyPost_ret (results_cell_row rfl _ _ B 27 LD.toArray (0, 0) _ rfl Ab.o Tryz.underlying27 rfl Ai.o) rfl ?_
   exact ⟨rfl, Ad.o⟩
end
/- Leaves compared, field by field. -/

theorem lq_num {t : TypeId} {k : IntKind} {T : TypeId} (ht : t = T) (hu : Tryz.prog.underlying T = some (.int k)) {l : List Value} {off : Nat} {v : Value} (h : l[off]? = some v) (w : World) : (part t l.toArray off).run Tryz.prog w = .ok v w := by
 subst ht
 exact part_int hu (by simpa using h) w
theorem lq_eq {t : TypeId} {k : IntKind} {T : TypeId} (ht : t = T) (hu : Tryz.prog.underlying T = some (.int k)) (d : Nat) (a b : Int) (w : World) : (Op.equalIn (d + 1) t (.int k a) (.int k b)).run Tryz.prog w = .ok (a == b) w := by
 subst ht
 exact run_equalIn_int w d t k k a b hu
instance : DecidableEq LeafT := fun a b => decidable_of_iff (a.id = b.id ∧ a.am = b.am ∧ a.ow = b.ow ∧ a.pl = b.pl ∧ a.sp.h = b.sp.h ∧ a.sp.s = b.sp.s) (by
  obtain ⟨a1, a2, a3, a4, ⟨a5, a6⟩⟩ := a
  obtain ⟨b1, b2, b3, b4, ⟨b5, b6⟩⟩ := b
  simp)
theorem lf_id {l : LeafT} (h : l.ok) : (l.cells.drop 0).take 32 = bcells l.id := by
 rw [List.drop_zero, LeafT.cells, List.take_append_of_le_length (by rw [bcells_length, h.id.1]; exact Nat.le_refl _)]
 exact List.take_of_length_le (by rw [bcells_length, h.id.1]; exact Nat.le_refl _)
theorem lf_ow {l : LeafT} (h : l.ok) : (l.cells.drop 33).take 32 = bcells l.ow := by
 have e : l.cells = (bcells l.id ++ [Value.int .u64 (l.am : Int)]) ++ (bcells l.ow ++ (.int .i64 l.pl :: ndV l.sp)) := by unfold LeafT.cells; simp
 have hl : (bcells l.id ++ [Value.int .u64 (l.am : Int)]).length = 33 := by simp [bcells_length, h.id.1]
 rw [e, ← hl, List.drop_left, List.take_append_of_le_length (by rw [bcells_length, h.ow.1]; exact Nat.le_refl _)]
 exact List.take_of_length_le (by rw [bcells_length, h.ow.1]; exact Nat.le_refl _)
theorem lf_sp {l : LeafT} (h : l.ok) : (l.cells.drop 66).take 33 = ndV l.sp := by
 have e : l.cells = (bcells l.id ++ [Value.int .u64 (l.am : Int)] ++ bcells l.ow ++ [Value.int .i64 l.pl]) ++ ndV l.sp := by unfold LeafT.cells; simp
 have hl : (bcells l.id ++ [Value.int .u64 (l.am : Int)] ++ bcells l.ow ++ [Value.int .i64 l.pl]).length = 66 := by simp [bcells_length, h.id.1, h.ow.1]
 rw [e, ← hl, List.drop_left]
 exact List.take_of_length_le (by rw [ndV_len h.sp]; exact Nat.le_refl _)
theorem nd_h {x : Nd} (h : IsHash x.h) : ((ndV x).drop 0).take 32 = bcells x.h := by
 rw [List.drop_zero, ndV, ncells, List.take_append_of_le_length (by rw [bcells_length, h.1]; exact Nat.le_refl _)]
 exact List.take_of_length_le (by rw [bcells_length, h.1]; exact Nat.le_refl _)
theorem nd_s {x : Nd} (h : IsHash x.h) : (ndV x)[32]? = some (.int .u64 (x.s : Int)) := by
 rw [ndV, ncells, List.getElem?_append_right (by rw [bcells_length, h.1]; exact Nat.le_refl _), bcells_length, h.1]
 rfl
theorem le_hash {t : TypeId} (ht : t = 27) {l : List Value} {off : Nat} {k : List Nat} (h : (l.drop off).take 32 = bcells k) (w : World) : (part t l.toArray off).run Tryz.prog w = .ok (.agg (bcells k).toArray) w := by
 subst ht
 rw [part_agg Tryz.underlying27 (k := 32) (by kernel_rfl), extract_list, h]
theorem le_heq {t : TypeId} (ht : t = 27) (d : Nat) {a b : List Nat} (ha : IsHash a) (hb : IsHash b) (w : World) : (Op.equalIn (d + 2) t (.agg (bcells a).toArray) (.agg (bcells b).toArray)).run Tryz.prog w = .ok (decide (a = b)) w := by
 subst ht
 exact hash_eq_at d a b ha hb w
theorem le_node {t : TypeId} (ht : t = 30) (d : Nat) (x y : Nd) (hx : IsHash x.h) (hy : IsHash y.h) (w : World) : (Op.equalIn (d + 4) t (.agg (ndV x).toArray) (.agg (ndV y).toArray)).run Tryz.prog w = .ok (decide (x.h = y.h ∧ x.s = y.s)) w := by
 subst ht
 obtain ⟨f0, f1, hf, ⟨n0, t0, o0⟩, ⟨n1, t1, o1⟩⟩ := mn_fields
 rw [run_equalIn_struct w (d + 3) 30 _ _ mn_struct (by kernel_rfl), hf, eqF_any n0 (le_hash t0 (off := f0.offset) (by rw [o0]; exact nd_h hx) w) (le_hash t0 (off := f0.offset) (by rw [o0]; exact nd_h hy) w) (le_heq t0 (d + 1) hx hy w),
   eqF_any n1 (lq_num t1 Tryz.underlying28 (off := f1.offset) (by rw [o1]; exact nd_s hx) w) (lq_num t1 Tryz.underlying28 (off := f1.offset) (by rw [o1]; exact nd_s hy) w) (lq_eq t1 Tryz.underlying28 (d + 2) _ _ w), eqF_nil]
 by_cases h1 : x.h = y.h
 · by_cases h2 : x.s = y.s
   · simp [h1, h2]
   · have h2' : ¬ ((x.s : Int) = (y.s : Int)) := fun e => h2 (by omega)
     simp [h1, h2, h2']
 · simp [h1]
theorem le_part {t : TypeId} (ht : t = 30) {l : List Value} {off : Nat} {x : Nd} (h : (l.drop off).take 33 = ndV x) (w : World) : (part t l.toArray off).run Tryz.prog w = .ok (.agg (ndV x).toArray) w := by
 subst ht
 obtain ⟨i, hi⟩ := info_of_underlying mn_struct
 have hc : Tryz.prog.cellsOf 30 = 33 := by kernel_rfl
 have e : l.toArray.extract off (off + Tryz.prog.cellsOf 30) = (ndV x).toArray := by rw [hc, extract_list, h]
 simp [part, isAgg, run_underlying mn_struct, run_sizeOf w hi, e, h]
theorem le_fields : ∃ f0 f1 f2 f3 f4, (Tryz.prog.fieldsOf 32).toList = [f0, f1, f2, f3, f4] ∧ (f0.name ≠ "_" ∧ f0.type = 27 ∧ f0.offset = 0) ∧ (f1.name ≠ "_" ∧ f1.type = 28 ∧ f1.offset = 32) ∧ (f2.name ≠ "_" ∧ f2.type = 27 ∧ f2.offset = 33) ∧
  (f3.name ≠ "_" ∧ f3.type = 3 ∧ f3.offset = 65) ∧ (f4.name ≠ "_" ∧ f4.type = 30 ∧ f4.offset = 66) := by
 unfold Program.fieldsOf
 rw [Tryz.underlying32]
 exact ⟨_, _, _, _, _, rfl, ⟨by decide, rfl, rfl⟩, ⟨by decide, rfl, rfl⟩, ⟨by decide, rfl, rfl⟩, ⟨by decide, rfl, rfl⟩, ⟨by decide, rfl, rfl⟩⟩
theorem le_struct : Tryz.prog.underlying 32 = some (.struct (Tryz.prog.fieldsOf 32)) := by
 unfold Program.fieldsOf
 rw [Tryz.underlying32]
theorem le_eq (x y : LeafT) (hx : x.ok) (hy : y.ok) (w : World) : (Op.equalIn 10000 32 (.agg x.cells.toArray) (.agg y.cells.toArray)).run Tryz.prog w = .ok (decide (x = y)) w := by
 obtain ⟨f0, f1, f2, f3, f4, hf, ⟨n0, t0, o0⟩, ⟨n1, t1, o1⟩, ⟨n2, t2, o2⟩, ⟨n3, t3, o3⟩, ⟨n4, t4, o4⟩⟩ := le_fields
 rw [run_equalIn_struct w 9999 32 _ _ le_struct (by kernel_rfl), hf,
   eqF_any n0 (le_hash t0 (off := f0.offset) (by rw [o0]; exact lf_id hx) w) (le_hash t0 (off := f0.offset) (by rw [o0]; exact lf_id hy) w) (le_heq t0 9997 hx.id hy.id w),
   eqF_any n1 (lq_num t1 Tryz.underlying28 (off := f1.offset) (by rw [o1]; exact LeafT.at_am hx) w) (lq_num t1 Tryz.underlying28 (off := f1.offset) (by rw [o1]; exact LeafT.at_am hy) w) (lq_eq t1 Tryz.underlying28 9998 _ _ w),
   eqF_any n2 (le_hash t2 (off := f2.offset) (by rw [o2]; exact lf_ow hx) w) (le_hash t2 (off := f2.offset) (by rw [o2]; exact lf_ow hy) w) (le_heq t2 9997 hx.ow hy.ow w),
   eqF_any n3 (lq_num t3 Tryz.underlying3 (off := f3.offset) (by rw [o3]; exact LeafT.at_pl hx) w) (lq_num t3 Tryz.underlying3 (off := f3.offset) (by rw [o3]; exact LeafT.at_pl hy) w) (lq_eq t3 Tryz.underlying3 9998 _ _ w),
   eqF_any n4 (le_part t4 (off := f4.offset) (by rw [o4]; exact lf_sp hx) w) (le_part t4 (off := f4.offset) (by rw [o4]; exact lf_sp hy) w) (le_node t4 9995 x.sp y.sp hx.sp hy.sp w), eqF_nil]
 have hd : (x = y) ↔ (x.id = y.id ∧ x.am = y.am ∧ x.ow = y.ow ∧ x.pl = y.pl ∧ x.sp.h = y.sp.h ∧ x.sp.s = y.sp.s) := by
   obtain ⟨a1, a2, a3, a4, ⟨a5, a6⟩⟩ := x
   obtain ⟨b1, b2, b3, b4, ⟨b5, b6⟩⟩ := y
   simp
 have hdd : decide (x = y) = decide (x.id = y.id ∧ x.am = y.am ∧ x.ow = y.ow ∧ x.pl = y.pl ∧ x.sp.h = y.sp.h ∧ x.sp.s = y.sp.s) := decide_eq_decide.2 hd
 rw [hdd]
 by_cases h1 : x.id = y.id
 · by_cases h2 : x.am = y.am
   · by_cases h3 : x.ow = y.ow
     · by_cases h4 : x.pl = y.pl
       · simp [h1, h2, h3, h4]
         by_cases h5 : x.sp.h = y.sp.h ∧ x.sp.s = y.sp.s
         · simp [h5]
         · simp [h5]
           exact fun e1 e2 => h5 ⟨e1, e2⟩
       · simp [h1, h2, h3, h4]
     · simp [h1, h2, h3]
   · have h2' : ¬ ((x.am : Int) = (y.am : Int)) := fun e => h2 (by omega)
     simp [h1, h2, h2']
 · simp [h1]
end Go.Proofs.YtknfbccbdiidjaaGreatDoor
