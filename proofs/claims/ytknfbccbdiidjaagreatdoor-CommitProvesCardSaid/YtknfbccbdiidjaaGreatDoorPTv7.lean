/- A leaf more in a commit: what its blocks are then. -/
import Derived.Test.YtknfbccbdiidjaaGreatDoorWu
import Derived.Test.YtknfbccbdiidjaaGreatDoorPCo2
import Derived.Test.YtknfbccbdiidjaaGreatDoorPTv6
namespace Go.Proofs.YtknfbccbdiidjaaGreatDoor
set_option linter.unusedVariables false
set_option linter.unusedSimpArgs false
open Go.ChangeShapes Go.WideShapes Go.ChangeAt Go.RowKit Go.Maps

section
variable {K s0 : List Wd} {S : Nat → Prop} {w W wt w5 : World} {g m0 m1 q : Nat} {ls : List LeafT} {l : LeafT} {E : List (List Nat × Nat)} {Z : Nat → Nat → Prop} {Zt : Nat → Prop}
theorem ent_eq {E : List (List Nat × Nat)} (h : (E.map (·.2)).Nodup) {a b : List Nat × Nat} (ha : a ∈ E) (hb : b ∈ E) (e : a.2 = b.2) : a = b := by
 induction E with
 | nil => cases ha
 | cons x E ih =>
  rw [List.map_cons, List.nodup_cons] at h
  rcases List.mem_cons.1 ha with ha | ha
  · rcases List.mem_cons.1 hb with hb | hb
    · rw [ha, hb]
    · exact absurd (List.mem_map.2 ⟨b, hb, by rw [← e, ha]⟩) h.1
  · rcases List.mem_cons.1 hb with hb | hb
    · exact absurd (List.mem_map.2 ⟨a, ha, by rw [e, hb]⟩) h.1
    · exact ih h.2 ha hb
theorem ent_eq1 {E : List (List Nat × Nat)} (h : (E.map (·.1)).Nodup) {a b : List Nat × Nat} (ha : a ∈ E) (hb : b ∈ E) (e : a.1 = b.1) : a = b := by
 induction E with
 | nil => cases ha
 | cons x E ih =>
  rw [List.map_cons, List.nodup_cons] at h
  rcases List.mem_cons.1 ha with ha | ha
  · rcases List.mem_cons.1 hb with hb | hb
    · rw [ha, hb]
    · exact absurd (List.mem_map.2 ⟨b, hb, by rw [← e, ha]⟩) h.1
  · rcases List.mem_cons.1 hb with hb | hb
    · exact absurd (List.mem_map.2 ⟨a, ha, by rw [e, hb]⟩) h.1
    · exact ih h.2 ha hb
theorem put_same {l : List Ent} (hd : (l.map (·.1)).Nodup) {k : List Nat} {v : Value} (h : (k, v) ∈ l) : putL l k v = l := by
 obtain ⟨j, hj⟩ := List.getElem?_of_mem h
 rw [putL_at v hj hd]
 obtain ⟨hlt, e⟩ := List.getElem?_eq_some_iff.1 hj
 rw [← e]
 exact List.set_getElem_self hlt
theorem ids_ents (E : List (List Nat × Nat)) : (E.map entP).map (·.1) = E.map (·.1) := by rw [List.map_map]; rfl
theorem ents_more (h : CmAt K s0 S w g ls m0 m1 E Z) (hq : ((l.id, q) ∈ E ∧ Zt = Z q) ∨ (l.id ∉ idsOf ls ∧ w.heap.size ≤ q)) :
   ∃ E' : List (List Nat × Nat), E'.map (·.1) = idsOf (ls ++ [l]) ∧ putL (E.map entP) l.id (.pointer (some ⟨q, 0, none⟩)) = E'.map entP ∧ (∀ e ∈ E', e = (l.id, q) ∨ (e ∈ E ∧ e.2 ≠ q ∧ e.1 ≠ l.id)) ∧ (E'.map (·.2)).Nodup ∧ (l.id, q) ∈ E' := by
 have hid : (E.map (·.1)).Nodup := by rw [h.ids]; exact ids_nodup ls
 rcases hq with ⟨hq, -⟩ | ⟨hne, hq⟩
 · refine ⟨E, ?_, put_same (by rw [ids_ents]; exact hid) (List.mem_map.2 ⟨_, hq, rfl⟩), fun e he => ?_, h.gs, hq⟩
   · rw [idsOf_snoc, h.ids]
     unfold idStep
     rw [if_pos (by rw [← h.ids]; exact List.mem_map.2 ⟨_, hq, rfl⟩)]
   · by_cases e1 : e = (l.id, q)
     · exact .inl e1
     · exact .inr ⟨he, fun e2 => e1 (ent_eq h.gs he hq e2), fun e2 => e1 (ent_eq1 hid he hq e2)⟩
 · have hlt : ∀ e ∈ E, e.2 < w.heap.size := fun e he => (h.trees e he).lt
   have Aa : ∀ e ∈ E, e.1 ≠ l.id := fun e he e2 => hne (by rw [← h.ids]; exact List.mem_map.2 ⟨e, he, e2⟩)
   refine ⟨E ++ [(l.id, q)], ?_, ?_, fun e he => ?_, ?_, by simp⟩
   · rw [idsOf_snoc, List.map_append, h.ids]
     unfold idStep
     rw [if_neg hne]
     rfl
   · rw [putL_none _ (fun p hp e => by
       obtain ⟨x, hx, rfl⟩ := List.mem_map.1 hp
       exact Aa x hx e), List.map_append]
     rfl
   · rcases List.mem_append.1 he with he | he
     · exact .inr ⟨he, by have := hlt e he; omega, Aa e he⟩
     · exact .inl (List.mem_singleton.1 he)
   · rw [List.map_append, List.nodup_append]
     refine ⟨h.gs, by simp, fun a ha b hb e => ?_⟩
     obtain ⟨x, hx, rfl⟩ := List.mem_map.1 ha
     rw [List.map_cons, List.map_nil, List.mem_singleton] at hb
     have := hlt x hx
     omega
theorem add_fin (h : CmAt K s0 S w g ls m0 m1 E Z) (hn : ∀ k, w.heap.size ≤ k → S k) (hl : l.ok) (he : addE K s0 ls l = 0) (hb : Below w.heap.size w W) (hq : ((l.id, q) ∈ E ∧ Zt = Z q) ∨ (l.id ∉ idsOf ls ∧ ∀ k, Zt k → w.heap.size ≤ k)) (hzl : ∀ k, Zt k → k < W.heap.size) (hlow : 2 + 1 ≤ q)
   (htr : Tr K s0 (fun k => (Zt k ∨ W.heap.size ≤ k) ∧ k < wt.heap.size) wt q (lowT K s0 (ls ++ [l]) l.id)) (hkt : Kept Zt W wt) (hk5 : Kept (fun k => k = m0 ∨ k = m1 ∨ k = g) wt w5)
   (hob : Has w5 g 101 #[.map (some m0), .map (some m1), .int .u64 ((amS ls + l.am : Nat) : Int)]) (hm0 : MapIs w5 m0 (putL (E.map entP) l.id (.pointer (some ⟨q, 0, none⟩)))) (hm1 : MapIs w5 m1 (putL (ls.map (entL K s0)) (keyK K s0 l) (.agg l.cells.toArray))) :
   Cm K s0 S w5 g (ls ++ [l]) ∧ Kept S w w5 := by
 have hWs := hb.size
 have htS := hkt.size
 have h5S := hk5.size
 have hzt : ∀ k, (Zt k ∨ W.heap.size ≤ k) → S k ∧ k ≠ g ∧ k ≠ m0 ∧ k ≠ m1 := fun k hk => by
   have a1 := h.obj.lt
   have a2 := h.map0.lt
   have a3 := h.map1.lt
   rcases hk with hk | hk
   · rcases hq with ⟨hq, e⟩ | ⟨_, hq⟩
     · rw [e] at hk
       exact (h.zone _ hq k hk).2
     · have := hq k hk
       exact ⟨hn k this, by omega, by omega, by omega⟩
   · exact ⟨hn k (by omega), by omega, by omega, by omega⟩
 have hqa := htr.at
 have hqn : ((l.id, q) ∈ E ∧ Zt = Z q) ∨ (l.id ∉ idsOf ls ∧ w.heap.size ≤ q) := by
   rcases hq with hq | ⟨h1, h2⟩
   · exact .inl hq
   · refine .inr ⟨h1, ?_⟩
     rcases hqa.1 with h3 | h3
     · exact h2 q h3
     · omega
 obtain ⟨E', e1, e2, e3, e4, e5⟩ := ents_more (l := l) h hqn
 have hap : ∀ e ∈ E, e.2 ≠ q → ∀ k, Z e.2 k → ¬ Zt k ∧ ¬ W.heap.size ≤ k := fun e hE hne k hz => by
   have hk := (h.zone e hE k hz).1
   refine ⟨fun hz2 => ?_, by omega⟩
   rcases hq with ⟨hq, e6⟩ | ⟨_, hq⟩
   · rw [e6] at hz2
     exact h.apart e hE _ hq hne k hz hz2
   · have := hq k hz2
     omega
 refine ⟨⟨m0, m1, E', fun p k => if p = q then (Zt k ∨ W.heap.size ≤ k) ∧ k < wt.heap.size else Z p k, ?_, ?_, ?_, e1, fun e hE => ?_, fun e hE k hz => ?_, fun a ha b hb' hne k hz hz2 => ?_, e4, fun e hE => ?_, h.inS, h.ne, h.fine.snoc hl he⟩, ?_⟩
 · rw [amS_app, amS_one]; exact hob
 · rw [← e2]; exact hm0
 · have hnk := (addE_zero he).2.1
   rw [putL_none _ (fun p hp e => hnk (by
     obtain ⟨x, hx, rfl⟩ := List.mem_map.1 hp
     exact List.mem_map.2 ⟨x, hx, e⟩))] at hm1
   rw [List.map_append]
   exact hm1
 · rcases e3 e hE with rfl | ⟨hE, hne, hni⟩
   · have : (fun k => if (l.id, q).2 = q then (Zt k ∨ W.heap.size ≤ k) ∧ k < wt.heap.size else Z (l.id, q).2 k) = fun k => (Zt k ∨ W.heap.size ≤ k) ∧ k < wt.heap.size := by funext k; rw [if_pos rfl]
     rw [this]
     exact htr.kept hk5 (fun k _ hz e => by
       have := hzt k hz.1
       rcases e with e | e | e
       · exact this.2.2.1 e
       · exact this.2.2.2 e
       · exact this.2.1 e)
   · have : (fun k => if e.2 = q then (Zt k ∨ W.heap.size ≤ k) ∧ k < wt.heap.size else Z e.2 k) = Z e.2 := by funext k; rw [if_neg hne]
     rw [this, low_other (fun e6 => hni e6.symm)]
     have t1 := (h.trees e hE).quiet hb
     have t2 := t1.kept hkt (fun k _ hz => (hap e hE hne k hz).1)
     exact t2.kept hk5 (fun k _ hz e6 => by
       have := (h.zone e hE k hz).2.2
       rcases e6 with e6 | e6 | e6
       · exact this.2.1 e6
       · exact this.2.2 e6
       · exact this.1 e6)
 · rcases e3 e hE with rfl | ⟨hE, hne, hni⟩
   · have hz' : (Zt k ∨ W.heap.size ≤ k) ∧ k < wt.heap.size := by simpa using hz
     exact ⟨by omega, hzt k hz'.1⟩
   · have hz' : Z e.2 k := by rw [if_neg hne] at hz; exact hz
     have := h.zone e hE k hz'
     exact ⟨by omega, this.2⟩
 · rcases e3 a ha with rfl | ⟨hA, hna, _⟩
   · rcases e3 b hb' with rfl | ⟨hB, hnb, _⟩
     · exact hne rfl
     · have hz' : (Zt k ∨ W.heap.size ≤ k) ∧ k < wt.heap.size := by simpa using hz
       have hz2' : Z b.2 k := by rw [if_neg hnb] at hz2; exact hz2
       have := hap b hB hnb k hz2'
       rcases hz'.1 with h6 | h6
       · exact this.1 h6
       · exact this.2 h6
   · have hz' : Z a.2 k := by rw [if_neg hna] at hz; exact hz
     rcases e3 b hb' with rfl | ⟨hB, hnb, _⟩
     · have hz2' : (Zt k ∨ W.heap.size ≤ k) ∧ k < wt.heap.size := by simpa using hz2
       have := hap a hA hna k hz'
       rcases hz2'.1 with h6 | h6
       · exact this.1 h6
       · exact this.2 h6
     · have hz2' : Z b.2 k := by rw [if_neg hnb] at hz2; exact hz2
       exact h.apart a hA b hB hne k hz' hz2'
 · rcases e3 e hE with rfl | ⟨hE, hne, hni⟩
   · exact hlow
   · exact h.low e hE
 · have k1 : Kept S w W := Kept.of_below hb
   have k2 : Kept S w wt := k1.step hkt (fun k hz => .inl (hzt k (.inl hz)).1)
   exact k2.step hk5 (fun k e => .inl (by
     rcases e with rfl | rfl | rfl
     · exact h.inS.2.1
     · exact h.inS.2.2
     · exact h.inS.1))
theorem add_put (hs0 : s0.length = 8) (hf : Fine K s0 ls) (hl : l.ok) (he : addE K s0 ls l = 0) {v : World} (htr : Tr K s0 Zt W q (lowT K s0 ls l.id)) (hb : Below W.heap.size W v) (hzl : ∀ k, Zt k → k < W.heap.size) {sv : Value} (hv : Bytes v v.heap.size sv (leafB l)) :
  Calls Tryz.prog 43 #[.pointer (some ⟨q, 0, none⟩), arr (keyK K s0 l), leafV sv l.am] v fun e w' => e = .returned (.int .i64 0) ∧ Tr K s0 (fun k => (Zt k ∨ W.heap.size ≤ k) ∧ k < w'.heap.size) w' q (lowT K s0 (ls ++ [l]) l.id) ∧ Kept Zt W w' := by
 obtain ⟨p1, p2⟩ := put_low hf hl he
 have Aa : (leafB l).length ≤ 1000000 := by
  have : putE (lowT K s0 ls l.id) (lfL K s0 l) = 0 := p1
  unfold putE at this
  split at this
  · cases this
  · split at this
    · cases this
    · next hshort => have h3 : ¬ 65536 < (leafB l).length := hshort; omega
 have t1 : Tr K s0 (fun k => Zt k ∨ W.heap.size ≤ k) v q (lowT K s0 ls l.id) := (htr.quiet hb).zone (fun k _ hz => .inl hz)
 refine (tr_put t1 hs0 (fun k hk => .inr (Nat.le_trans hb.size hk)) (lfL K s0 l) (tagD_hash K s0 hs0 _ _) sv hv hl.am Aa).mono fun e w' ⟨r1, r2, r3⟩ => ?_
 rw [p1] at r1
 rw [p2] at r2
 refine ⟨r1, r2.zone (fun k hk hz => ⟨hz, hk⟩), ?_⟩
 have k1 : Kept Zt W v := Kept.of_below hb
 exact k1.step r3 (fun k hk => hk)
theorem sum_good {w' : World} {e : Ending} (hg : ¬ leafBad l = true) (h : (leafBad l = false ∧ ∃ a c, e = .returned (leafV (.slice a (leafB l).length c) l.am) ∧ Bytes w' w'.heap.size (.slice a (leafB l).length c) (leafB l)) ∨ (leafBad l = true ∧ e = .returned (leafV (.slice none 0 0) 0))) :
   ∃ v, e = .returned (leafV v l.am) ∧ Bytes w' w'.heap.size v (leafB l) := by
 rcases h with ⟨_, a, c, h1, h2⟩ | ⟨h1, _⟩
 · exact ⟨_, h1, h2⟩
 · exact absurd h1 hg
end
/- The walk of tlv's Decode. -/

theorem rd_nz {b : List Nat} {e : Nat} (h : rdB b = .error e) : e ≠ 0 := by
 unfold rdB at h
 split at h
 · cases h; decide
 · split at h
   · cases h
   · split at h
     · cases h; decide
     · split at h
       · cases h; decide
       · cases h
theorem decS_ord {acc : List Rec} {b : List Nat} {p : Nat × Nat} (h : rdB b = .ok p) (ho : 0 < acc.length ∧ p.1 ≤ lastT acc) : decS acc b = .error 22 := by unfold decS; rw [h]; exact if_pos ho
theorem decS_e2 {acc : List Rec} {b : List Nat} {p : Nat × Nat} {e : Nat} (h : rdB b = .ok p) (ho : ¬ (0 < acc.length ∧ p.1 ≤ lastT acc)) (h2 : rdB (b.drop p.2) = .error e) : decS acc b = .error e := by
 unfold decS
 rw [h]
 dsimp only
 rw [if_neg ho, h2]
theorem decS_in {acc : List Rec} {b : List Nat} {p q : Nat × Nat} (h : rdB b = .ok p) (ho : ¬ (0 < acc.length ∧ p.1 ≤ lastT acc)) (h2 : rdB (b.drop p.2) = .ok q) : decS acc b =
  if 65536 < q.1 then .error 3 else if ((b.drop p.2).drop q.2).length < q.1 then .error 20 else if acc.length = 256 then .error 4
   else .ok (acc ++ [⟨p.1, ((b.drop p.2).drop q.2).take q.1⟩], ((b.drop p.2).drop q.2).drop q.1) := by
 conv => lhs; unfold decS
 rw [h]
 dsimp only
 rw [if_neg ho, h2]
theorem rd_le {b : List Nat} (hb : ∀ y ∈ b, y < 256) {x n : Nat} (h : rdB b = .ok (x, n)) : 0 < n ∧ n ≤ b.length ∧ x < 18446744073709551616 := by
 obtain ⟨e1, e2, e3⟩ := sz_rd hb h
 have := (szB_len x).2
 have e4 : b.length = (szB x).length + (b.drop n).length := by conv => lhs; rw [e2, List.length_append]
 omega
theorem lastT_map (ms : List RecM) : lastT (ms.map RecM.r) = (ms[ms.length - 1]?.map (·.t)).getD 0 := by
 unfold lastT
 rw [List.length_map, List.getElem?_map, Option.map_map]
 rfl
structure TdW (w : World) (b0 : List Nat) (f : Nat) (rest : List Nat) (ms : List RecM) (ra : Option Addr) (rc : Nat) (oa : Option Addr) (oc : Nat) (wr : World) : Prop where
 go : tdec b0 = decF f (ms.map RecM.r) rest
 lt : rest.length < f
 src : Bytes w w.heap.size (.slice ra rest.length rc) rest
 own : wr.ownsRow w.heap.size 139 2 (.slice oa ms.length oc) ms.length (ms.flatMap RecM.cells)
 vals : ∀ x ∈ ms, x.t < 18446744073709551616 ∧ wr.ownsRow w.heap.size 5 1 (.slice x.a x.v.length x.c) x.v.length (bcells x.v) ∧ (∀ y ∈ x.v, y < 256) ∧ x.v.length ≤ 65536
 few : ms.length ≤ 256
 bel : Below w.heap.size w wr
theorem bytes_from64 {w : World} {a : Option Addr} {n c k : Nat} {l : List Nat} (h : Bytes w w.heap.size (.slice a n c) l) (hk : k ≤ n) : ∃ a', (∀ v : World, (Instr.slice 48 (.slice a n c) (some (.int .u64 (k : Int))) none none).run Tryz.prog v = .ok (.slice a' (n - k) (c - k)) v) ∧ Bytes w w.heap.size (.slice a' (n - k) (c - k)) (l.drop k) := by
 obtain ⟨a', h1, h2⟩ := bytes_from h hk
 have hu : Tryz.prog.underlying 48 = some (.slice (Tryz.prog.elem 48)) := by kernel_rfl
 obtain ⟨q1, q2, _⟩ := h.openT
 refine ⟨a', fun v => ?_, h2⟩
 rw [← h1 v, run_slice_l v 48 a n c hu .i64 (k : Int) (by omega) (by omega), run_slice_l v 48 a n c hu .u64 (k : Int) (by omega) (by omega)]
theorem vals_kept {w w' : World} {base b2 : Nat} {v : Value} {n m : Nat} {xs cs : List Value} {vo : Value} (h : w.ownsRow base 5 1 v n xs) (ho : w.ownsRow b2 139 2 vo m cs) (hg : w.grownBy w' vo.ownBlock) : w'.ownsRow base 5 1 v n xs :=
 own_kept h (Kept.of_grown hg) (fun k e e2 => own_own_ne h ho (by decide) k e e2.symm)
theorem TdW.step {w wr w1 w2 : World} {b0 : List Nat} {f f' : Nat} {rest rest' : List Nat} {ms : List RecM} {ra ra' : Option Addr} {rc rc' : Nat} {oa oa' xa : Option Addr} {oc oc' xc tv : Nat} {bs : List Nat} (h : TdW w b0 f rest ms ra rc oa oc wr)
   (hx : w1.ownsRow w.heap.size 5 1 (.slice xa bs.length xc) bs.length (bcells bs)) (hg1 : wr.grownBy w1 none) (hbs : ∀ y ∈ bs, y < 256) (hbl : bs.length ≤ 65536) (htv : tv < 18446744073709551616)
   (ho : w2.ownsRow w.heap.size 139 2 (.slice oa' (ms.length + 1) oc') (ms.length + 1) (ms.flatMap RecM.cells ++ RecM.cells ⟨tv, xa, bs, xc⟩)) (C : Obj) (hg2 : (w1.alloc C).grownBy w2 (Value.slice oa ms.length oc).ownBlock)
   (hgo : tdec b0 = decF f' ((ms ++ [(⟨tv, xa, bs, xc⟩ : RecM)]).map RecM.r) rest') (hlt : rest'.length < f') (hfew : ms.length + 1 ≤ 256) (hsrc : Bytes w w.heap.size (.slice ra' rest'.length rc') rest') :
   TdW w b0 f' rest' (ms ++ [(⟨tv, xa, bs, xc⟩ : RecM)]) ra' rc' oa' oc' w2 := by
 have hk1 : Kept (fun k => some k = (none : Option Nat)) wr w1 := Kept.of_grown hg1
 have hb1 : Below w.heap.size w w1 := h.bel.grown hg1 h.bel.size (fun k e => by cases e)
 have Ab : Below w.heap.size w (w1.alloc C) := hb1.alloc (by exact hb1.size) C
 have Aa : (w1.alloc C).ownsRow w.heap.size 139 2 (.slice oa ms.length oc) ms.length (ms.flatMap RecM.cells) := (own_kept h.own hk1 (fun k _ e => by cases e)).alloc C
 refine ⟨hgo, hlt, hsrc, ?_, ?_, by rw [List.length_append]; exact hfew, Ab.grown hg2 (by exact Ab.size) (own_blk Aa)⟩
 · rw [List.flatMap_append, List.length_append]
   simpa using ho
 · intro x hx'
   rcases List.mem_append.1 hx' with h1 | h1
   · obtain ⟨p1, p2, p3, p4⟩ := h.vals x h1
     exact ⟨p1, vals_kept ((own_kept p2 hk1 (fun k _ e => by cases e)).alloc C) Aa hg2, p3, p4⟩
   · rw [List.mem_singleton.1 h1]
     exact ⟨htv, vals_kept (hx.alloc C) Aa hg2, hbs, hbl⟩
def TdP (w : World) (R : Except Nat (List Rec)) (e : Ending) (w' : World) : Prop :=
 match R with
  | .ok rs => ∃ ms a c, e = .returned (.tuple #[.slice a ms.length c, .int .i64 0]) ∧ ms.map RecM.r = rs ∧ RecsAt w' a ms.length ms ∧ (∀ A, a = some A → w.heap.size ≤ A.block) ∧ ms.length ≤ 256 ∧ Below w.heap.size w w'
  | .error x => e = .returned (.tuple #[.slice none 0 0, .int .i64 (x : Int)]) ∧ Below w.heap.size w w'
theorem TdW.done {w wr : World} {b0 : List Nat} {f : Nat} {ms : List RecM} {ra : Option Addr} {rc : Nat} {oa : Option Addr} {oc : Nat} (h : TdW w b0 f [] ms ra rc oa oc wr) : TdP w (tdec b0) (.returned (.tuple #[.slice oa ms.length oc, .int .i64 0])) wr := by
 obtain ⟨f', rfl⟩ : ∃ f', f = f' + 1 := ⟨f - 1, by have := h.lt; omega⟩
 rw [h.go, decF_stop rfl]
 obtain ⟨p1, p2⟩ := own_rows h.own rfl (fun x _ => rfl)
 exact ⟨ms, oa, oc, rfl, rfl, ⟨p1, fun x hx => ⟨(h.vals x hx).1, by have := (h.vals x hx).2.2.2; omega, own_bytes (h.vals x hx).2.1 rfl (h.vals x hx).2.2.1 (Nat.le_refl _)⟩⟩, fun A e => (p2 A e).1, h.few, h.bel⟩
theorem info_rec : (Tryz.prog.info? 139).map (fun i => (i.zero, i.size, i.bytes)) = some (some (.agg (RecM.cells ⟨0, none, [], 0⟩).toArray), 2, 32) := by kernel_rfl
theorem rec_one (r : RecM) : ∀ u ∈ r.cells, u.oneCell' = true := by
 intro u hu
 simp only [RecM.cells, List.mem_cons, List.not_mem_nil, or_false] at hu
 rcases hu with rfl | rfl <;> rfl
theorem rows_rec (w : World) (r : RecM) : RowsAt RecM.cells 2 (w.alloc (.cells r.cells.toArray 139)) (some ⟨w.heap.size, 0, none⟩) 1 [r] :=
 rows_has (xs := [r]) (by simpa using Has.new w 139 r.cells.toArray) (fun x _ => rfl)
set_option maxRecDepth 100000 in
set_option maxHeartbeats 4000000 in
theorem tvDec_is (w : World) (a : Option Addr) (L cv : Nat) (b : List Nat) (hb : Bytes w w.heap.size (.slice a L cv) b) (hL : L ≤ 9223372036854775807) :
  Calls Tryz.prog 67 #[.slice a L cv] w (TdP w (tdec b)) := by
 have hl := hb.openT.1
 have HB := Hh hb
 obtain ⟨ii, hii, By, Bz, -⟩ := info_parts info_rec
 clear hii By Bz
 obtain ⟨T, hT⟩ : ∃ T, T = tdec b := ⟨_, rfl⟩
 rw [← hT]
 have ET := Hh hT
 clear hb hT
 go_enter Tryz.func67, Tryz.ntmps67
 go_wp2_with fail
 go_loopw [0, 4] (fun bv ov wr => ∃ (f : Nat) (rest : List Nat) (ms : List RecM) (ra : Option Addr) (rc : Nat) (oa : Option Addr) (oc : Nat), bv = .slice ra rest.length rc ∧ ov = .slice oa ms.length oc ∧ rest.length ≤ L ∧ TdW w b f rest ms ra rc oa oc wr) (fun bv _ _ => match bv with | .slice _ n _ => n | _ => 0)
 case atStart => exact ⟨b.length + 1, b, [], a, cv, none, 0, by rw [hl], rfl, by rw [hl]; exact Nat.le_refl _, ⟨rfl, Nat.lt_succ_self _, by rw [← hl]; exact HB.o, World.ownsRow_nil _ _ _ _, (fun x hx => by cases hx), Nat.zero_le _, Below.refl _ _⟩⟩
 case round =>
  obtain ⟨f, rest, ms, ra, rc, oa, oc, rfl, rfl, hrl, hw⟩ := hrel
  have HW := Hh hw
  clear hw
  cases rest with
  | nil =>
   go_wp2_with fail
   go_ret2
   rw [ET.o]
   exact HW.o.done
  | cons c0 r0 =>
   obtain ⟨rest, Aj⟩ : ∃ l, l = c0 :: r0 := ⟨_, rfl⟩
   have hne : rest ≠ [] := by rw [Aj]; exact List.cons_ne_nil _ _
   rw [← Aj] at HW hrl ⊢
   have hpos : 0 < rest.length := by rw [Aj]; exact Nat.succ_pos _
   have hpos' : (0 : Int) < (rest.length : Int) := by omega
   have hfp : 0 < f := by have := HW.o.lt; omega
   obtain ⟨f', hf'⟩ : ∃ f', f = f' + 1 := ⟨f - 1, by omega⟩
   have hgo := HW.o.go
   rw [hf'] at hgo
   have Ao := Hh hgo
   have Ap := Hh hne
   obtain ⟨R1, hR1⟩ : ∃ R, R = rdX (rdB rest) := ⟨_, rfl⟩
   have Bv := Hh (read_is wr ra rest.length rc rest (HW.o.src.alive HW.o.bel HW.o.bel.size) (by omega) R1 hR1)
   clear Aj hne hgo hfp
   cases h1 : rdB rest with
   | error e =>
    rw [h1] at hR1
    have e1 : R1 = (0, 0, e) := hR1
    subst e1
    have hnz := rd_nz h1
    have he : ((e : Int) != 0) = true := by rw [bne_iff_ne]; omega
    have HE := Hh (show T = .error e by rw [ET.o, Ao.o]; exact decF_err Ap.o (by unfold decS; rw [h1]))
    clear h1 hR1 hnz
    go_wp2_with fail
    refine Bv.o.mono ?_
    rintro _ w2 ⟨rfl, rfl⟩
    go_wp2_with fail
    go_ret2
    rw [HE.o]
    exact ⟨rfl, HW.o.bel⟩
   | ok p =>
    obtain ⟨tv, nv⟩ := p
    rw [h1] at hR1
    have e1 : R1 = (tv, nv, 0) := hR1
    subst e1
    have Bw : Hid (Calls Tryz.prog 96 #[.slice ra rest.length rc] wr fun e w' => e = .returned (.tuple #[.int .u64 (tv : Int), .int .i64 (nv : Int), .int .i64 0]) ∧ w' = wr) := Bv
    obtain ⟨hn0, hnl, Bq⟩ := rd_le HW.o.src.openT.2.2.1 h1
    have H1 := Hh h1
    have Bm := Hh Bq
    obtain ⟨a1, B1, A2⟩ := bytes_from HW.o.src hnl
    obtain ⟨L1, hL1⟩ : ∃ z, z = rest.length - nv := ⟨_, rfl⟩
    obtain ⟨cc1, Bn⟩ : ∃ z, z = rc - nv := ⟨_, rfl⟩
    rw [← hL1, ← Bn] at B1 A2
    have Br := Hh (show L1 < rest.length by omega)
    have Ak := Hh A2
    obtain ⟨R2, hR2⟩ : ∃ R, R = rdX (rdB (rest.drop nv)) := ⟨_, rfl⟩
    have An := Hh (read_is wr a1 L1 cc1 (rest.drop nv) (A2.alive HW.o.bel HW.o.bel.size) (by omega) R2 hR2)
    obtain ⟨tl, htl⟩ : ∃ z, z = lastT (ms.map RecM.r) := ⟨_, rfl⟩
    have Az := lastT_map ms
    rw [← htl] at Az
    obtain ⟨ml, hml⟩ : ∃ z, z = ms.length := ⟨_, rfl⟩
    have Bx := HW.o.few
    have Ai := Hh HW.o.own
    rw [← hml] at Bx Az Ai ⊢
    have A0 := Hh hml
    have Bo : (ms.map RecM.r).length = ml := by rw [List.length_map, ← hml]
    have Am := Hh Bo
    clear h1 hR1 hn0 Bq A2 hL1 Bn Bo hml Bv
    go_wp2_with fail
    refine Bw.out.mono ?_
    rintro _ w2 ⟨rfl, hw2⟩
    replace hw2 := hw2.symm
    subst hw2
    by_cases hm0 : 0 < ml
    · have hm0' : (0 : Int) < (ml : Int) := by omega
      obtain ⟨x, hx⟩ : ∃ x, ms[ml - 1]? = some x := ⟨_, List.getElem?_eq_getElem (by rw [← A0.o]; omega)⟩
      have e3 : tl = x.t := by rw [Az, hx]; rfl
      obtain ⟨ob, oo, hoa, _, Bp⟩ := (own_rows HW.o.own rfl (fun x _ => rfl)).1.at_ (by rw [← A0.o]; exact hm0)
      have hcl : wr.cell? ⟨ob, oo + (ml - 1) * 2, none⟩ = some (.int .u64 (tl : Int)) := by
        rw [e3]
        exact Bp (ml - 1) x hx 0 _ rfl
      have hix : ∀ v, (Instr.indexAt 136 (.slice (some ⟨ob, oo, none⟩) ml oc) (.int .i64 ((ml : Int) - 1))).run Tryz.prog v = .ok (.pointer (some ⟨ob, oo + (ml - 1) * 2, none⟩)) v := fun v => by
        rw [show ((ml : Int) - 1) = ((ml - 1 : Nat) : Int) by omega]
        exact at_rec ob oo ml oc (ml - 1) (by omega) v
      subst hoa
      obtain ⟨op, hop⟩ : ∃ z, z = oo + (ml - 1) * 2 := ⟨_, rfl⟩
      rw [← hop] at hcl hix
      obtain ⟨oa, hoa⟩ : ∃ z, z = (some (⟨ob, oo, none⟩ : Addr)) := ⟨_, rfl⟩
      rw [← hoa] at hix HW Ai ⊢
      clear hop hx e3 Bp Az hoa
      by_cases hle : tv ≤ tl
      · have hle' : (tv : Int) ≤ (tl : Int) := by omega
        have HE := Hh (show T = .error 22 by rw [ET.o, Ao.o]; exact decF_err Ap.o (decS_ord H1.o ⟨by rw [Am.o]; exact hm0, by rw [← htl]; exact hle⟩))
        clear htl hle
        go_wp2_with fail
        go_ret2
        rw [HE.o]
        exact ⟨rfl, HW.o.bel⟩
      · have hle' : ¬ (tv : Int) ≤ (tl : Int) := by omega
        have Bg := Hh (show ¬ (0 < (ms.map RecM.r).length ∧ tv ≤ lastT (ms.map RecM.r)) from fun h => hle (by rw [htl]; exact h.2))
        clear htl hle
        go_wp2_with fail
        clear hcl hix
        cases h2 : rdB (rest.drop nv) with
        | error e =>
          rw [h2] at hR2
          have e2 : R2 = (0, 0, e) := hR2
          subst e2
          have hnz := rd_nz h2
          have he : ((e : Int) != 0) = true := by rw [bne_iff_ne]; omega
          have HE := Hh (show T = .error e by rw [ET.o, Ao.o]; exact decF_err Ap.o (decS_e2 H1.o Bg.o h2))
          clear h2 hR2 hnz
          refine An.o.mono ?_
          rintro _ w2 ⟨rfl, hw2⟩
          replace hw2 := hw2.symm
          subst hw2
          go_wp2_with fail
          go_ret2
          rw [HE.o]
          exact ⟨rfl, HW.o.bel⟩
        | ok q =>
          obtain ⟨sv, mv⟩ := q
          rw [h2] at hR2
          have e2 : R2 = (sv, mv, 0) := hR2
          subst e2
          have Af : Hid (Calls Tryz.prog 96 #[.slice a1 L1 cc1] wr fun e w' => e = .returned (.tuple #[.int .u64 (sv : Int), .int .i64 (mv : Int), .int .i64 0]) ∧ w' = wr) := An
          obtain ⟨hq0, hql, B0⟩ := rd_le Ak.o.openT.2.2.1 h2
          have hmL : mv ≤ L1 := by rw [Ak.o.openT.1]; exact hql
          obtain ⟨a2, Bc, Aa⟩ := bytes_from Ak.o hmL
          obtain ⟨L2, hL2⟩ : ∃ z, z = L1 - mv := ⟨_, rfl⟩
          obtain ⟨cc2, Av⟩ : ∃ z, z = cc1 - mv := ⟨_, rfl⟩
          rw [← hL2, ← Av] at Bc Aa
          obtain ⟨r2, hr2⟩ : ∃ z, z = (rest.drop nv).drop mv := ⟨_, rfl⟩
          rw [← hr2] at Aa
          have Al := Hh (decS_in H1.o Bg.o h2)
          dsimp only at Al
          rw [← hr2] at Al
          have hl2 : L2 = r2.length := Aa.openT.1
          have hL2b : L2 ≤ 9223372036854775807 := by have := Br.o; omega
          have A9 := Hh (show L2 < rest.length by have := Br.o; omega)
          have Ar := Hh Aa
          have hwu : IntKind.u64.wrap (L2 : Int) = (L2 : Int) := by rw [IntKind.wrap_u64]; omega
          have A8 := Hh hl2
          clear h2 hR2 hql hmL Aa hL2 Av hr2 hl2 hq0 An
          by_cases c1 : 65536 < sv
          · have c1' : (65536 : Int) < (sv : Int) := by omega
            have HE := Hh (show T = .error 3 by rw [ET.o, Ao.o]; exact decF_err Ap.o (by rw [Al.o, if_pos c1]))
            clear c1
            refine Af.out.mono ?_
            rintro _ w2 ⟨rfl, hw2⟩
            replace hw2 := hw2.symm
            subst hw2
            go_wp2_with fail
            go_ret2
            rw [HE.o]
            exact ⟨rfl, HW.o.bel⟩
          have c1' : ¬ (65536 : Int) < (sv : Int) := by omega
          by_cases c2 : L2 < sv
          · have c2' : (L2 : Int) < (sv : Int) := by omega
            have HE := Hh (show T = .error 20 by rw [ET.o, Ao.o]; exact decF_err Ap.o (by rw [Al.o, if_neg c1, if_pos (by rw [← A8.o]; exact c2)]))
            clear c1 c2
            refine Af.out.mono ?_
            rintro _ w2 ⟨rfl, hw2⟩
            replace hw2 := hw2.symm
            subst hw2
            go_wp2_with fail
            go_ret2
            rw [HE.o]
            exact ⟨rfl, HW.o.bel⟩
          have c2' : ¬ (L2 : Int) < (sv : Int) := by omega
          by_cases c3 : ml = 256
          · have c3' : ((ml : Int) == 256) = true := by rw [beq_iff_eq]; omega
            have HE := Hh (show T = .error 4 by rw [ET.o, Ao.o]; exact decF_err Ap.o (by rw [Al.o, if_neg c1, if_neg (by rw [← A8.o]; exact c2), if_pos (by rw [Am.o]; exact c3)]))
            clear c1 c2 c3
            refine Af.out.mono ?_
            rintro _ w2 ⟨rfl, hw2⟩
            replace hw2 := hw2.symm
            subst hw2
            go_wp2_with fail
            go_ret2
            rw [HE.o]
            exact ⟨rfl, HW.o.bel⟩
          have c3' : ((ml : Int) == 256) = false := by rw [beq_eq_false_iff_ne]; omega
          have Ay : sv ≤ L2 := by omega
          obtain ⟨a3, B2, Ab⟩ := bytes_upto Ar.o Ay
          obtain ⟨a4, Bd, Ac⟩ := bytes_from64 Ar.o Ay
          obtain ⟨bs, hbs⟩ : ∃ z, z = r2.take sv := ⟨_, rfl⟩
          obtain ⟨r3, hr3⟩ : ∃ z, z = r2.drop sv := ⟨_, rfl⟩
          have Au := Hh (show decS (ms.map RecM.r) rest = .ok (ms.map RecM.r ++ [⟨tv, bs⟩], r3) by rw [Al.o, if_neg c1, if_neg (by rw [← A8.o]; exact c2), if_neg (by rw [Am.o]; exact c3), hbs, hr3])
          rw [← hbs] at Ab
          rw [← hr3] at Ac
          have hlb : bs.length = sv := Ab.openT.1.symm
          have B3 := Hh hlb
          have A4 := Hh Ab.openT.2.2.1
          have A5 := Hh (Ab.alive HW.o.bel HW.o.bel.size)
          obtain ⟨L4, hL4⟩ : ∃ z, z = L2 - sv := ⟨_, rfl⟩
          obtain ⟨cc4, Aw⟩ : ∃ z, z = cc2 - sv := ⟨_, rfl⟩
          rw [← hL4, ← Aw] at Bd Ac
          have hl4 : L4 = r3.length := Ac.openT.1
          have A6 := Hh Ac
          have A1 := Hh hl4
          have Ah := Hh (show L4 < rest.length by have := A9.o; omega)
          have Ba := Hh (show 0 + bs.length ≤ 100000000 by omega)
          have As := Hh (show ml + 1 ≤ 256 by omega)
          have Bt := Hh (show ml + 1 ≤ maxLen by unfold maxLen; omega)
          have A7 := Hh (show (ml + 1) * 32 ≤ 140737488355328 by omega)
          have Aq := Hh (show bs.length ≤ 65536 by omega)
          clear Ab Ac hbs hr3 hlb hL4 Aw hl4 c1 c2 c3
          refine Af.out.mono ?_
          rintro _ w2 ⟨rfl, hw2⟩
          replace hw2 := hw2.symm
          subst hw2
          go_upto_region 19 with (fail)
          have A3 := Hh HW.o.bel.size
          go_wp2_with (first
            | (at_builtin; refine wpList_append_bytes rfl _ _ rfl w.heap.size _ 0 [] rfl (World.ownsRow_nil _ _ _ _) _ _ bs rfl A5.o Ba.o A3.o ?_; intro xa xc w5 Ae Ad; rw [Nat.zero_add] at Ae ⊢; (have Bh := Hh Ae); (have Be := Hh Ad); (have Bi := Hh (show ∀ C, (w5.alloc C).ownsRow w.heap.size 139 2 (.slice oa ml oc) ml (ms.flatMap RecM.cells) from fun C => (own_kept Ai.o (Kept.of_grown Ad) (fun k _ e => by cases e)).alloc C)); (have Bl := Hh (show ∀ C, w.heap.size ≤ (w5.alloc C).heap.size from fun C => ((HW.o.bel.grown Ad A3.o (fun k e => by cases e)).alloc (HW.o.bel.grown Ad A3.o (fun k e => by cases e)).size C).size)); (have Bk := Hh (rows_rec w5 ⟨tv, xa, bs, xc⟩)); clear Ae Ad)
            | (at_builtin; refine wpList_append_rows (cl := RecM.cells) rfl _ _ 136 rfl w.heap.size 139 _ 32 Tryz.underlying136 info_rec rfl (by decide) _ ml (ms.flatMap RecM.cells) rfl (Bi.o _) _ 1 1 [⟨tv, xa, bs, xc⟩] rfl Bk.o (fun x _ => rec_one x) Bt.o A7.o (Bl.o _) ?_; intro oa7 oc7 w7 Ag Ax; (have Bj := Hh Ag); (have Bf := Hh Ax); clear Ag Ax))
          have Bb := Hh (show TdW w b f' r3 (ms ++ [(⟨tv, xa, bs, xc⟩ : RecM)]) a4 cc4 oa7 oc7 w7 from by
            refine HW.o.step Bh.o Be.o A4.o Aq.o Bm.o (by rw [← A0.o]; simpa using Bj.o) _ (by rw [← A0.o]; exact Bf.o) ?_ ?_ (by rw [← A0.o]; exact As.o) (by rw [← A1.o]; exact A6.o)
            · rw [Ao.o, decF_step Ap.o Au.o]
              simp [RecM.r]
            · have h1 := HW.o.lt
              have h2 := Ah.o
              have h3 := A1.o
              omega)
          have Bs := Hh (show r3.length ≤ L by have h2 := Ah.o; have h3 := A1.o; omega)
          have Bu := Hh (show ml + 1 = (ms ++ [(⟨tv, xa, bs, xc⟩ : RecM)]).length by rw [List.length_append, ← A0.o]; rfl)
          clear Bh Be Bi Bj Bf Bl Bk
          go_wp2_with fail
          go_roundw
          case rel => exact ⟨f', r3, ms ++ [(⟨tv, xa, bs, xc⟩ : RecM)], a4, cc4, oa7, oc7, by rw [← A1.o], by rw [← Bu.o], Bs.o, Bb.o⟩
          case measure => have := Ah.o; simpa using this
    · have hm0' : ¬ (0 : Int) < (ml : Int) := by omega
      have Bg := Hh (show ¬ (0 < (ms.map RecM.r).length ∧ tv ≤ lastT (ms.map RecM.r)) from fun h => hm0 (by rw [← Am.o]; exact h.1))
      clear htl Az
      go_wp2_with fail
      cases h2 : rdB (rest.drop nv) with
      | error e =>
        rw [h2] at hR2
        have e2 : R2 = (0, 0, e) := hR2
        subst e2
        have hnz := rd_nz h2
        have he : ((e : Int) != 0) = true := by rw [bne_iff_ne]; omega
        have HE := Hh (show T = .error e by rw [ET.o, Ao.o]; exact decF_err Ap.o (decS_e2 H1.o Bg.o h2))
        clear h2 hR2 hnz
        refine An.o.mono ?_
        rintro _ w2 ⟨rfl, hw2⟩
        replace hw2 := hw2.symm
        subst hw2
        go_wp2_with fail
        go_ret2
        rw [HE.o]
        exact ⟨rfl, HW.o.bel⟩
      | ok q =>
        obtain ⟨sv, mv⟩ := q
        rw [h2] at hR2
        have e2 : R2 = (sv, mv, 0) := hR2
        subst e2
        have Af : Hid (Calls Tryz.prog 96 #[.slice a1 L1 cc1] wr fun e w' => e = .returned (.tuple #[.int .u64 (sv : Int), .int .i64 (mv : Int), .int .i64 0]) ∧ w' = wr) := An
        obtain ⟨hq0, hql, B0⟩ := rd_le Ak.o.openT.2.2.1 h2
        have hmL : mv ≤ L1 := by rw [Ak.o.openT.1]; exact hql
        obtain ⟨a2, Bc, Aa⟩ := bytes_from Ak.o hmL
        obtain ⟨L2, hL2⟩ : ∃ z, z = L1 - mv := ⟨_, rfl⟩
        obtain ⟨cc2, Av⟩ : ∃ z, z = cc1 - mv := ⟨_, rfl⟩
        rw [← hL2, ← Av] at Bc Aa
        obtain ⟨r2, hr2⟩ : ∃ z, z = (rest.drop nv).drop mv := ⟨_, rfl⟩
        rw [← hr2] at Aa
        have Al := Hh (decS_in H1.o Bg.o h2)
        dsimp only at Al
        rw [← hr2] at Al
        have hl2 : L2 = r2.length := Aa.openT.1
        have hL2b : L2 ≤ 9223372036854775807 := by have := Br.o; omega
        have A9 := Hh (show L2 < rest.length by have := Br.o; omega)
        have Ar := Hh Aa
        have hwu : IntKind.u64.wrap (L2 : Int) = (L2 : Int) := by rw [IntKind.wrap_u64]; omega
        have A8 := Hh hl2
        clear h2 hR2 hql hmL Aa hL2 Av hr2 hl2 hq0 An
        by_cases c1 : 65536 < sv
        · have c1' : (65536 : Int) < (sv : Int) := by omega
          have HE := Hh (show T = .error 3 by rw [ET.o, Ao.o]; exact decF_err Ap.o (by rw [Al.o, if_pos c1]))
          clear c1
          refine Af.out.mono ?_
          rintro _ w2 ⟨rfl, hw2⟩
          replace hw2 := hw2.symm
          subst hw2
          go_wp2_with fail
          go_ret2
          rw [HE.o]
          exact ⟨rfl, HW.o.bel⟩
        have c1' : ¬ (65536 : Int) < (sv : Int) := by omega
        by_cases c2 : L2 < sv
        · have c2' : (L2 : Int) < (sv : Int) := by omega
          have HE := Hh (show T = .error 20 by rw [ET.o, Ao.o]; exact decF_err Ap.o (by rw [Al.o, if_neg c1, if_pos (by rw [← A8.o]; exact c2)]))
          clear c1 c2
          refine Af.out.mono ?_
          rintro _ w2 ⟨rfl, hw2⟩
          replace hw2 := hw2.symm
          subst hw2
          go_wp2_with fail
          go_ret2
          rw [HE.o]
          exact ⟨rfl, HW.o.bel⟩
        have c2' : ¬ (L2 : Int) < (sv : Int) := by omega
        by_cases c3 : ml = 256
        · have c3' : ((ml : Int) == 256) = true := by rw [beq_iff_eq]; omega
          have HE := Hh (show T = .error 4 by rw [ET.o, Ao.o]; exact decF_err Ap.o (by rw [Al.o, if_neg c1, if_neg (by rw [← A8.o]; exact c2), if_pos (by rw [Am.o]; exact c3)]))
          clear c1 c2 c3
          refine Af.out.mono ?_
          rintro _ w2 ⟨rfl, hw2⟩
          replace hw2 := hw2.symm
          subst hw2
          go_wp2_with fail
          go_ret2
          rw [HE.o]
          exact ⟨rfl, HW.o.bel⟩
        have c3' : ((ml : Int) == 256) = false := by rw [beq_eq_false_iff_ne]; omega
        have Ay : sv ≤ L2 := by omega
        obtain ⟨a3, B2, Ab⟩ := bytes_upto Ar.o Ay
        obtain ⟨a4, Bd, Ac⟩ := bytes_from64 Ar.o Ay
        obtain ⟨bs, hbs⟩ : ∃ z, z = r2.take sv := ⟨_, rfl⟩
        obtain ⟨r3, hr3⟩ : ∃ z, z = r2.drop sv := ⟨_, rfl⟩
        have Au := Hh (show decS (ms.map RecM.r) rest = .ok (ms.map RecM.r ++ [⟨tv, bs⟩], r3) by rw [Al.o, if_neg c1, if_neg (by rw [← A8.o]; exact c2), if_neg (by rw [Am.o]; exact c3), hbs, hr3])
        rw [← hbs] at Ab
        rw [← hr3] at Ac
        have hlb : bs.length = sv := Ab.openT.1.symm
        have B3 := Hh hlb
        have A4 := Hh Ab.openT.2.2.1
        have A5 := Hh (Ab.alive HW.o.bel HW.o.bel.size)
        obtain ⟨L4, hL4⟩ : ∃ z, z = L2 - sv := ⟨_, rfl⟩
        obtain ⟨cc4, Aw⟩ : ∃ z, z = cc2 - sv := ⟨_, rfl⟩
        rw [← hL4, ← Aw] at Bd Ac
        have hl4 : L4 = r3.length := Ac.openT.1
        have A6 := Hh Ac
        have A1 := Hh hl4
        have Ah := Hh (show L4 < rest.length by have := A9.o; omega)
        have Ba := Hh (show 0 + bs.length ≤ 100000000 by omega)
        have As := Hh (show ml + 1 ≤ 256 by omega)
        have Bt := Hh (show ml + 1 ≤ maxLen by unfold maxLen; omega)
        have A7 := Hh (show (ml + 1) * 32 ≤ 140737488355328 by omega)
        have Aq := Hh (show bs.length ≤ 65536 by omega)
        clear Ab Ac hbs hr3 hlb hL4 Aw hl4 c1 c2 c3
        refine Af.out.mono ?_
        rintro _ w2 ⟨rfl, hw2⟩
        replace hw2 := hw2.symm
        subst hw2
        go_upto_region 19 with (fail)
        have A3 := Hh HW.o.bel.size
        go_wp2_with (first
          | (at_builtin; refine wpList_append_bytes rfl _ _ rfl w.heap.size _ 0 [] rfl (World.ownsRow_nil _ _ _ _) _ _ bs rfl A5.o Ba.o A3.o ?_; intro xa xc w5 Ae Ad; rw [Nat.zero_add] at Ae ⊢; (have Bh := Hh Ae); (have Be := Hh Ad); (have Bi := Hh (show ∀ C, (w5.alloc C).ownsRow w.heap.size 139 2 (.slice oa ml oc) ml (ms.flatMap RecM.cells) from fun C => (own_kept Ai.o (Kept.of_grown Ad) (fun k _ e => by cases e)).alloc C)); (have Bl := Hh (show ∀ C, w.heap.size ≤ (w5.alloc C).heap.size from fun C => ((HW.o.bel.grown Ad A3.o (fun k e => by cases e)).alloc (HW.o.bel.grown Ad A3.o (fun k e => by cases e)).size C).size)); (have Bk := Hh (rows_rec w5 ⟨tv, xa, bs, xc⟩)); clear Ae Ad)
          | (at_builtin; refine wpList_append_rows (cl := RecM.cells) rfl _ _ 136 rfl w.heap.size 139 _ 32 Tryz.underlying136 info_rec rfl (by decide) _ ml (ms.flatMap RecM.cells) rfl (Bi.o _) _ 1 1 [⟨tv, xa, bs, xc⟩] rfl Bk.o (fun x _ => rec_one x) Bt.o A7.o (Bl.o _) ?_; intro oa7 oc7 w7 Ag Ax; (have Bj := Hh Ag); (have Bf := Hh Ax); clear Ag Ax))
        have Bb := Hh (show TdW w b f' r3 (ms ++ [(⟨tv, xa, bs, xc⟩ : RecM)]) a4 cc4 oa7 oc7 w7 from by
          refine HW.o.step Bh.o Be.o A4.o Aq.o Bm.o (by rw [← A0.o]; simpa using Bj.o) _ (by rw [← A0.o]; exact Bf.o) ?_ ?_ (by rw [← A0.o]; exact As.o) (by rw [← A1.o]; exact A6.o)
          · rw [Ao.o, decF_step Ap.o Au.o]
            simp [RecM.r]
          · have h1 := HW.o.lt
            have h2 := Ah.o
            have h3 := A1.o
            omega)
        have Bs := Hh (show r3.length ≤ L by have h2 := Ah.o; have h3 := A1.o; omega)
        have Bu := Hh (show ml + 1 = (ms ++ [(⟨tv, xa, bs, xc⟩ : RecM)]).length by rw [List.length_append, ← A0.o]; rfl)
        clear Bh Be Bi Bj Bf Bl Bk
        go_wp2_with fail
        go_roundw
        case rel => exact ⟨f', r3, ms ++ [(⟨tv, xa, bs, xc⟩ : RecM)], a4, cc4, oa7, oc7, by rw [← A1.o], by rw [← Bu.o], Bs.o, Bb.o⟩
        case measure => have := Ah.o; simpa using this
end Go.Proofs.YtknfbccbdiidjaaGreatDoor
