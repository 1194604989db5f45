/- A leaf more in a commit: what its blocks are then. -/
import Derived.Test.YtknfbccbdiidjaaGreatDoorWs
import Derived.Test.YtknfbccbdiidjaaGreatDoorRCo2
namespace Go.Proofs.YtknfbccbdiidjaaGreatDoor
set_option linter.unusedVariables false
set_option linter.unusedSimpArgs false
open Go.ChangeShapes Go.WideShapes Go.ChangeAt Go.RowKit Go.Maps

variable {K s0 : List Wd} {S : Nat → Prop} {w W wt w5 : World} {g m0 m1 q : Nat} {ls : List LeafT} {l : LeafT} {E : List (List Nat × Nat)} {Z : Nat → Nat → Prop} {Zt : Nat → Prop}
theorem ent_eq {E : List (List Nat × Nat)} (h : (E.map (·.2)).Nodup) {a b : List Nat × Nat} (ha : a ∈ E) (hb : b ∈ E) (e : a.2 = b.2) : a = b := by
 induction E with
 | nil => cases ha
 | cons x E ih =>
  rw [List.map_cons, List.nodup_cons] at h
  rcases List.mem_cons.1 ha with ha | ha
  · rcases List.mem_cons.1 hb with hb | hb
    · rw [ha, hb]
    · exact absurd (List.mem_map.2 ⟨b, hb, by rw [← e, ha]⟩) h.1
  · rcases List.mem_cons.1 hb with hb | hb
    · exact absurd (List.mem_map.2 ⟨a, ha, by rw [e, hb]⟩) h.1
    · exact ih h.2 ha hb
theorem ent_eq1 {E : List (List Nat × Nat)} (h : (E.map (·.1)).Nodup) {a b : List Nat × Nat} (ha : a ∈ E) (hb : b ∈ E) (e : a.1 = b.1) : a = b := by
 induction E with
 | nil => cases ha
 | cons x E ih =>
  rw [List.map_cons, List.nodup_cons] at h
  rcases List.mem_cons.1 ha with ha | ha
  · rcases List.mem_cons.1 hb with hb | hb
    · rw [ha, hb]
    · exact absurd (List.mem_map.2 ⟨b, hb, by rw [← e, ha]⟩) h.1
  · rcases List.mem_cons.1 hb with hb | hb
    · exact absurd (List.mem_map.2 ⟨a, ha, by rw [e, hb]⟩) h.1
    · exact ih h.2 ha hb
theorem put_same {l : List Ent} (hd : (l.map (·.1)).Nodup) {k : List Nat} {v : Value} (h : (k, v) ∈ l) : putL l k v = l := by
 obtain ⟨j, hj⟩ := List.getElem?_of_mem h
 rw [putL_at v hj hd]
 obtain ⟨hlt, e⟩ := List.getElem?_eq_some_iff.1 hj
 rw [← e]
 exact List.set_getElem_self hlt
theorem ids_ents (E : List (List Nat × Nat)) : (E.map entP).map (·.1) = E.map (·.1) := by rw [List.map_map]; rfl
theorem ents_more (h : CmAt K s0 S w g ls m0 m1 E Z) (hq : ((l.id, q) ∈ E ∧ Zt = Z q) ∨ (l.id ∉ idsOf ls ∧ w.heap.size ≤ q)) :
   ∃ E' : List (List Nat × Nat), E'.map (·.1) = idsOf (ls ++ [l]) ∧ putL (E.map entP) l.id (.pointer (some ⟨q, 0, none⟩)) = E'.map entP ∧ (∀ e ∈ E', e = (l.id, q) ∨ (e ∈ E ∧ e.2 ≠ q ∧ e.1 ≠ l.id)) ∧ (E'.map (·.2)).Nodup ∧ (l.id, q) ∈ E' := by
 have hid : (E.map (·.1)).Nodup := by rw [h.ids]; exact ids_nodup ls
 rcases hq with ⟨hq, -⟩ | ⟨hne, hq⟩
 · refine ⟨E, ?_, put_same (by rw [ids_ents]; exact hid) (List.mem_map.2 ⟨_, hq, rfl⟩), fun e he => ?_, h.gs, hq⟩
   · rw [idsOf_snoc, h.ids]
     unfold idStep
     rw [if_pos (by rw [← h.ids]; exact List.mem_map.2 ⟨_, hq, rfl⟩)]
   · by_cases e1 : e = (l.id, q)
     · exact .inl e1
     · exact .inr ⟨he, fun e2 => e1 (ent_eq h.gs he hq e2), fun e2 => e1 (ent_eq1 hid he hq e2)⟩
 · have hlt : ∀ e ∈ E, e.2 < w.heap.size := fun e he => (h.trees e he).lt
   have hnid : ∀ e ∈ E, e.1 ≠ l.id := fun e he e2 => hne (by rw [← h.ids]; exact List.mem_map.2 ⟨e, he, e2⟩)
   refine ⟨E ++ [(l.id, q)], ?_, ?_, fun e he => ?_, ?_, by simp⟩
   · rw [idsOf_snoc, List.map_append, h.ids]
     unfold idStep
     rw [if_neg hne]
     rfl
   · rw [putL_none _ (fun p hp e => by
       obtain ⟨x, hx, rfl⟩ := List.mem_map.1 hp
       exact hnid x hx e), List.map_append]
     rfl
   · rcases List.mem_append.1 he with he | he
     · exact .inr ⟨he, by have := hlt e he; omega, hnid e he⟩
     · exact .inl (List.mem_singleton.1 he)
   · rw [List.map_append, List.nodup_append]
     refine ⟨h.gs, by simp, fun a ha b hb e => ?_⟩
     obtain ⟨x, hx, rfl⟩ := List.mem_map.1 ha
     rw [List.map_cons, List.map_nil, List.mem_singleton] at hb
     have := hlt x hx
     omega
theorem add_fin (h : CmAt K s0 S w g ls m0 m1 E Z) (hn : ∀ k, w.heap.size ≤ k → S k) (hl : l.ok) (he : addE K s0 ls l = 0) (hb : Below w.heap.size w W) (hq : ((l.id, q) ∈ E ∧ Zt = Z q) ∨ (l.id ∉ idsOf ls ∧ ∀ k, Zt k → w.heap.size ≤ k)) (hzl : ∀ k, Zt k → k < W.heap.size) (hlow : 2 + 1 ≤ q)
   (htr : Tr K s0 (fun k => (Zt k ∨ W.heap.size ≤ k) ∧ k < wt.heap.size) wt q (lowT K s0 (ls ++ [l]) l.id)) (hkt : Kept Zt W wt) (hk5 : Kept (fun k => k = m0 ∨ k = m1 ∨ k = g) wt w5)
   (hob : Has w5 g 101 #[.map (some m0), .map (some m1), .int .u64 ((amS ls + l.am : Nat) : Int)]) (hm0 : MapIs w5 m0 (putL (E.map entP) l.id (.pointer (some ⟨q, 0, none⟩)))) (hm1 : MapIs w5 m1 (putL (ls.map (entL K s0)) (keyK K s0 l) (.agg l.cells.toArray))) :
   Cm K s0 S w5 g (ls ++ [l]) ∧ Kept S w w5 := by
 have hWs := hb.size
 have htS := hkt.size
 have h5S := hk5.size
 have hzt : ∀ k, (Zt k ∨ W.heap.size ≤ k) → S k ∧ k ≠ g ∧ k ≠ m0 ∧ k ≠ m1 := fun k hk => by
   have a1 := h.obj.lt
   have a2 := h.map0.lt
   have a3 := h.map1.lt
   rcases hk with hk | hk
   · rcases hq with ⟨hq, e⟩ | ⟨_, hq⟩
     · rw [e] at hk
       exact (h.zone _ hq k hk).2
     · have := hq k hk
       exact ⟨hn k this, by omega, by omega, by omega⟩
   · exact ⟨hn k (by omega), by omega, by omega, by omega⟩
 have hqa := htr.at
 have hqn : ((l.id, q) ∈ E ∧ Zt = Z q) ∨ (l.id ∉ idsOf ls ∧ w.heap.size ≤ q) := by
   rcases hq with hq | ⟨h1, h2⟩
   · exact .inl hq
   · refine .inr ⟨h1, ?_⟩
     rcases hqa.1 with h3 | h3
     · exact h2 q h3
     · omega
 obtain ⟨E', e1, e2, e3, e4, e5⟩ := ents_more (l := l) h hqn
 have hap : ∀ e ∈ E, e.2 ≠ q → ∀ k, Z e.2 k → ¬ Zt k ∧ ¬ W.heap.size ≤ k := fun e hE hne k hz => by
   have hk := (h.zone e hE k hz).1
   refine ⟨fun hz2 => ?_, by omega⟩
   rcases hq with ⟨hq, e6⟩ | ⟨_, hq⟩
   · rw [e6] at hz2
     exact h.apart e hE _ hq hne k hz hz2
   · have := hq k hz2
     omega
 refine ⟨⟨m0, m1, E', fun p k => if p = q then (Zt k ∨ W.heap.size ≤ k) ∧ k < wt.heap.size else Z p k, ?_, ?_, ?_, e1, fun e hE => ?_, fun e hE k hz => ?_, fun a ha b hb' hne k hz hz2 => ?_, e4, fun e hE => ?_, h.inS, h.ne, h.fine.snoc hl he⟩, ?_⟩
 · rw [amS_app, amS_one]; exact hob
 · rw [← e2]; exact hm0
 · have hnk := (addE_zero he).2.1
   rw [putL_none _ (fun p hp e => hnk (by
     obtain ⟨x, hx, rfl⟩ := List.mem_map.1 hp
     exact List.mem_map.2 ⟨x, hx, e⟩))] at hm1
   rw [List.map_append]
   exact hm1
 · rcases e3 e hE with rfl | ⟨hE, hne, hni⟩
   · have : (fun k => if (l.id, q).2 = q then (Zt k ∨ W.heap.size ≤ k) ∧ k < wt.heap.size else Z (l.id, q).2 k) = fun k => (Zt k ∨ W.heap.size ≤ k) ∧ k < wt.heap.size := by funext k; rw [if_pos rfl]
     rw [this]
     exact htr.kept hk5 (fun k _ hz e => by
       have := hzt k hz.1
       rcases e with e | e | e
       · exact this.2.2.1 e
       · exact this.2.2.2 e
       · exact this.2.1 e)
   · have : (fun k => if e.2 = q then (Zt k ∨ W.heap.size ≤ k) ∧ k < wt.heap.size else Z e.2 k) = Z e.2 := by funext k; rw [if_neg hne]
     rw [this, low_other (fun e6 => hni e6.symm)]
     have t1 := (h.trees e hE).quiet hb
     have t2 := t1.kept hkt (fun k _ hz => (hap e hE hne k hz).1)
     exact t2.kept hk5 (fun k _ hz e6 => by
       have := (h.zone e hE k hz).2.2
       rcases e6 with e6 | e6 | e6
       · exact this.2.1 e6
       · exact this.2.2 e6
       · exact this.1 e6)
 · rcases e3 e hE with rfl | ⟨hE, hne, hni⟩
   · have hz' : (Zt k ∨ W.heap.size ≤ k) ∧ k < wt.heap.size := by simpa using hz
     exact ⟨by omega, hzt k hz'.1⟩
   · have hz' : Z e.2 k := by rw [if_neg hne] at hz; exact hz
     have := h.zone e hE k hz'
     exact ⟨by omega, this.2⟩
 · rcases e3 a ha with rfl | ⟨hA, hna, _⟩
   · rcases e3 b hb' with rfl | ⟨hB, hnb, _⟩
     · exact hne rfl
     · have hz' : (Zt k ∨ W.heap.size ≤ k) ∧ k < wt.heap.size := by simpa using hz
       have hz2' : Z b.2 k := by rw [if_neg hnb] at hz2; exact hz2
       have := hap b hB hnb k hz2'
       rcases hz'.1 with h6 | h6
       · exact this.1 h6
       · exact this.2 h6
   · have hz' : Z a.2 k := by rw [if_neg hna] at hz; exact hz
     rcases e3 b hb' with rfl | ⟨hB, hnb, _⟩
     · have hz2' : (Zt k ∨ W.heap.size ≤ k) ∧ k < wt.heap.size := by simpa using hz2
       have := hap a hA hna k hz'
       rcases hz2'.1 with h6 | h6
       · exact this.1 h6
       · exact this.2 h6
     · have hz2' : Z b.2 k := by rw [if_neg hnb] at hz2; exact hz2
       exact h.apart a hA b hB hne k hz' hz2'
 · rcases e3 e hE with rfl | ⟨hE, hne, hni⟩
   · exact hlow
   · exact h.low e hE
 · have k1 : Kept S w W := Kept.of_below hb
   have k2 : Kept S w wt := k1.step hkt (fun k hz => .inl (hzt k (.inl hz)).1)
   exact k2.step hk5 (fun k e => .inl (by
     rcases e with rfl | rfl | rfl
     · exact h.inS.2.1
     · exact h.inS.2.2
     · exact h.inS.1))
theorem add_put (hs0 : s0.length = 8) (hf : Fine K s0 ls) (hl : l.ok) (he : addE K s0 ls l = 0) {v : World} (htr : Tr K s0 Zt W q (lowT K s0 ls l.id)) (hb : Below W.heap.size W v) (hzl : ∀ k, Zt k → k < W.heap.size) {sv : Value} (hv : Bytes v v.heap.size sv (leafB l)) :
  Calls Tryz.prog 43 #[.pointer (some ⟨q, 0, none⟩), arr (keyK K s0 l), leafV sv l.am] v fun e w' => e = .returned (.int .i64 0) ∧ Tr K s0 (fun k => (Zt k ∨ W.heap.size ≤ k) ∧ k < w'.heap.size) w' q (lowT K s0 (ls ++ [l]) l.id) ∧ Kept Zt W w' := by
 obtain ⟨p1, p2⟩ := put_low hf hl he
 have hlen : (leafB l).length ≤ 1000000 := by
  have : putE (lowT K s0 ls l.id) (lfL K s0 l) = 0 := p1
  unfold putE at this
  split at this
  · cases this
  · split at this
    · cases this
    · next hshort => have h3 : ¬ 65536 < (leafB l).length := hshort; omega
 have t1 : Tr K s0 (fun k => Zt k ∨ W.heap.size ≤ k) v q (lowT K s0 ls l.id) := (htr.quiet hb).zone (fun k _ hz => .inl hz)
 refine (tr_put t1 hs0 (fun k hk => .inr (Nat.le_trans hb.size hk)) (lfL K s0 l) (tagD_hash K s0 hs0 _ _) sv hv hl.am hlen).mono fun e w' ⟨r1, r2, r3⟩ => ?_
 rw [p1] at r1
 rw [p2] at r2
 refine ⟨r1, r2.zone (fun k hk hz => ⟨hz, hk⟩), ?_⟩
 have k1 : Kept Zt W v := Kept.of_below hb
 exact k1.step r3 (fun k hk => hk)
theorem sum_good {w' : World} {e : Ending} (hg : ¬ leafBad l = true) (h : (leafBad l = false ∧ ∃ a c, e = .returned (leafV (.slice a (leafB l).length c) l.am) ∧ Bytes w' w'.heap.size (.slice a (leafB l).length c) (leafB l)) ∨ (leafBad l = true ∧ e = .returned (leafV (.slice none 0 0) 0))) :
   ∃ v, e = .returned (leafV v l.am) ∧ Bytes w' w'.heap.size v (leafB l) := by
 rcases h with ⟨_, a, c, h1, h2⟩ | ⟨h1, _⟩
 · exact ⟨_, h1, h2⟩
 · exact absurd h1 hg
end Go.Proofs.YtknfbccbdiidjaaGreatDoor

