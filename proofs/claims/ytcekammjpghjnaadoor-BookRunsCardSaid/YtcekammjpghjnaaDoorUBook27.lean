/- The walks of slices.Clone at offers and of Clone. -/
import Derived.Test.YtcekammjpghjnaaDoorWs
import Derived.Test.YtcekammjpghjnaaDoorUBook24
namespace Go.Proofs.YtcekammjpghjnaaDoor
set_option linter.unusedVariables false
set_option linter.unusedSimpArgs false
open Go.ChangeShapes Go.WideShapes Go.ChangeAt Go.RowKit Go.Maps

theorem eq_nil_off (w : World) (a : Option Addr) (n c : Nat) : (binOp .eql 61 (.slice a n c) (.slice none 0 0)).run Tryd.prog w = .ok (.bool a.isNone) w :=
 Lib.run_eql_slice_nil w 61 42 a n c 0 0 Tryd.underlying61
theorem flat_one (os : List Off) : ∀ v ∈ os.flatMap Off.cells, v.oneCell' = true := fun v hv => by
 obtain ⟨o, _, ho⟩ := List.mem_flatMap.1 hv
 exact off_one o v ho

set_option maxHeartbeats 1000000 in
theorem clone_off (w : World) (v : Value) (os : List Off) (hok : ∀ o ∈ os, o.ok) (hn : os.length ≤ 1000) (h : w.ownsRow 0 42 68 v os.length (os.flatMap Off.cells)) :
   Calls Tryd.prog 41 #[v] w fun e w' => ∃ v', e = .returned v' ∧ w'.ownsRow w.heap.size 42 68 v' os.length (os.flatMap Off.cells) ∧ Below w.heap.size w w' := by
 have hnil := eq_nil_off
 rcases h.2 with ⟨rfl, h0⟩ | ⟨g, cap, cur, rfl, _, hh, h1, h2, h3, h4⟩
 · have hos : os = [] := List.eq_nil_of_length_eq_zero h0
   subst hos
   clear h
   go_enter Tryd.func41, Tryd.ntmps41
   go_wp2
   go_ret
   exact ⟨_, rfl, World.ownsRow_nil _ _ _ _, Below.refl _ _⟩
 · obtain ⟨i0, hi, hz0, hz1, hz2⟩ := info_parts info_off
   obtain ⟨n, hnn⟩ : ∃ n, n = os.length := ⟨_, rfl⟩
   rw [← hnn] at h1 h4 hn ⊢
   have hfl := flat_len os hok
   rw [← hnn] at hfl
   obtain ⟨L, hL⟩ : ∃ L, L = os.flatMap Off.cells := ⟨_, rfl⟩
   rw [← hL] at h4 hfl ⊢
   have hone : ∀ v ∈ L, v.oneCell' = true := by rw [hL]; exact flat_one os
   have hc : ∀ j u, L[j]? = some u → (w.alloc (.cells #[] 42)).cell? ((⟨g, 0, none⟩ : Addr).add j) = some u := fun j u hu => by
    have hj := (List.getElem?_eq_some_iff.1 hu).1
    have hg : Has w g 42 cur := hh
    rw [Addr.add_mid, Nat.zero_add, World.cell?_alloc_lt w _ _ hg.lt]
    refine hg.cell_is ?_
    rw [← h4, List.getElem?_take] at hu
    split at hu
    · simpa using hu
    · cases hu
   have HC := Lib.hid hc
   have HONE := Lib.hid hone
   have HFL := Lib.hid hfl
   clear hc hone hfl h h1 h2 h3 h4 hh hnn hL hok
   go_enter Tryd.func41, Tryd.ntmps41
   go_wp2_with (at_builtin; refine wpList_append_own _ rfl (.tmp 5) (.tmp 6) 61 rfl w.heap.size 42 i0 _ 68 96 Tryd.underlying61 hi hz0 hz1 hz2 (by kernel_rfl) (by decide) _ 0 [] rfl (World.ownsRow_made w #[] 0 (Nat.le_refl _) (by decide) rfl) ⟨g, 0, none⟩ n cap L rfl (by rw [HFL.out, Nat.mul_comm]) HC.out HONE.out (by unfold maxLen; omega) (by omega) (by simp) ?_)
   intro v' w' hown hgr _
   have HOWN := Lib.hid hown
   have HGR := Lib.hid hgr
   clear hown hgr
   go_wp2
   go_ret
   refine ⟨v', rfl, HOWN.out, ((Below.refl _ _).alloc (Nat.le_refl _) _).grown HGR.out (by simp) (fun k hk => by simp [Value.ownBlock] at hk; omega)⟩

structure Eqv (l l' : List Ent) : Prop where
 d : (l.map (·.1)).Nodup
 d' : (l'.map (·.1)).Nodup
 same : ∀ k, look l k = look l' k
theorem MapIs.nodup {w : World} {b : Nat} {l : List Ent} (h : MapIs w b l) : (l.map (·.1)).Nodup := by
 obtain ⟨es, clock, _, hs, he, _⟩ := h
 exact nodup_keys hs he
theorem look_mem {l : List Ent} {k : List Nat} {v : Value} (h : look l k = some v) : (k, v) ∈ l := by
 induction l with
 | nil => cases h
 | cons p l ih =>
  unfold look at h
  by_cases hk : p.1 = k
  · rw [if_pos hk] at h
    injection h with h
    rw [← hk, ← h]; exact List.mem_cons_self
  · rw [if_neg hk] at h; exact List.mem_cons_of_mem _ (ih h)
theorem look_not {l : List Ent} {k : List Nat} (h : k ∉ l.map (·.1)) : look l k = none := look_none fun p hp e => h (List.mem_map.2 ⟨p, hp, e⟩)
theorem Eqv.mem {l l' : List Ent} (h : Eqv l l') {k : List Nat} {v : Value} (hm : (k, v) ∈ l') : (k, v) ∈ l := look_mem ((h.same k).trans (ent_look h.d' hm))
theorem Eqv.symm {l l' : List Ent} (h : Eqv l l') : Eqv l' l := ⟨h.d', h.d, fun k => (h.same k).symm⟩
theorem Eqv.trans {l l' l'' : List Ent} (h : Eqv l l') (k : Eqv l' l'') : Eqv l l'' := ⟨h.d, k.d', fun x => (h.same x).trans (k.same x)⟩
theorem Eqv.refl {l : List Ent} (h : (l.map (·.1)).Nodup) : Eqv l l := ⟨h, h, fun _ => rfl⟩
theorem Eqv.neat {l l' : List Ent} (h : Eqv l l') (hn : Neat l) : Neat l' :=
 ⟨fun p hp => hn.nums _ (h.mem (k := p.1) (v := p.2) hp), h.d', fun p hp => hn.nz _ (h.mem (k := p.1) (v := p.2) hp)⟩
structure BkEqv (b b' : Bk) : Prop where
 e0 : Eqv b.l0 b'.l0
 e1 : Eqv b.l1 b'.l1
 os : b'.offers = b.offers
 k0 : b'.k0 = b.k0
 k1 : b'.k1 = b.k1
theorem BkEqv.has {b b' : Bk} (h : BkEqv b b') (f : Int) (id : List Nat) : b'.has f id = b.has f id := by
 unfold Bk.has Bk.side
 split
 · rw [h.e0.same]
 · rw [h.e1.same]
theorem BkEqv.tot {b b' : Bk} (h : BkEqv b b') (id : List Nat) : tot b' id = tot b id := by
 rw [tot_has, tot_has, h.has, h.has, h.os]
theorem BkEqv.tidy {b b' : Bk} (h : BkEqv b b') (ht : Tidy b) : Tidy b' :=
 ⟨h.e0.neat ht.n0, h.e1.neat ht.n1, by rw [h.os]; exact ht.off, by rw [h.os]; exact ht.uniq, by rw [h.os]; exact ht.cnt, fun id => by rw [h.tot]; exact ht.fit id⟩
theorem BkEqv.trans {b b' b'' : Bk} (h : BkEqv b b') (k : BkEqv b' b'') : BkEqv b b'' := ⟨h.e0.trans k.e0, h.e1.trans k.e1, k.os.trans h.os, k.k0.trans h.k0, k.k1.trans h.k1⟩
theorem BkEqv.symm {b b' : Bk} (h : BkEqv b b') : BkEqv b' b := ⟨h.e0.symm, h.e1.symm, h.os.symm, h.k0.symm, h.k1.symm⟩

def Copied (l la : List Ent) (done : List (List Nat)) : Prop := ∀ k, look la k = if k ∈ done then look l k else none
theorem Copied.start (l : List Ent) : Copied l [] [] := fun k => by rw [if_neg (by simp)]; rfl
theorem Copied.step {l la : List Ent} {done : List (List Nat)} (h : Copied l la done) (hd : (l.map (·.1)).Nodup) {k : List Nat} {v : Value} (hm : (k, v) ∈ l) : Copied l (putL la k v) (done ++ [k]) := fun x => by
 by_cases hx : x = k
 · subst hx
   rw [look_putL, if_pos (by simp), ent_look hd hm]
 · rw [look_putL_ne la v (fun e => hx e.symm), h x]
   by_cases hq : x ∈ done
   · rw [if_pos hq, if_pos (List.mem_append_left _ hq)]
   · rw [if_neg hq, if_neg (fun e => (List.mem_append.1 e).elim hq (fun e => hx (List.mem_singleton.1 e)))]
theorem Copied.all {l la : List Ent} {done : List (List Nat)} (h : Copied l la done) (hd : (l.map (·.1)).Nodup) (hd' : (la.map (·.1)).Nodup) (hall : ∀ p ∈ l, p.1 ∈ done) : Eqv l la := ⟨hd, hd', fun k => by
 rw [h k]
 by_cases hk : k ∈ done
 · rw [if_pos hk]
 · rw [if_neg hk, look_not (fun hm => by obtain ⟨p, hp, e⟩ := List.mem_map.1 hm; exact hk (by rw [← e]; exact hall p hp))]⟩
end Go.Proofs.YtcekammjpghjnaaDoor
/- The walk of Clone. -/
namespace Go.Proofs.YtcekammjpghjnaaDoor
set_option linter.unusedVariables false
set_option linter.unusedSimpArgs false
open Go.ChangeShapes Go.WideShapes Go.ChangeAt Go.RowKit Go.Maps

structure CopyAt (w : World) (g m0 m1 : Nat) (v : Value) (b : Bk) (g' m0' m1' : Nat) (v' : Value) (cb : Bk) (wr : World) : Prop where
 src : BookAt wr g m0 m1 v b
 dst : BookAt wr g' m0' m1' v' cb
 bel : Below w.heap.size w wr
 off : cb.offers = []
 k0 : cb.k0 = b.k0
 k1 : cb.k1 = b.k1
theorem CopyAt.kept {w : World} {g m0 m1 : Nat} {v : Value} {b : Bk} {g' m0' m1' : Nat} {v' : Value} {cb : Bk} {wr w2 : World} {S : Nat → Prop} (h : CopyAt w g m0 m1 v b g' m0' m1' v' cb wr) (hk : Kept S wr w2)
  (h1 : ∀ k, bset g m0 m1 v k → ¬ S k) (h2 : ∀ k, bset g' m0' m1' v' k → ¬ S k) (h3 : ∀ k, S k → w.heap.size ≤ k) : CopyAt w g m0 m1 v b g' m0' m1' v' cb w2 :=
 ⟨h.src.kept hk h1, h.dst.kept hk h2, h.bel.trans (hk.below h.bel.size h3), h.off, h.k0, h.k1⟩
end Go.Proofs.YtcekammjpghjnaaDoor
