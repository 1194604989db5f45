/- The plain law of BookBack: an offer that is given back leaves all as it was; one that is settled moves just its amount. -/
import Derived.Test.YtcekammjpghjnaaDoorWs
import Derived.Test.YtcekammjpghjnaaDoorUBook34
import Derived.Deep.CutBlock
import Derived.Test.YtcekammjpghjnaaDoorUBook24
import Derived.Test.YtcekammjpghjnaaDoorUBook27
import Derived.Test.YtcekammjpghjnaaDoorUBook30
namespace Go.Proofs.YtcekammjpghjnaaDoor
set_option linter.unusedVariables false
set_option linter.unusedSimpArgs false
set_option linter.unusedSectionVars false
open Go.ChangeShapes Go.WideShapes Go.ChangeAt Go.RowKit Go.Maps

theorem len_putL (l : List Ent) (k : List Nat) (v : Value) : (putL l k v).length ≤ l.length + 1 := by
 induction l with
 | nil => simp [putL]
 | cons p l ih =>
  unfold putL
  split
  · simp
  · simp only [List.length_cons]; omega
theorem len_delL (l : List Ent) (k : List Nat) : (delL l k).length ≤ l.length := by
 induction l with
 | nil => simp [delL]
 | cons p l ih =>
  unfold delL
  split
  · simp
  · simp only [List.length_cons]; omega
theorem len_setL (l : List Ent) (k : List Nat) (n : Nat) : (setL l k n).length ≤ l.length + 1 := by
 unfold setL
 split
 · have := len_delL l k; omega
 · exact len_putL l k _
def Small (b : Bk) (m : Nat) : Prop := ∀ f, (b.side f).length ≤ m
theorem side_cases (b : Bk) (f : Int) : b.side f = b.l0 ∨ b.side f = b.l1 := by
 unfold Bk.side; split
 · exact .inl rfl
 · exact .inr rfl
theorem Small.put {b : Bk} {m : Nat} (h : Small b m) (f : Int) (l : List Ent) (hl : l.length ≤ m + 1) : Small (b.put f l) (m + 1) := fun g => by
 have h0 := h 0
 have h1 := h 1
 have e0 : (b.side 0) = b.l0 := rfl
 have e1 : (b.side 1) = b.l1 := rfl
 rw [e0] at h0
 rw [e1] at h1
 rcases side_cases (b.put f l) g with e | e
 · rw [e]; unfold Bk.put; split
   · exact hl
   · show b.l0.length ≤ _; omega
 · rw [e]; unfold Bk.put; split
   · show b.l1.length ≤ _; omega
   · exact hl
theorem Small.more {b : Bk} {m m' : Nat} (h : Small b m) (hm : m ≤ m') : Small b m' := fun f => Nat.le_trans (h f) hm
theorem Small.offs {b : Bk} {m : Nat} (h : Small b m) (os : List Off) : Small { b with offers := os } m := fun f => h f
theorem fund_small {b : Bk} {m : Nat} (h : Small b m) (f : Int) (id : List Nat) (n : Nat) : Small (fundN b f id n) (m + 1) := by
 unfold fundN; split
 · exact h.put f _ (Nat.le_trans (len_putL _ _ _) (by have := h f; omega))
 · exact h.more (by omega)
theorem offer_small {b : Bk} {m : Nat} (h : Small b m) (o : Off) : Small (offN b o) (m + 1) := by
 unfold offN; split
 · exact (h.put o.frm _ (Nat.le_trans (len_setL _ _ _) (by have := h o.frm; omega))).offs _
 · exact h.more (by omega)
theorem give_small {b : Bk} {m : Nat} (h : Small b m) (i : Nat) (f : Int) (o : Off) : Small (giveB b i f o) (m + 1) :=
 (h.put f _ (Nat.le_trans (len_putL _ _ _) (by have := h f; omega))).offs _
theorem back_small {b : Bk} {m : Nat} (h : Small b m) (f n : Int) : Small (backN b f n) (m + 1) := by
 unfold backN; split
 · exact h.more (by omega)
 · exact give_small h _ _ _
theorem settle_small {b : Bk} {m : Nat} (h : Small b m) (K s0 : List Wd) (f n : Int) (sec : List Nat) : Small (settleN K s0 b f n sec) (m + 1) := by
 unfold settleN; split
 · exact give_small h _ _ _
 · exact h.more (by omega)
theorem step_small {b : Bk} {m : Nat} (h : Small b m) (K s0 : List Wd) (s : Stp) : Small (stepB K s0 b s) (m + 1) := by
 unfold stepB
 split
 · exact fund_small h _ _ _
 · split
   · exact offer_small h _
   · split
     · exact settle_small h _ _ _ _ _
     · split
       · exact back_small h _ _
       · exact h.more (by omega)

section
variable {b : Bk} (h : Tidy b) (o : Off) (he : offE b o = 0)
include h he
end
end Go.Proofs.YtcekammjpghjnaaDoor

/- An offer's box whose lock is laid; a clone for a caller. -/
namespace Go.Proofs.YtcekammjpghjnaaDoor
set_option linter.unusedVariables false
set_option linter.unusedSimpArgs false
open Go.ChangeShapes Go.WideShapes Go.ChangeAt Go.RowKit Go.Maps

theorem BkEqv.refl {b : Bk} (h : Tidy b) : BkEqv b b := ⟨Eqv.refl h.n0.nodup, Eqv.refl h.n1.nodup, rfl, rfl, rfl⟩
theorem Eqv.len {l l' : List Ent} (h : Eqv l l') : l'.length ≤ l.length := by
 have := len_sub (l'.map (·.1)) (l.map (·.1)) h.d' (fun k hk => by
  obtain ⟨p, hp, e⟩ := List.mem_map.1 hk
  exact List.mem_map.2 ⟨_, h.mem (k := p.1) (v := p.2) hp, e⟩)
 simpa using this
theorem BkEqv.small {b b' : Bk} (h : BkEqv b b') {m : Nat} (hs : Small b m) : Small b' m := fun f => by
 have h0 := hs 0
 have h1 := hs 1
 have e0 : b.side 0 = b.l0 := rfl
 have e1 : b.side 1 = b.l1 := rfl
 rw [e0] at h0
 rw [e1] at h1
 have := h.e0.len
 have := h.e1.len
 rcases side_cases b' f with e | e
 · rw [e]; omega
 · rw [e]; omega
end Go.Proofs.YtcekammjpghjnaaDoor
/- What 'is' asks of the two books; the offers and the sums of a book that lives. -/
namespace Go.Proofs.YtcekammjpghjnaaDoor
set_option linter.unusedVariables false
set_option linter.unusedSimpArgs false
open Go.ChangeShapes Go.WideShapes Go.ChangeAt Go.RowKit Go.Maps

theorem rising_nodup {ys : List HV} (h : Rising ys) : (ys.map (·.k)).Nodup := by
 rw [List.Nodup, List.pairwise_map]
 refine List.Pairwise.imp (fun {a b} hlt e => ?_) h
 have e' : a.k = b.k := e
 rw [e', lexC_refl] at hlt
 exact absurd hlt (by decide)
theorem sums_at {l : List Ent} {ys : List HV} (hn : Neat l) (h : IsSums l ys) : ∀ x ∈ ys, numOf (look l x.k) = x.n ∧ 0 < x.n ∧ x.n < 18446744073709551616 := fun x hx => by
 have hm := h.of x hx
 have hl : look l x.k = some (.int .u64 (x.n : Int)) := ent_look hn.nodup hm
 have h0 := hn.nz _ hm
 obtain ⟨n, e, hlt⟩ := hn.nums _ hm
 injection e with _ e
 refine ⟨by rw [hl]; exact num_int x.n, ?_, by omega⟩
 rcases Nat.eq_zero_or_pos x.n with e2 | e2
 · rw [e2] at h0; exact absurd rfl h0
 · exact e2
theorem sums_key {l : List Ent} {ys : List HV} (hn : Neat l) (h : IsSums l ys) (k : List Nat) : (∃ x ∈ ys, x.k = k) ↔ 0 < numOf (look l k) := by
 constructor
 · rintro ⟨x, hx, rfl⟩
   have := sums_at hn h x hx
   omega
 · intro hp
   cases hl : look l k with
   | none => rw [hl] at hp; exact absurd hp (by decide)
   | some v =>
    obtain ⟨x, hx, e⟩ := h.all (k, v) (look_mem hl)
    exact ⟨x, hx, e.symm⟩
theorem getR_pos {hs : List HsT} (hp : ∀ h ∈ hs, 0 < h.am) (s : Int) (id : List Nat) : 0 < getR hs s id ↔ (s, id) ∈ hs.map HsT.key := by
 induction hs with
 | nil => exact ⟨fun h => absurd h (by show ¬ 0 < 0; decide), fun h => by cases h⟩
 | cons x t ih =>
  have ih2 := ih (fun h hh => hp h (List.mem_cons_of_mem _ hh))
  show 0 < (if x.side = s ∧ x.id = id then x.am else getR t s id) ↔ _
  rw [List.map_cons, List.mem_cons]
  by_cases e : x.side = s ∧ x.id = id
  · rw [if_pos e]
    exact ⟨fun _ => .inl (by rw [HsT.key, e.1, e.2]), fun _ => hp x List.mem_cons_self⟩
  · rw [if_neg e, ih2]
    exact ⟨.inr, fun h => h.resolve_left (fun h2 => e ⟨(congrArg Prod.fst h2).symm, (congrArg Prod.snd h2).symm⟩)⟩
theorem like_count {b : Bk} {r : RB} (h : Like b r) (ht : Tidy b) {y0 y1 : List HV} (h0 : IsSums (b.side 0) y0) (h1 : IsSums (b.side 1) y1) : y0.length + y1.length = r.has.length := by
 have hp : (y0.map (fun x => ((0 : Int), x.k)) ++ y1.map (fun x => ((1 : Int), x.k))).Perm (r.has.map HsT.key) := by
  refine (List.perm_ext_iff_of_nodup ?_ h.keys).2 fun q => ?_
  · rw [List.nodup_append]
    refine ⟨?_, ?_, fun a ha b hb e => ?_⟩
    · have := rising_nodup h0.rise
      rw [List.Nodup, List.pairwise_map] at this ⊢
      exact this.imp (fun {a b} hne e => hne (congrArg Prod.snd e))
    · have := rising_nodup h1.rise
      rw [List.Nodup, List.pairwise_map] at this ⊢
      exact this.imp (fun {a b} hne e => hne (congrArg Prod.snd e))
    · obtain ⟨x, _, rfl⟩ := List.mem_map.1 ha
      obtain ⟨y, _, rfl⟩ := List.mem_map.1 hb
      exact absurd (show (0 : Int) = 1 from congrArg Prod.fst e) (by decide)
  · obtain ⟨f, k⟩ := q
    rw [List.mem_append, List.mem_map, List.mem_map, ← getR_pos h.pos f k]
    constructor
    · rintro (⟨x, hx, e⟩ | ⟨x, hx, e⟩)
      · have e1 : (0 : Int) = f := congrArg Prod.fst e
        have e2 : x.k = k := congrArg Prod.snd e
        subst e1 e2
        rw [h.get 0 (.inl rfl)]
        exact (sums_key (ht.side 0) h0 x.k).1 ⟨x, hx, rfl⟩
      · have e1 : (1 : Int) = f := congrArg Prod.fst e
        have e2 : x.k = k := congrArg Prod.snd e
        subst e1 e2
        rw [h.get 1 (.inr rfl)]
        exact (sums_key (ht.side 1) h1 x.k).1 ⟨x, hx, rfl⟩
    · intro hpos
      have hs : isSide f := by
        obtain ⟨z, hz, e⟩ := List.mem_map.1 ((getR_pos h.pos f k).1 hpos)
        have := h.side z hz
        rw [show z.side = f from congrArg Prod.fst e] at this
        exact this
      rw [h.get f hs] at hpos
      rcases hs with rfl | rfl
      · obtain ⟨x, hx, e⟩ := (sums_key (ht.side 0) h0 k).2 hpos
        exact .inl ⟨x, hx, by rw [e]⟩
      · obtain ⟨x, hx, e⟩ := (sums_key (ht.side 1) h1 k).2 hpos
        exact .inr ⟨x, hx, by rw [e]⟩
 have := hp.length_eq
 rw [List.length_append, List.length_map, List.length_map, List.length_map] at this
 exact this
theorem lv_sums {S : Nat → Prop} {w : World} {g : Nat} {b : Bk} (h : Lv S w g b) (hb : b.ok) (hs : Small b 1000000) (f : Int) (hf : isSide f) :
  Calls Tryd.prog 20 #[.pointer (some ⟨g, 0, none⟩), .int .i64 f] w fun e w' => ∃ v' ys, e = .returned v' ∧ IsSums (b.side f) ys ∧ w'.ownsRow w.heap.size 94 33 v' ys.length (ys.flatMap HV.enc) ∧ Below w.heap.size w w' := by
 obtain ⟨m0, m1, v, hat, _⟩ := h
 exact sums_is w g m0 m1 v b f hat hb hf (hs f)
set_option maxRecDepth 100000 in
set_option maxHeartbeats 1000000 in
theorem lv_offs {S : Nat → Prop} {w : World} {g : Nat} {b : Bk} (h : Lv S w g b) (hb : b.ok) :
  Calls Tryd.prog 19 #[.pointer (some ⟨g, 0, none⟩)] w fun e w' => ∃ v', e = .returned v' ∧ w'.ownsRow w.heap.size 42 68 v' b.offers.length (b.offers.flatMap Off.cells) ∧ Below w.heap.size w w' := by
 obtain ⟨m0, m1, v, hat, _⟩ := h
 have c2 : w.cell? ⟨g, 2, none⟩ = some v := hat.obj.cell_is rfl
 have HCL := Lib.hid (clone_off w v b.offers hb.off hb.len hat.row)
 clear hat hb
 go_enter Tryd.func19, Tryd.ntmps19
 go_wp2_with fail
 refine HCL.out.mono ?_
 rintro _ w' ⟨v', rfl, hown, hbel⟩
 have HF := Lib.hid (And.intro hown hbel)
 clear hown hbel
 go_wp2
 go_ret
 exact ⟨_, rfl, HF.out.1, HF.out.2⟩
end Go.Proofs.YtcekammjpghjnaaDoor
