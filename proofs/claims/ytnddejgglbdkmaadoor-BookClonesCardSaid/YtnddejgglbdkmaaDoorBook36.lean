/- The plain law of BookBack: an offer that is given back leaves all as it was; one that is settled moves just its amount. -/
import Derived.Test.YtnddejgglbdkmaaDoorBook35
namespace Go.Proofs.YtnddejgglbdkmaaDoor
set_option linter.unusedVariables false
set_option linter.unusedSimpArgs false
set_option linter.unusedSectionVars false
open Go.ChangeShapes Go.WideShapes Go.ChangeAt Go.RowKit Go.Maps

theorem len_putL (l : List Ent) (k : List Nat) (v : Value) : (putL l k v).length ≤ l.length + 1 := by
  induction l with
  | nil => simp [putL]
  | cons p l ih =>
    unfold putL
    split
    · simp
    · simp only [List.length_cons]; omega
theorem len_delL (l : List Ent) (k : List Nat) : (delL l k).length ≤ l.length := by
  induction l with
  | nil => simp [delL]
  | cons p l ih =>
    unfold delL
    split
    · simp
    · simp only [List.length_cons]; omega
theorem len_setL (l : List Ent) (k : List Nat) (n : Nat) : (setL l k n).length ≤ l.length + 1 := by
  unfold setL
  split
  · have := len_delL l k; omega
  · exact len_putL l k _
/-- a book's sides are short. -/
def Small (b : Bk) (m : Nat) : Prop := ∀ f, (b.side f).length ≤ m
theorem side_cases (b : Bk) (f : Int) : b.side f = b.l0 ∨ b.side f = b.l1 := by
  unfold Bk.side; split
  · exact .inl rfl
  · exact .inr rfl
theorem Small.put {b : Bk} {m : Nat} (h : Small b m) (f : Int) (l : List Ent) (hl : l.length ≤ m + 1) : Small (b.put f l) (m + 1) := fun g => by
  have h0 := h 0
  have h1 := h 1
  have e0 : (b.side 0) = b.l0 := rfl
  have e1 : (b.side 1) = b.l1 := rfl
  rw [e0] at h0
  rw [e1] at h1
  rcases side_cases (b.put f l) g with e | e
  · rw [e]; unfold Bk.put; split
    · exact hl
    · show b.l0.length ≤ _; omega
  · rw [e]; unfold Bk.put; split
    · show b.l1.length ≤ _; omega
    · exact hl
theorem Small.more {b : Bk} {m m' : Nat} (h : Small b m) (hm : m ≤ m') : Small b m' := fun f => Nat.le_trans (h f) hm
theorem Small.offs {b : Bk} {m : Nat} (h : Small b m) (os : List Off) : Small { b with offers := os } m := fun f => h f
theorem fund_small {b : Bk} {m : Nat} (h : Small b m) (f : Int) (id : List Nat) (n : Nat) : Small (fundN b f id n) (m + 1) := by
  unfold fundN; split
  · exact h.put f _ (Nat.le_trans (len_putL _ _ _) (by have := h f; omega))
  · exact h.more (by omega)
theorem offer_small {b : Bk} {m : Nat} (h : Small b m) (o : Off) : Small (offN b o) (m + 1) := by
  unfold offN; split
  · exact (h.put o.frm _ (Nat.le_trans (len_setL _ _ _) (by have := h o.frm; omega))).offs _
  · exact h.more (by omega)
theorem give_small {b : Bk} {m : Nat} (h : Small b m) (i : Nat) (f : Int) (o : Off) : Small (giveB b i f o) (m + 1) :=
  (h.put f _ (Nat.le_trans (len_putL _ _ _) (by have := h f; omega))).offs _
theorem back_small {b : Bk} {m : Nat} (h : Small b m) (f n : Int) : Small (backN b f n) (m + 1) := by
  unfold backN; split
  · exact h.more (by omega)
  · exact give_small h _ _ _
theorem settle_small {b : Bk} {m : Nat} (h : Small b m) (K s0 : List Wd) (f n : Int) (sec : List Nat) : Small (settleN K s0 b f n sec) (m + 1) := by
  unfold settleN; split
  · exact give_small h _ _ _
  · exact h.more (by omega)
theorem step_small {b : Bk} {m : Nat} (h : Small b m) (K s0 : List Wd) (s : Stp) : Small (stepB K s0 b s) (m + 1) := by
  unfold stepB
  split
  · exact fund_small h _ _ _
  · split
    · exact offer_small h _
    · split
      · exact settle_small h _ _ _ _ _
      · split
        · exact back_small h _ _
        · exact h.more (by omega)

section
variable {b : Bk} (h : Tidy b) (o : Off) (he : offE b o = 0)
include h he
theorem off_facts : o.fair ∧ findI b.offers o.frm o.no < 0 ∧ o.am ≤ b.has o.frm o.id ∧ (offN b o).offers = b.offers ++ [o] ∧ offN b o = offerB b o := by
  rcases offE_cases b o with ⟨_, hf, hn, _, hle⟩ | h2
  · have e : offN b o = offerB b o := by unfold offN; rw [if_pos he]
    exact ⟨hf, hn, hle, by rw [e]; rfl, e⟩
  · exact absurd he h2
theorem off_find : findI (offN b o).offers o.frm o.no = (b.offers.length : Nat) ∧ (offN b o).at (b.offers.length : Nat) = o ∧ (offN b o).offers[b.offers.length]? = some o := by
  obtain ⟨_, hn, _, ho, _⟩ := off_facts h o he
  have hg : (offN b o).offers[b.offers.length]? = some o := by rw [ho, List.getElem?_append_right (Nat.le_refl _), Nat.sub_self]; rfl
  refine ⟨findI_at _ _ _ _ o hg ⟨rfl, rfl⟩ (fun j p hj hp => ?_), ?_, hg⟩
  · rw [ho, List.getElem?_append_left hj] at hp
    exact findI_neg hn p (List.mem_of_getElem? hp)
  · unfold Bk.at
    rw [Int.toNat_natCast, List.getD_eq_getElem?_getD, hg]; rfl
theorem back_all : backE (offN b o) o.frm o.no = 0 ∧ BkEqv b (backN (offN b o) o.frm o.no) := by
  obtain ⟨hf, hn, hle, ho, hN⟩ := off_facts h o he
  obtain ⟨hfi, hat, hg⟩ := off_find h o he
  have hneg : ¬ ((b.offers.length : Nat) : Int) < 0 := by omega
  have h1 := offer_tidy h o
  refine ⟨by unfold backE; rw [hfi, if_neg hneg], ?_⟩
  have e2 : backN (offN b o) o.frm o.no = giveB (offN b o) b.offers.length o.frm o := by
    unfold backN
    rw [hfi, if_neg hneg, hat, Int.toNat_natCast]
  have hos : (giveB (offN b o) b.offers.length o.frm o).offers = b.offers := by
    show (offN b o).offers.eraseIdx b.offers.length = b.offers
    rw [ho, List.eraseIdx_append_of_length_le (Nat.le_refl _), Nat.sub_self]
    simp
  have hl0 : ∀ l : List Ent, Neat l → o.am ≤ numOf (look l o.id) → ∀ k, look (addL (setL l o.id (numOf (look l o.id) - o.am)) o.id o.am) k = look l k := fun l hl hle k => by
    have hpos : 0 < o.am := hf.2.2.1
    by_cases hk : k = o.id
    · subst hk
      unfold addL
      rw [look_putL, num_setL l _ _ _ hl.nodup, if_pos rfl, Nat.sub_add_cancel hle]
      rcases look_num' hl.nums o.id with e | ⟨n, e⟩
      · rw [e] at hle
        have : numOf none = 0 := rfl
        omega
      · rw [e, num_int]
    · unfold addL
      rw [look_putL_ne _ _ (fun e => hk e.symm)]
      unfold setL
      split
      · rw [look_delL_ne _ (fun e => hk e.symm)]
      · rw [look_putL_ne _ _ (fun e => hk e.symm)]
  have hnd : ∀ l : List Ent, Neat l → ((addL (setL l o.id (numOf (look l o.id) - o.am)) o.id o.am).map (·.1)).Nodup := fun l hl => by
    unfold addL
    refine nodup_putL ?_
    unfold setL
    split
    · exact nodup_delL hl.nodup
    · exact nodup_putL hl.nodup
  have hs := hf.1
  rw [e2]
  have hle' : o.am ≤ numOf (look (b.side o.frm) o.id) := hle
  rw [hN] at hos ⊢
  rcases hs with e | e
  · have q0 : (giveB (offerB b o) b.offers.length o.frm o).l0 = addL (setL b.l0 o.id (numOf (look b.l0 o.id) - o.am)) o.id o.am := by
      simp [giveB, offerB, Bk.put, Bk.side, Bk.has, e]
    have q1 : (giveB (offerB b o) b.offers.length o.frm o).l1 = b.l1 := by simp [giveB, offerB, Bk.put, Bk.side, e]
    have q2 : (giveB (offerB b o) b.offers.length o.frm o).k0 = b.k0 := by simp [giveB, offerB, Bk.put, Bk.side, e]
    have q3 : (giveB (offerB b o) b.offers.length o.frm o).k1 = b.k1 := by simp [giveB, offerB, Bk.put, Bk.side, e]
    rw [e] at hle'
    refine ⟨?_, by rw [q1]; exact Eqv.refl h.n1.nodup, hos, q2, q3⟩
    rw [q0]
    exact ⟨h.n0.nodup, hnd b.l0 h.n0, fun k => (hl0 b.l0 h.n0 hle' k).symm⟩
  · have q0 : (giveB (offerB b o) b.offers.length o.frm o).l1 = addL (setL b.l1 o.id (numOf (look b.l1 o.id) - o.am)) o.id o.am := by
      simp [giveB, offerB, Bk.put, Bk.side, Bk.has, e]
    have q1 : (giveB (offerB b o) b.offers.length o.frm o).l0 = b.l0 := by simp [giveB, offerB, Bk.put, Bk.side, e]
    have q2 : (giveB (offerB b o) b.offers.length o.frm o).k0 = b.k0 := by simp [giveB, offerB, Bk.put, Bk.side, e]
    have q3 : (giveB (offerB b o) b.offers.length o.frm o).k1 = b.k1 := by simp [giveB, offerB, Bk.put, Bk.side, e]
    rw [e] at hle'
    refine ⟨by rw [q1]; exact Eqv.refl h.n0.nodup, ?_, hos, q2, q3⟩
    rw [q0]
    exact ⟨h.n1.nodup, hnd b.l1 h.n1, fun k => (hl0 b.l1 h.n1 hle' k).symm⟩
/-- settled, by its secret, in a copy of the book behind the offer. -/
theorem settle_all {c : Bk} (hc : BkEqv (offN b o) c) (K s0 : List Wd) (sec : List Nat) (hsec : o.lock = digest K s0 sec) :
    settleE K s0 c o.frm o.no sec = 0 ∧ (settleN K s0 c o.frm o.no sec).has (1 - o.frm) o.id = b.has (1 - o.frm) o.id + o.am ∧ (settleN K s0 c o.frm o.no sec).has o.frm o.id = b.has o.frm o.id - o.am := by
  obtain ⟨hf, hn, hle, ho, hN⟩ := off_facts h o he
  obtain ⟨hfi, hat, hg⟩ := off_find h o he
  have hneg : ¬ ((b.offers.length : Nat) : Int) < 0 := by omega
  have hfc : findI c.offers o.frm o.no = (b.offers.length : Nat) := by rw [hc.os]; exact hfi
  have hatc : c.at (b.offers.length : Nat) = o := by
    unfold Bk.at at hat ⊢
    rw [hc.os]; exact hat
  have e0 : settleE K s0 c o.frm o.no sec = 0 := by
    unfold settleE
    rw [hfc, if_neg hneg, hatc, if_pos hsec.symm]
  refine ⟨e0, ?_⟩
  have e2 : settleN K s0 c o.frm o.no sec = giveB c b.offers.length (1 - o.frm) o := by
    unfold settleN
    rw [if_pos e0, hfc, hatc, Int.toNat_natCast]
  rw [e2]
  have g1 : ∀ f, (giveB c b.offers.length (1 - o.frm) o).has f o.id = (c.put (1 - o.frm) (addL (c.side (1 - o.frm)) o.id o.am)).has f o.id := fun f => rfl
  have hs2 : isSide (1 - o.frm) := by rcases hf.1 with e | e <;> rw [e] <;> unfold isSide <;> omega
  have hne : 1 - o.frm ≠ o.frm := by rcases hf.1 with e | e <;> rw [e] <;> omega
  rw [g1, g1]
  have r1 : (c.put (1 - o.frm) (addL (c.side (1 - o.frm)) o.id o.am)).has (1 - o.frm) o.id = c.has (1 - o.frm) o.id + o.am := by
    rw [has_side, put_side c hs2, num_addL, if_pos rfl]; rfl
  have r2 : (c.put (1 - o.frm) (addL (c.side (1 - o.frm)) o.id o.am)).has o.frm o.id = c.has o.frm o.id := by
    rw [has_side, put_side_ne c hs2 hf.1 hne, has_side]
  rw [r1, r2, hc.has, hc.has, hN]
  have s1 : (offerB b o).has (1 - o.frm) o.id = b.has (1 - o.frm) o.id := by
    show (b.put o.frm (setL (b.side o.frm) o.id (b.has o.frm o.id - o.am))).has (1 - o.frm) o.id = _
    rw [has_side, put_side_ne b hf.1 hs2 (fun e => hne e.symm), has_side]
  have s2 : (offerB b o).has o.frm o.id = b.has o.frm o.id - o.am := by
    show (b.put o.frm (setL (b.side o.frm) o.id (b.has o.frm o.id - o.am))).has o.frm o.id = _
    rw [has_side, put_side b hf.1, num_setL _ _ _ _ (h.side o.frm).nodup, if_pos rfl]
  rw [s1, s2]
  exact ⟨rfl, rfl⟩
end
end Go.Proofs.YtnddejgglbdkmaaDoor

/- An offer's box whose lock is laid; a clone for a caller. -/
namespace Go.Proofs.YtnddejgglbdkmaaDoor
set_option linter.unusedVariables false
set_option linter.unusedSimpArgs false
open Go.ChangeShapes Go.WideShapes Go.ChangeAt Go.RowKit Go.Maps

theorem off_locked {w : World} {G : Nat} {t : TypeId} {o : Off} {D : List Nat} (h : Has w G t o.cells.toArray) (ho : o.ok) (hD : IsHash D) :
    Has (w.setCells G 35 (bcells D)) G t ({ o with lock := D } : Off).cells.toArray ∧ Kept (fun k => k = G) w (w.setCells G 35 (bcells D)) ∧ w.there G 35 32 := by
  obtain ⟨cur, h1, h2, h3, h4⟩ := Has.setCells (bcells D) 35 w _ h
  have hl := o.length ho
  have hok : ({ o with lock := D } : Off).ok := ⟨ho.1, hD, ho.2.2⟩
  have hl' := Off.length _ hok
  have hsz : o.cells.toArray.size = 68 := by rw [List.size_toArray, hl]
  have e : cur = ({ o with lock := D } : Off).cells.toArray := by
    apply Array.toList_inj.1
    apply List.ext_getElem?
    intro j
    by_cases hj : j < 68
    · rw [Array.getElem?_toList, h3 j (by omega), bcells_length, hD.1]
      show _ = ({ o with lock := D } : Off).cells[j]?
      rw [off_lock_get o ho D hD.1 j hj]
      by_cases c : 35 ≤ j ∧ j < 67
      · rw [if_pos c, if_pos c]
      · rw [if_neg c, if_neg c, List.getElem?_toArray]
    · rw [List.getElem?_eq_none (by rw [Array.length_toList, h2, hsz]; omega), List.getElem?_eq_none (by show ({ o with lock := D } : Off).cells.length ≤ j; omega)]
  rw [e] at h1
  refine ⟨h1, h4, fun j hj => ⟨?_, h.free _⟩⟩
  rw [h.cell, List.getElem?_toArray, List.getElem?_eq_getElem (by omega)]; rfl
theorem lv_clone {S : Nat → Prop} {w : World} {g : Nat} {b : Bk} (h : Lv S w g b) (hb : b.ok) :
    Calls Tryd.prog 19 #[.pointer (some ⟨g, 0, none⟩)] w fun e w' => ∃ g' b', e = .returned (.pointer (some ⟨g', 0, none⟩)) ∧ Lv (fun k => w.heap.size ≤ k ∧ k < w'.heap.size) w' g' b' ∧ BkEqv b b' ∧ Below w.heap.size w w' := by
  obtain ⟨m0, m1, v, hat, hset⟩ := h
  exact (clone_is w g m0 m1 v b hat hb).mono fun e w' ⟨g', b', he, hl, hq, hbw⟩ => ⟨g', b', he, hl.zone (fun k h1 h2 => ⟨h2, h1⟩), hq, hbw⟩
/-- Same at two books that say the same. -/
theorem lv_same {S S' : Nat → Prop} {w : World} {g g' : Nat} {b b' : Bk} (h : Lv S w g b) (h' : Lv S' w g' b') (ht : Tidy b) (he : BkEqv b b') (hs : Small b 1000000) (hs' : Small b' 1000000) :
    Calls Tryd.prog 20 #[.pointer (some ⟨g, 0, none⟩), .pointer (some ⟨g', 0, none⟩)] w fun e w' => e = .returned (.bool true) ∧ Below w.heap.size w w' := by
  obtain ⟨m0, m1, v, hat, _⟩ := h
  obtain ⟨m0', m1', v', hat', _⟩ := h'
  exact same_true w g g' b b' m0 m1 v m0' m1' v' ⟨hat, hat', ht.ok, (he.tidy ht).ok, hs, hs', he.k0, he.k1⟩ he.e0.same he.e1.same he.os ht.uniq
theorem BkEqv.refl {b : Bk} (h : Tidy b) : BkEqv b b := ⟨Eqv.refl h.n0.nodup, Eqv.refl h.n1.nodup, rfl, rfl, rfl⟩
theorem Eqv.len {l l' : List Ent} (h : Eqv l l') : l'.length ≤ l.length := by
  have := len_sub (l'.map (·.1)) (l.map (·.1)) h.d' (fun k hk => by
    obtain ⟨p, hp, e⟩ := List.mem_map.1 hk
    exact List.mem_map.2 ⟨_, h.mem (k := p.1) (v := p.2) hp, e⟩)
  simpa using this
theorem BkEqv.small {b b' : Bk} (h : BkEqv b b') {m : Nat} (hs : Small b m) : Small b' m := fun f => by
  have h0 := hs 0
  have h1 := hs 1
  have e0 : b.side 0 = b.l0 := rfl
  have e1 : b.side 1 = b.l1 := rfl
  rw [e0] at h0
  rw [e1] at h1
  have := h.e0.len
  have := h.e1.len
  rcases side_cases b' f with e | e
  · rw [e]; omega
  · rw [e]; omega
end Go.Proofs.YtnddejgglbdkmaaDoor
