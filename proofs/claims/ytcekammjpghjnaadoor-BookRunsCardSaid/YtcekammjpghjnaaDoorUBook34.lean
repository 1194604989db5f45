/- The reference's book and the program's: alike step by step. -/
import Derived.Test.YtcekammjpghjnaaDoorWs
import Derived.Test.YtcekammjpghjnaaDoorURg9
import Derived.Test.YtcekammjpghjnaaDoorUBook22
import Derived.Test.YtcekammjpghjnaaDoorUHq
namespace Go.Proofs.YtcekammjpghjnaaDoor
set_option linter.unusedVariables false
set_option linter.unusedSimpArgs false
open Go.ChangeShapes Go.WideShapes Go.ChangeAt Go.RowKit Go.Maps

theorem getR_own (hs ys : List HsT) (s : Int) (id : List Nat) : getR (hs.filter (keepR s id) ++ ys) s id = getR ys s id := by
 induction hs with
 | nil => rfl
 | cons x t ih =>
  by_cases h : x.side = s ∧ x.id = id
  · rw [List.filter_cons_of_neg (by unfold keepR; simp [h])]; exact ih
  · rw [List.filter_cons_of_pos (by unfold keepR; exact decide_eq_true h), List.cons_append]
    show (if x.side = s ∧ x.id = id then x.am else getR (t.filter (keepR s id) ++ ys) s id) = _
    rw [if_neg h]; exact ih
theorem getR_else {hs ys : List HsT} {s s' : Int} {id id' : List Nat} (hn : ¬ (s' = s ∧ id' = id)) (hy : ∀ y ∈ ys, y.side = s ∧ y.id = id) : getR (hs.filter (keepR s id) ++ ys) s' id' = getR hs s' id' := by
 induction hs with
 | nil =>
  show getR ys s' id' = 0
  induction ys with
  | nil => rfl
  | cons y t ih =>
    have h1 := hy y List.mem_cons_self
    show (if y.side = s' ∧ y.id = id' then y.am else getR t s' id') = 0
    rw [if_neg (fun h => hn ⟨h.1.symm.trans h1.1, h.2.symm.trans h1.2⟩)]
    exact ih (fun z hz => hy z (List.mem_cons_of_mem _ hz))
 | cons x t ih =>
  by_cases h : x.side = s ∧ x.id = id
  · rw [List.filter_cons_of_neg (by unfold keepR; simp [h])]
    show _ = (if x.side = s' ∧ x.id = id' then x.am else getR t s' id')
    rw [if_neg (fun e => hn ⟨e.1.symm.trans h.1, e.2.symm.trans h.2⟩)]; exact ih
  · rw [List.filter_cons_of_pos (by unfold keepR; exact decide_eq_true h), List.cons_append]
    show (if x.side = s' ∧ x.id = id' then x.am else getR (t.filter (keepR s id) ++ ys) s' id') = (if x.side = s' ∧ x.id = id' then x.am else getR t s' id')
    rw [ih]
theorem getR_set (hs : List HsT) (s s' : Int) (id id' : List Nat) (n : Nat) : getR (setR hs s id n) s' id' = if s' = s ∧ id' = id then n else getR hs s' id' := by
 unfold setR
 by_cases h : s' = s ∧ id' = id
 · rw [if_pos h]
   obtain ⟨rfl, rfl⟩ := h
   rw [getR_own]
   by_cases hn : n = 0
   · rw [if_pos hn, hn]; rfl
   · rw [if_neg hn]
     show (if s' = s' ∧ id' = id' then n else 0) = n
     rw [if_pos ⟨rfl, rfl⟩]
 · rw [if_neg h]
   refine getR_else h (fun y hy => ?_)
   split at hy
   · cases hy
   · rw [List.mem_singleton.1 hy]; exact ⟨rfl, rfl⟩
def HsT.key (h : HsT) : Int × List Nat := (h.side, h.id)
theorem keys_set {hs : List HsT} (h : (hs.map HsT.key).Nodup) (s : Int) (id : List Nat) (n : Nat) : ((setR hs s id n).map HsT.key).Nodup := by
 unfold setR
 rw [List.map_append]
 have h1 : ((hs.filter (keepR s id)).map HsT.key).Nodup := List.Nodup.sublist (List.Sublist.map _ List.filter_sublist) h
 split
 · simpa using h1
 · rw [List.nodup_append]
   refine ⟨h1, by simp, fun a ha b hb e => ?_⟩
   simp only [List.map_cons, List.map_nil, List.mem_singleton] at hb
   obtain ⟨x, hx, hxa⟩ := List.mem_map.1 ha
   have hk := (List.mem_filter.1 hx).2
   unfold keepR at hk
   have hk2 := of_decide_eq_true hk
   rw [← hxa, hb] at e
   exact hk2 ⟨congrArg Prod.fst e, congrArg Prod.snd e⟩
theorem set_mem {hs : List HsT} {s : Int} {id : List Nat} {n : Nat} : ∀ x ∈ setR hs s id n, x ∈ hs ∨ (0 < n ∧ x = ⟨s, id, n⟩) := fun x hx => by
 unfold setR at hx
 rcases List.mem_append.1 hx with hx | hx
 · exact .inl (List.mem_filter.1 hx).1
 · split at hx
   · cases hx
   · next h => exact .inr ⟨by omega, List.mem_singleton.1 hx⟩
structure Like (b : Bk) (r : RB) : Prop where
 off : r.offers = b.offers
 k0 : r.k0 = b.k0
 k1 : r.k1 = b.k1
 get : ∀ f, isSide f → ∀ id, getR r.has f id = b.has f id
 side : ∀ h ∈ r.has, isSide h.side
 keys : (r.has.map HsT.key).Nodup
 pos : ∀ h ∈ r.has, 0 < h.am
theorem like_new (k0 k1 : Nat) : Like ⟨[], [], [], k0, k1⟩ ⟨[], [], k0, k1⟩ := ⟨rfl, rfl, rfl, fun f hf id => by unfold Bk.has Bk.side; split <;> rfl, fun h hh => (by cases hh), List.nodup_nil, fun h hh => (by cases hh)⟩
theorem has_put (b : Bk) {f : Int} (hf : isSide f) (l : List Ent) {f' : Int} (hf' : isSide f') (k : List Nat) : (b.put f l).has f' k = if f' = f then numOf (look l k) else b.has f' k := by
 unfold Bk.has Bk.side Bk.put
 rcases hf with rfl | rfl <;> rcases hf' with rfl | rfl <;> rfl
theorem rput_k (b : Bk) (f : Int) (l : List Ent) : (b.put f l).k0 = b.k0 ∧ (b.put f l).k1 = b.k1 ∧ (b.put f l).offers = b.offers := by unfold Bk.put; split <;> exact ⟨rfl, rfl, rfl⟩
theorem Like.set {b : Bk} {r : RB} (h : Like b r) {f : Int} (hf : isSide f) (id : List Nat) (m : Nat) (l : List Ent) (hl : ∀ k, numOf (look l k) = if k = id then m else numOf (look (b.side f) k)) (os : List Off) : Like { b.put f l with offers := os } { r with has := setR r.has f id m, offers := os } := by
 obtain ⟨p0, p1, p2⟩ := rput_k b f l
 refine ⟨rfl, h.k0.trans p0.symm, h.k1.trans p1.symm, fun f' hf' k => ?_, fun x hx => ?_, keys_set h.keys f id m, fun x hx => ?_⟩
 · show getR (setR r.has f id m) f' k = (b.put f l).has f' k
   rw [getR_set, has_put b hf l hf', h.get f' hf']
   by_cases e : f' = f
   · subst e
     rw [if_pos rfl, hl k]
     by_cases e2 : k = id
     · rw [if_pos ⟨rfl, e2⟩, if_pos e2]
     · rw [if_neg (fun h => e2 h.2), if_neg e2]; rfl
   · rw [if_neg (fun h => e h.1), if_neg e]
 · rcases set_mem x hx with hx | ⟨_, rfl⟩
   · exact h.side x hx
   · exact hf
 · rcases set_mem x hx with hx | ⟨h0, rfl⟩
   · exact h.pos x hx
   · exact h0
theorem Like.list {b : Bk} {r : RB} (h : Like b r) (id : List Nat) : listR r id = amounts b id := by
 unfold listR amtTo amounts
 rw [h.get 0 (.inl rfl), h.get 1 (.inr rfl), List.take_length, h.off]
 rfl
theorem like_fundE {b : Bk} {r : RB} (h : Like b r) (s : Int) (id : List Nat) (n : Nat) : fundRE r s id n = fundE b s id n := by
 unfold fundRE fundE
 rw [h.list]
 have hc : (s < 0 ∨ 1 < s ∨ n = 0) ↔ (¬ isSide s ∨ n = 0) := by unfold isSide; omega
 by_cases h1 : s < 0 ∨ 1 < s ∨ n = 0
 · rw [if_pos h1, if_pos (hc.1 h1)]
 · rw [if_neg h1, if_neg (fun h2 => h1 (hc.2 h2))]
theorem like_fund {b : Bk} {r : RB} (h : Like b r) (s : Int) (id : List Nat) (n : Nat) : Like (fundN b s id n) (fundRB r s id n) := by
 unfold fundN fundRB
 rw [like_fundE h]
 by_cases he : fundE b s id n = 0
 · rw [if_pos he, if_pos he]
   have hs : isSide s := by
    rcases fundE_cases b s id n with hh | hh
    · exact hh.2.1
    · exact absurd he hh
   have := h.set hs id (getR r.has s id + n) (addL (b.side s) id n) (fun k => by rw [num_addL, h.get s hs]; rfl) r.offers
   have e1 : ({ b.put s (addL (b.side s) id n) with offers := r.offers } : Bk) = b.put s (addL (b.side s) id n) := by
    rw [h.off, ← (rput_k b s (addL (b.side s) id n)).2.2]
   rw [e1] at this
   exact this
 · rw [if_neg he, if_neg he]; exact h
theorem Like.keep {b : Bk} {r : RB} (h : Like b r) (f : Int) : r.keep f = b.keep f := by unfold RB.keep Bk.keep; rw [h.k0, h.k1]
theorem like_offE {b : Bk} {r : RB} (h : Like b r) (o : Off) : offRE r o = offE b o := by
 unfold offRE offE
 by_cases hf : o.fair
 · rw [if_pos hf, if_pos hf]
   unfold offerE
   rw [h.off, h.get o.frm hf.1, h.keep]
 · rw [if_neg hf, if_neg hf]
theorem like_offer {b : Bk} {r : RB} (h : Like b r) (ht : Tidy b) (o : Off) : Like (offN b o) (offRB r o) := by
 unfold offN offRB
 rw [like_offE h]
 by_cases he : offE b o = 0
 · rw [if_pos he, if_pos he]
   have hf : o.fair := by
    unfold offE at he
    by_cases hf : o.fair
    · exact hf
    · rw [if_neg hf] at he; cases he
   have := h.set hf.1 o.id (getR r.has o.frm o.id - o.am) (setL (b.side o.frm) o.id (b.has o.frm o.id - o.am)) (fun k => by rw [num_setL _ _ _ _ (ht.side o.frm).nodup, h.get o.frm hf.1]) (b.offers ++ [o])
   unfold offerB
   rw [h.off]
   exact this
 · rw [if_neg he, if_neg he]; exact h
theorem like_give {b : Bk} {r : RB} (h : Like b r) {i : Nat} {o : Off} (hi : b.offers[i]? = some o) {f : Int} (hf : isSide f) : Like (giveB b i f o) (withoutR r i f o) := by
 have := h.set hf o.id (getR r.has f o.id + o.am) (addL (b.side f) o.id o.am) (fun k => by rw [num_addL, h.get f hf]; rfl) (b.offers.eraseIdx i)
 unfold giveB withoutR
 rw [h.off, ← List.eraseIdx_eq_take_drop_succ]
 exact this
theorem at_get {b : Bk} {i : Nat} {o : Off} (h : b.offers[i]? = some o) : b.at (i : Int) = o := by
 unfold Bk.at
 simp [List.getD_eq_getElem?_getD, h]
theorem like_backE {b : Bk} {r : RB} (h : Like b r) (f n : Int) : backRE r f n = backE b f n := by unfold backRE backE; rw [h.off]
theorem like_back {b : Bk} {r : RB} (h : Like b r) (ht : Tidy b) (f n : Int) : Like (backN b f n) (backRB r f n) := by
 unfold backN backRB giveR
 rw [h.off]
 rcases find_cases b.offers f n with e | ⟨k, o, hk, e⟩
 · rw [if_pos (by rw [e]; decide), if_pos (by rw [e]; decide)]; exact h
 · have hn : ¬ findI b.offers f n < 0 := by rw [e]; omega
   rw [if_neg hn, if_neg hn, e, Int.toNat_natCast, hk, at_get hk]
   obtain ⟨o2, ho2, hf2, -⟩ := findI_hit e
   rw [hk] at ho2
   cases ho2
   show Like (giveB b k o.frm o) (withoutR r k f o)
   rw [hf2]
   exact like_give h hk (by rw [← hf2]; exact ht.sides o (List.mem_of_getElem? hk))
theorem like_settleE {b : Bk} {r : RB} (h : Like b r) (K s0 : List Wd) (f n : Int) (sec : List Nat) : settleRE K s0 r f n sec = settleE K s0 b f n sec := by
 unfold settleRE settleE
 rw [h.off]
 rcases find_cases b.offers f n with e | ⟨k, o, hk, e⟩
 · rw [if_pos (by rw [e]; decide), if_pos (by rw [e]; decide)]
 · have hn : ¬ findI b.offers f n < 0 := by rw [e]; omega
   rw [if_neg hn, if_neg hn, e, Int.toNat_natCast, hk, at_get hk]
theorem like_settle {b : Bk} {r : RB} (h : Like b r) (ht : Tidy b) (K s0 : List Wd) (f n : Int) (sec : List Nat) : Like (settleN K s0 b f n sec) (settleRB K s0 r f n sec) := by
 unfold settleN settleRB
 rw [like_settleE h]
 by_cases he : settleE K s0 b f n sec = 0
 · rw [if_pos he, if_pos he]
   rcases find_cases b.offers f n with e | ⟨k, o, hk, e⟩
   · unfold settleE at he
     rw [if_pos (by rw [e]; decide)] at he
     cases he
   · unfold giveR
     rw [h.off, e, Int.toNat_natCast, hk, at_get hk]
     obtain ⟨o2, ho2, hf2, -⟩ := findI_hit e
     rw [hk] at ho2
     cases ho2
     have hs := ht.sides o (List.mem_of_getElem? hk)
     show Like (giveB b k (1 - o.frm) o) (withoutR r k (1 - f) o)
     rw [hf2]
     refine like_give h hk ?_
     rw [hf2] at hs
     rcases hs with rfl | rfl
     · exact .inr rfl
     · exact .inl rfl
 · rw [if_neg he, if_neg he]; exact h
end Go.Proofs.YtcekammjpghjnaaDoor
/- The walk of Same. -/
namespace Go.Proofs.YtcekammjpghjnaaDoor
set_option linter.unusedVariables false
set_option linter.unusedSimpArgs false
open Go.ChangeShapes Go.WideShapes Go.ChangeAt Go.RowKit Go.Maps

theorem IsSums.len {l : List Ent} {ys : List HV} (h : IsSums l ys) : ys.length ≤ l.length := by
 have hd : (ys.map (·.k)).Nodup := by
  unfold List.Nodup
  rw [List.pairwise_map]
  exact h.rise.imp fun {a b} hab e => by rw [e, lexC_refl] at hab; exact absurd hab (by decide)
 have := len_sub (ys.map (·.k)) (l.map (·.1)) hd (fun k hk => by
  obtain ⟨x, hx, e⟩ := List.mem_map.1 hk
  exact List.mem_map.2 ⟨_, h.of x hx, e⟩)
 simpa using this
end Go.Proofs.YtcekammjpghjnaaDoor
