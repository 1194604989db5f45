/- The plain law of books: what there is of each asset stays as it is, but by funding; a book that came about by its methods is tidy. -/
import Derived.Test.YtcekammjpghjnaaDoorWs
import Derived.Test.YtcekammjpghjnaaDoorUBook18
namespace Go.Proofs.YtcekammjpghjnaaDoor
set_option linter.unusedVariables false
set_option linter.unusedSimpArgs false
open Go.ChangeShapes Go.WideShapes Go.ChangeAt Go.RowKit Go.Maps

def tot (b : Bk) (id : List Nat) : Nat := (amounts b id).sum
def offSum (os : List Off) (id : List Nat) : Nat := ((os.filter fun o => o.id = id).map (·.am)).sum
theorem tot_eq (b : Bk) (id : List Nat) : tot b id = numOf (look b.l0 id) + numOf (look b.l1 id) + offSum b.offers id := by
 unfold tot amounts offSum
 rw [List.sum_append]
 simp
theorem tot_has (b : Bk) (id : List Nat) : tot b id = b.has 0 id + b.has 1 id + offSum b.offers id := tot_eq b id

theorem num_int (n : Nat) : numOf (some (.int .u64 (n : Int))) = n := by simp [numOf]
theorem num_putL (l : List Ent) (k k' : List Nat) (n : Nat) : numOf (look (putL l k (.int .u64 (n : Int))) k') = if k' = k then n else numOf (look l k') := by
 by_cases h : k' = k
 · subst h; rw [look_putL, if_pos rfl]; exact num_int n
 · rw [look_putL_ne l _ (fun e => h e.symm), if_neg h]
theorem num_addL (l : List Ent) (k k' : List Nat) (n : Nat) : numOf (look (addL l k n) k') = if k' = k then numOf (look l k) + n else numOf (look l k') := num_putL l k k' _
theorem look_delL (l : List Ent) (k : List Nat) (h : (l.map (·.1)).Nodup) : look (delL l k) k = none := by
 induction l with
 | nil => rfl
 | cons p l ih =>
  rw [List.map_cons, List.nodup_cons] at h
  by_cases hk : p.1 = k
  · rw [delL, if_pos hk]
    exact look_none fun q hq e => h.1 (List.mem_map.2 ⟨q, hq, by rw [e, hk]⟩)
  · rw [delL, if_neg hk, look, if_neg hk, ih h.2]
theorem num_setL (l : List Ent) (k k' : List Nat) (n : Nat) (h : (l.map (·.1)).Nodup) : numOf (look (setL l k n) k') = if k' = k then n else numOf (look l k') := by
 unfold setL
 by_cases hn : n = 0
 · rw [if_pos hn]
   by_cases hk : k' = k
   · subst hk; rw [if_pos rfl, look_delL l _ h, hn]; rfl
   · rw [if_neg hk, look_delL_ne l (fun e => hk e.symm)]
 · rw [if_neg hn, num_putL]
theorem mem_putL {l : List Ent} {k : List Nat} {v : Value} : ∀ p ∈ putL l k v, p ∈ l ∨ p = (k, v) := by
 induction l with
 | nil => intro p hp; exact .inr (List.mem_singleton.1 hp)
 | cons q l ih =>
  intro p hp
  unfold putL at hp
  by_cases hk : q.1 = k
  · rw [if_pos hk] at hp
    rcases List.mem_cons.1 hp with e | e
    · exact .inr e
    · exact .inl (List.mem_cons_of_mem _ e)
  · rw [if_neg hk] at hp
    rcases List.mem_cons.1 hp with e | e
    · exact .inl (by rw [e]; exact List.mem_cons_self)
    · rcases ih p e with e | e
      · exact .inl (List.mem_cons_of_mem _ e)
      · exact .inr e
theorem mem_delL {l : List Ent} {k : List Nat} : ∀ p ∈ delL l k, p ∈ l := by
 induction l with
 | nil => intro p hp; exact hp
 | cons q l ih =>
  intro p hp
  unfold delL at hp
  by_cases hk : q.1 = k
  · rw [if_pos hk] at hp; exact List.mem_cons_of_mem _ hp
  · rw [if_neg hk] at hp
    rcases List.mem_cons.1 hp with e | e
    · rw [e]; exact List.mem_cons_self
    · exact List.mem_cons_of_mem _ (ih p e)
theorem nodup_putL {l : List Ent} {k : List Nat} {v : Value} (h : (l.map (·.1)).Nodup) : ((putL l k v).map (·.1)).Nodup := by
 induction l with
 | nil => simp [putL]
 | cons q l ih =>
  have h' := h
  rw [List.map_cons, List.nodup_cons] at h
  unfold putL
  by_cases hk : q.1 = k
  · rw [if_pos hk, List.map_cons, ← hk]; simpa using h'
  · rw [if_neg hk, List.map_cons, List.nodup_cons]
    refine ⟨fun hm => ?_, ih h.2⟩
    obtain ⟨p, hp, he⟩ := List.mem_map.1 hm
    rcases mem_putL p hp with e | e
    · exact h.1 (List.mem_map.2 ⟨p, e, he⟩)
    · rw [e] at he; exact hk he.symm
theorem nodup_delL {l : List Ent} {k : List Nat} (h : (l.map (·.1)).Nodup) : ((delL l k).map (·.1)).Nodup := by
 induction l with
 | nil => simp [delL]
 | cons q l ih =>
  rw [List.map_cons, List.nodup_cons] at h
  unfold delL
  by_cases hk : q.1 = k
  · rw [if_pos hk]; exact h.2
  · rw [if_neg hk, List.map_cons, List.nodup_cons]
    refine ⟨fun hm => ?_, ih h.2⟩
    obtain ⟨p, hp, he⟩ := List.mem_map.1 hm
    exact h.1 (List.mem_map.2 ⟨p, mem_delL p hp, he⟩)

structure Neat (l : List Ent) : Prop where
 nums : Nums l
 nodup : (l.map (·.1)).Nodup
 nz : ∀ p ∈ l, p.2 ≠ .int .u64 0
theorem Neat.put {l : List Ent} (h : Neat l) (k : List Nat) (n : Nat) (h0 : 0 < n) (h1 : n < 18446744073709551616) : Neat (putL l k (.int .u64 (n : Int))) := by
 refine ⟨fun p hp => ?_, nodup_putL h.nodup, fun p hp => ?_⟩
 · rcases mem_putL p hp with e | e
   · exact h.nums p e
   · rw [e]; exact ⟨n, rfl, h1⟩
 · rcases mem_putL p hp with e | e
   · exact h.nz p e
   · rw [e]
     intro e
     injection e with _ e
     omega
theorem Neat.del {l : List Ent} (h : Neat l) (k : List Nat) : Neat (delL l k) := ⟨fun p hp => h.nums p (mem_delL p hp), nodup_delL h.nodup, fun p hp => h.nz p (mem_delL p hp)⟩
theorem Neat.set {l : List Ent} (h : Neat l) (k : List Nat) (n : Nat) (h1 : n < 18446744073709551616) : Neat (setL l k n) := by
 unfold setL; split
 · exact h.del k
 · exact h.put k n (by omega) h1
theorem Neat.add {l : List Ent} (h : Neat l) (k : List Nat) (n : Nat) (h0 : 0 < n) (h1 : numOf (look l k) + n < 18446744073709551616) : Neat (addL l k n) := h.put k _ (by omega) h1
theorem neat_nil : Neat [] := ⟨fun p hp => (by cases hp), List.nodup_nil, fun p hp => (by cases hp)⟩

def Uniq (os : List Off) : Prop := ∀ (i j : Nat) (o p : Off), os[i]? = some o → os[j]? = some p → o.frm = p.frm → o.no = p.no → i = j
structure Tidy (b : Bk) : Prop where
 n0 : Neat b.l0
 n1 : Neat b.l1
 off : ∀ o ∈ b.offers, o.ok ∧ o.fair
 uniq : Uniq b.offers
 cnt : ∀ f, cntF b.offers f ≤ 30
 fit : ∀ id, tot b id < 18446744073709551616

theorem cnt_two (os : List Off) (h : ∀ o ∈ os, isSide o.frm) : os.length = cntF os 0 + cntF os 1 := by
 induction os with
 | nil => rfl
 | cons o os ih =>
  have := ih (fun p hp => h p (List.mem_cons_of_mem _ hp))
  unfold cntF at this ⊢
  rcases h o List.mem_cons_self with e | e
  · rw [List.filter_cons_of_pos (by simpa using e), List.filter_cons_of_neg (by rw [e]; decide)]
    simp only [List.length_cons]; omega
  · rw [List.filter_cons_of_neg (by rw [e]; decide), List.filter_cons_of_pos (by simpa using e)]
    simp only [List.length_cons]; omega
theorem Tidy.sides {b : Bk} (h : Tidy b) : ∀ o ∈ b.offers, isSide o.frm := fun o ho => (h.off o ho).2.1
theorem Tidy.len {b : Bk} (h : Tidy b) : b.offers.length ≤ 60 := by
 have h0 := h.cnt 0
 have h1 := h.cnt 1
 rw [cnt_two b.offers h.sides]; omega
theorem Tidy.ok {b : Bk} (h : Tidy b) : b.ok := ⟨h.n0.nums, h.n1.nums, fun o ho => (h.off o ho).1, by have := h.len; omega⟩
theorem Tidy.side {b : Bk} (h : Tidy b) (f : Int) : Neat (b.side f) := by
 unfold Bk.side; split
 · exact h.n0
 · exact h.n1
theorem offSum_mem {os : List Off} {o : Off} (h : o ∈ os) : o.am ≤ offSum os o.id := by
 induction os with
 | nil => cases h
 | cons p os ih =>
  unfold offSum at ih ⊢
  rcases List.mem_cons.1 h with e | e
  · subst e; rw [List.filter_cons_of_pos (by simp), List.map_cons, List.sum_cons]; omega
  · have := ih e
    rw [List.filter_cons]
    split
    · rw [List.map_cons, List.sum_cons]; omega
    · exact this
theorem has_am {b : Bk} {o : Off} (h : o ∈ b.offers) (f : Int) : b.has f o.id + o.am ≤ tot b o.id := by
 have h1 := offSum_mem h
 have h2 := tot_has b o.id
 have : b.has f o.id ≤ b.has 0 o.id + b.has 1 o.id := by
  unfold Bk.has Bk.side
  by_cases e : f = 0
  · simp [e]
  · simp [e]
 omega
theorem Tidy.room {b : Bk} (h : Tidy b) (f : Int → Int) : ∀ o ∈ b.offers, b.has (f o.frm) o.id + o.am < 18446744073709551616 := fun o ho => by
 have := has_am ho (f o.frm)
 have := h.fit o.id
 omega

theorem tot_put (b : Bk) {f : Int} (hf : isSide f) (l : List Ent) (id : List Nat) : tot (b.put f l) id + b.has f id = tot b id + numOf (look l id) := by
 rw [tot_eq, tot_eq]
 rcases hf with rfl | rfl
 · show numOf (look l id) + numOf (look b.l1 id) + offSum b.offers id + numOf (look b.l0 id) = _
   omega
 · show numOf (look b.l0 id) + numOf (look l id) + offSum b.offers id + numOf (look b.l1 id) = _
   omega
theorem tot_off (b : Bk) (os : List Off) (id : List Nat) : tot { b with offers := os } id + offSum b.offers id = tot b id + offSum os id := by
 rw [tot_eq, tot_eq]
 show numOf (look b.l0 id) + numOf (look b.l1 id) + offSum os id + offSum b.offers id = _
 omega
theorem offSum_snoc (os : List Off) (o : Off) (id : List Nat) : offSum (os ++ [o]) id = offSum os id + if o.id = id then o.am else 0 := by
 unfold offSum
 rw [List.filter_append, List.map_append, List.sum_append]
 by_cases h : o.id = id
 · simp [h]
 · simp [h]
theorem offSum_erase (os : List Off) (i : Nat) (o : Off) (h : os[i]? = some o) (id : List Nat) : offSum (os.eraseIdx i) id + (if o.id = id then o.am else 0) = offSum os id := by
 induction os generalizing i with
 | nil => simp at h
 | cons p os ih =>
  cases i with
  | zero =>
   simp at h; subst h
   rw [List.eraseIdx_cons_zero]
   unfold offSum
   rw [List.filter_cons]
   by_cases e : p.id = id
   · simp [e]; omega
   · simp [e]
  | succ i =>
   rw [List.getElem?_cons_succ] at h
   have := ih i h
   rw [List.eraseIdx_cons_succ]
   unfold offSum at this ⊢
   rw [List.filter_cons, List.filter_cons]
   by_cases e : p.id = id
   · simp [e] at this ⊢; omega
   · simp [e] at this ⊢; omega
theorem has_side (b : Bk) (f : Int) (id : List Nat) : b.has f id = numOf (look (b.side f) id) := rfl

theorem fund_tot (b : Bk) (at_ : Int) (id : List Nat) (n : Nat) (x : List Nat) : tot (fundN b at_ id n) x = if fundE b at_ id n = 0 ∧ x = id then tot b x + n else tot b x := by
 unfold fundN
 by_cases he : fundE b at_ id n = 0
 · have ha : isSide at_ := by
     unfold fundE at he
     by_cases h1 : ¬ isSide at_ ∨ n = 0
     · rw [if_pos h1] at he; cases he
     · exact Decidable.of_not_not fun e => h1 (.inl e)
   have := tot_put b ha (addL (b.side at_) id n) x
   rw [num_addL] at this
   rw [if_pos he]
   have hs := has_side b at_ x
   by_cases hx : x = id
   · rw [if_pos hx] at this
     rw [if_pos ⟨he, hx⟩]
     rw [hx] at this hs ⊢
     omega
   · rw [if_neg hx] at this
     rw [if_neg (fun e => hx e.2)]
     omega
 · rw [if_neg he, if_neg (fun e => he e.1)]
theorem fundE_cases (b : Bk) (at_ : Int) (id : List Nat) (n : Nat) : (fundE b at_ id n = 0 ∧ isSide at_ ∧ 0 < n ∧ tot b id + n < 18446744073709551616) ∨ fundE b at_ id n ≠ 0 := by
 unfold fundE
 by_cases h1 : ¬ isSide at_ ∨ n = 0
 · rw [if_pos h1]; exact .inr (by decide)
 · rw [if_neg h1]
   by_cases h2 : (amounts b id).sum + n < 18446744073709551616
   · rw [if_pos h2]
     exact .inl ⟨rfl, Decidable.of_not_not fun e => h1 (.inl e), Nat.pos_of_ne_zero fun e => h1 (.inr e), h2⟩
   · rw [if_neg h2]; exact .inr (by decide)
theorem Tidy.put {b : Bk} (h : Tidy b) (f : Int) (l : List Ent) (hl : Neat l) (hfit : ∀ id, tot (b.put f l) id < 18446744073709551616) : Tidy (b.put f l) := by
 have ho := put_offers b f l
 refine ⟨?_, ?_, by rw [ho]; exact h.off, by rw [ho]; exact h.uniq, by rw [ho]; exact h.cnt, hfit⟩
 · unfold Bk.put; split
   · exact hl
   · exact h.n0
 · unfold Bk.put; split
   · exact h.n1
   · exact hl
theorem fund_tidy {b : Bk} (h : Tidy b) (at_ : Int) (id : List Nat) (n : Nat) : Tidy (fundN b at_ id n) := by
 rcases fundE_cases b at_ id n with ⟨he, ha, hn, hs⟩ | he
 · have hl : Neat (addL (b.side at_) id n) := (h.side at_).add id n hn (by
     have := has_side b at_ id
     have := tot_has b id
     have : b.has at_ id ≤ b.has 0 id + b.has 1 id := by rcases ha with rfl | rfl <;> omega
     omega)
   have hft := fund_tot b at_ id n
   unfold fundN at hft ⊢
   rw [if_pos he] at hft ⊢
   refine h.put at_ _ hl fun x => ?_
   rw [hft]
   have := h.fit x
   split
   · rename_i hx; rw [hx.2]; exact hs
   · exact this
 · unfold fundN; rw [if_neg he]; exact h

theorem findI_neg {os : List Off} {f n : Int} (h : findI os f n < 0) : ∀ o ∈ os, ¬ (o.frm = f ∧ o.no = n) := by
 induction os with
 | nil => intro o ho; cases ho
 | cons p os ih =>
  unfold findI at h
  by_cases hp : p.frm = f ∧ p.no = n
  · rw [if_pos hp] at h; exact absurd h (by decide)
  · rw [if_neg hp] at h
    by_cases hq : findI os f n < 0
    · intro o ho
      rcases List.mem_cons.1 ho with e | e
      · rw [e]; exact hp
      · exact ih hq o e
    · rw [if_neg hq] at h; omega
theorem findI_hit {os : List Off} {f n : Int} {k : Nat} (h : findI os f n = k) : ∃ o, os[k]? = some o ∧ o.frm = f ∧ o.no = n := by
 induction os generalizing k with
 | nil => unfold findI at h; omega
 | cons p os ih =>
  unfold findI at h
  by_cases hp : p.frm = f ∧ p.no = n
  · rw [if_pos hp] at h
    obtain rfl : k = 0 := by omega
    exact ⟨p, rfl, hp⟩
  · rw [if_neg hp] at h
    by_cases hq : findI os f n < 0
    · rw [if_pos hq] at h; omega
    · rw [if_neg hq] at h
      obtain ⟨k, rfl⟩ : ∃ j, k = j + 1 := ⟨k - 1, by omega⟩
      rw [List.getElem?_cons_succ]
      exact ih (by omega)
theorem offE_cases (b : Bk) (o : Off) : (offE b o = 0 ∧ o.fair ∧ findI b.offers o.frm o.no < 0 ∧ cntF b.offers o.frm < 30 ∧ o.am ≤ b.has o.frm o.id) ∨ offE b o ≠ 0 := by
 unfold offE
 by_cases hf : o.fair
 · rw [if_pos hf]
   unfold offerE
   by_cases h1 : 0 ≤ findI b.offers o.frm o.no
   · rw [if_pos h1]; exact .inr (by decide)
   · rw [if_neg h1]
     by_cases h2 : 30 ≤ cntF b.offers o.frm
     · rw [if_pos h2]; exact .inr (by decide)
     · rw [if_neg h2]
       split
       · exact .inr (by decide)
       · rename_i h3
         refine .inl ⟨rfl, hf, by omega, by omega, ?_⟩
         rcases Nat.lt_or_ge (b.has o.frm o.id) o.am with e | e
         · exact absurd (.inl e) h3
         · exact e
 · rw [if_neg hf]; exact .inr (by decide)
theorem offer_tot {b : Bk} (h : Tidy b) (o : Off) (x : List Nat) : tot (offN b o) x = tot b x := by
 rcases offE_cases b o with ⟨he, hf, _, _, hle⟩ | he
 · unfold offN; rw [if_pos he]
   have h1 : tot (offerB b o) x + offSum (b.put o.frm (setL (b.side o.frm) o.id (b.has o.frm o.id - o.am))).offers x = tot (b.put o.frm (setL (b.side o.frm) o.id (b.has o.frm o.id - o.am))) x + offSum (b.offers ++ [o]) x := tot_off (b.put o.frm (setL (b.side o.frm) o.id (b.has o.frm o.id - o.am))) (b.offers ++ [o]) x
   have h2 := tot_put b hf.1 (setL (b.side o.frm) o.id (b.has o.frm o.id - o.am)) x
   rw [put_offers, offSum_snoc] at h1
   rw [num_setL _ _ _ _ (h.side o.frm).nodup] at h2
   have hs := has_side b o.frm x
   by_cases hx : x = o.id
   · rw [if_pos hx] at h2
     rw [if_pos hx.symm] at h1
     subst hx
     omega
   · rw [if_neg hx] at h2
     rw [if_neg (fun e => hx e.symm)] at h1
     omega
 · unfold offN; rw [if_neg he]
theorem cntF_snoc (os : List Off) (o : Off) (f : Int) : cntF (os ++ [o]) f = cntF os f + if o.frm = f then 1 else 0 := by
 unfold cntF
 rw [List.filter_append, List.length_append]
 by_cases h : o.frm = f
 · simp [h]
 · simp [h]
theorem uniq_snoc {os : List Off} {o : Off} (h : Uniq os) (hn : findI os o.frm o.no < 0) : Uniq (os ++ [o]) := by
 have hno := findI_neg hn
 intro i j p q hi hj hf hn
 rcases Nat.lt_or_ge i os.length with h1 | h1 <;> rcases Nat.lt_or_ge j os.length with h2 | h2
 · rw [List.getElem?_append_left h1] at hi
   rw [List.getElem?_append_left h2] at hj
   exact h i j p q hi hj hf hn
 · rw [List.getElem?_append_left h1] at hi
   rw [List.getElem?_append_right h2, List.getElem?_singleton] at hj
   split at hj
   · injection hj with hj; subst hj
     exact absurd ⟨hf, hn⟩ (hno p (List.mem_of_getElem? hi))
   · cases hj
 · rw [List.getElem?_append_right h1, List.getElem?_singleton] at hi
   rw [List.getElem?_append_left h2] at hj
   split at hi
   · injection hi with hi; subst hi
     exact absurd ⟨hf.symm, hn.symm⟩ (hno q (List.mem_of_getElem? hj))
   · cases hi
 · rw [List.getElem?_append_right h1, List.getElem?_singleton] at hi
   rw [List.getElem?_append_right h2, List.getElem?_singleton] at hj
   split at hi
   · split at hj
     · omega
     · cases hj
   · cases hi
theorem offer_tidy {b : Bk} (h : Tidy b) (o : Off) (ho : o.ok) : Tidy (offN b o) := by
 have ht := offer_tot h o
 rcases offE_cases b o with ⟨he, hf, hn, hc, hle⟩ | he
 · unfold offN at ht ⊢; rw [if_pos he] at ht ⊢
   have hlt : b.has o.frm o.id < 18446744073709551616 := look_low (h.side o.frm).nums o.id
   have hl : Neat (setL (b.side o.frm) o.id (b.has o.frm o.id - o.am)) := (h.side o.frm).set _ _ (by omega)
   refine ⟨?_, ?_, ?_, ?_, ?_, fun x => by rw [ht]; exact h.fit x⟩
   · unfold offerB Bk.put; dsimp only; split
     · exact hl
     · exact h.n0
   · unfold offerB Bk.put; dsimp only; split
     · exact h.n1
     · exact hl
   · intro p hp
     rcases List.mem_append.1 hp with e | e
     · exact h.off p e
     · rw [List.mem_singleton.1 e]; exact ⟨ho, hf⟩
   · exact uniq_snoc h.uniq hn
   · intro f
     show cntF (b.offers ++ [o]) f ≤ 30
     rw [cntF_snoc]
     have := h.cnt f
     split
     · rename_i e; rw [e] at hc; omega
     · omega
 · unfold offN; rw [if_neg he]; exact h

theorem give_tot (b : Bk) (i : Nat) (o : Off) (hi : b.offers[i]? = some o) {f : Int} (hf : isSide f) (x : List Nat) : tot (giveB b i f o) x = tot b x := by
 have h1 : tot (giveB b i f o) x + offSum (b.put f (addL (b.side f) o.id o.am)).offers x = tot (b.put f (addL (b.side f) o.id o.am)) x + offSum (b.offers.eraseIdx i) x := tot_off (b.put f (addL (b.side f) o.id o.am)) (b.offers.eraseIdx i) x
 have h2 := tot_put b hf (addL (b.side f) o.id o.am) x
 have h3 := offSum_erase b.offers i o hi x
 rw [put_offers] at h1
 rw [num_addL] at h2
 have hs := has_side b f x
 by_cases hx : x = o.id
 · rw [if_pos hx] at h2
   rw [if_pos hx.symm] at h3
   subst hx
   omega
 · rw [if_neg hx] at h2
   rw [if_neg (fun e => hx e.symm)] at h3
   omega
theorem erase_get (os : List Off) (k i : Nat) (o : Off) (h : (os.eraseIdx k)[i]? = some o) : os[if i < k then i else i + 1]? = some o := by
 rw [List.getElem?_eraseIdx] at h
 split
 · rename_i h1; rw [if_pos h1] at h; exact h
 · rename_i h1; rw [if_neg h1] at h; exact h
theorem cntF_erase (os : List Off) (i : Nat) (f : Int) : cntF (os.eraseIdx i) f ≤ cntF os f := by
 unfold cntF
 exact ((List.eraseIdx_sublist os i).filter _).length_le
theorem give_tidy {b : Bk} (h : Tidy b) (i : Nat) (o : Off) (hi : b.offers[i]? = some o) {f : Int} (hf : isSide f) : Tidy (giveB b i f o) := by
 have ht := give_tot b i o hi hf
 have hm := List.mem_of_getElem? hi
 have hl : Neat (addL (b.side f) o.id o.am) := (h.side f).add _ _ (h.off o hm).2.2.2.1 (by
   have := has_am hm f
   have := has_side b f o.id
   have := h.fit o.id
   omega)
 refine ⟨?_, ?_, ?_, ?_, ?_, fun x => by rw [ht]; exact h.fit x⟩
 · unfold giveB Bk.put; dsimp only; split
   · exact hl
   · exact h.n0
 · unfold giveB Bk.put; dsimp only; split
   · exact h.n1
   · exact hl
 · exact fun p hp => h.off p (List.mem_of_mem_eraseIdx hp)
 · intro j k p q hj hk hf hn
   have := h.uniq _ _ p q (erase_get _ _ _ _ hj) (erase_get _ _ _ _ hk) hf hn
   split at this <;> split at this <;> omega
 · exact fun f => Nat.le_trans (cntF_erase _ _ f) (h.cnt f)
theorem back_tidy {b : Bk} (h : Tidy b) (f n : Int) : Tidy (backN b f n) ∧ ∀ x, tot (backN b f n) x = tot b x := by
 unfold backN
 rcases find_cases b.offers f n with hf | ⟨k, o, hk, hf⟩
 · rw [hf, if_pos (by decide)]; exact ⟨h, fun _ => rfl⟩
 · have hat : b.at k = o := by unfold Bk.at; rw [Int.toNat_natCast, List.getD_eq_getElem?_getD, hk]; rfl
   rw [hf, if_neg (by omega), hat, Int.toNat_natCast]
   have hs := h.sides o (List.mem_of_getElem? hk)
   exact ⟨give_tidy h k o hk hs, give_tot b k o hk hs⟩
theorem settle_tidy {b : Bk} (h : Tidy b) (K s0 : List Wd) (f n : Int) (sec : List Nat) : Tidy (settleN K s0 b f n sec) ∧ ∀ x, tot (settleN K s0 b f n sec) x = tot b x := by
 unfold settleN
 by_cases he : settleE K s0 b f n sec = 0
 · rw [if_pos he]
   rcases find_cases b.offers f n with hf | ⟨k, o, hk, hf⟩
   · unfold settleE at he; rw [hf] at he; cases he
   · have hat : b.at k = o := by unfold Bk.at; rw [Int.toNat_natCast, List.getD_eq_getElem?_getD, hk]; rfl
     rw [hf, hat, Int.toNat_natCast]
     have hs : isSide (1 - o.frm) := by
      rcases h.sides o (List.mem_of_getElem? hk) with e | e
      · rw [e]; exact .inr rfl
      · rw [e]; exact .inl rfl
     exact ⟨give_tidy h k o hk hs, give_tot b k o hk hs⟩
 · rw [if_neg he]; exact ⟨h, fun _ => rfl⟩
theorem new_tidy (k0 k1 : Nat) : Tidy ⟨[], [], [], k0, k1⟩ := ⟨neat_nil, neat_nil, fun o ho => (by cases ho), fun i j o p hi => (by simp at hi), fun f => Nat.zero_le _, fun id => (by decide : (0 : Nat) < 18446744073709551616)⟩
end Go.Proofs.YtcekammjpghjnaaDoor

