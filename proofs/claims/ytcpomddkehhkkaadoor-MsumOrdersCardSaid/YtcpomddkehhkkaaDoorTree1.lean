/- Trees of amounts at keys: sorted keys part a list as bits part a tree; what is put and dropped; what stands beside a way. -/
import Derived.Test.YtcpomddkehhkkaaDoorTree0
namespace Go.Proofs.YtcpomddkehhkkaaDoor
set_option linter.unusedVariables false
set_option linter.unusedSimpArgs false
open Go.ChangeShapes Go.WideShapes Go.ChangeAt Go.RowKit

def Sorted (ks : List (List Nat)) : Prop := ks.Pairwise fun a b => lexC a b < 0
theorem sorted_mono {ks : List (List Nat)} (hs : Sorted ks) (hk : ∀ k ∈ ks, IsHash k) {h : Nat} (hh : h < 256) (hc : Coh ks (h + 1)) {i j : Nat} {a b : List Nat} (hi : ks[i]? = some a) (hj : ks[j]? = some b) (hij : i < j) : bitAt a h ≤ bitAt b h := by
  have ha := List.mem_of_getElem? hi
  have hb := List.mem_of_getElem? hj
  obtain ⟨hi1, hi2⟩ := List.getElem?_eq_some_iff.1 hi
  obtain ⟨hj1, hj2⟩ := List.getElem?_eq_some_iff.1 hj
  have := List.pairwise_iff_getElem.1 hs i j hi1 hj1 hij
  rw [hi2, hj2] at this
  exact lex_bit (hk a ha) (hk b hb) h hh (fun j h1 h2 => hc a ha b hb j h1 h2) this
/-- where the keys part. -/
theorem split_at {ks : List (List Nat)} {h i : Nat} (h0 : ∀ (j : Nat) k, j < i → ks[j]? = some k → bitAt k h = 0) (h1 : ∀ (j : Nat) k, i ≤ j → ks[j]? = some k → bitAt k h = 1) :
    (ks.filter fun k => bitAt k h = 0) = ks.take i ∧ (ks.filter fun k => bitAt k h = 1) = ks.drop i := by
  have e : ks = ks.take i ++ ks.drop i := (List.take_append_drop i ks).symm
  have a0 : ∀ k ∈ ks.take i, bitAt k h = 0 := fun k hk => by
    obtain ⟨j, hj⟩ := List.getElem?_of_mem hk
    have hlt : j < i := by
      refine Nat.lt_of_not_le fun hc => ?_
      rw [List.getElem?_eq_none (by rw [List.length_take]; omega)] at hj
      cases hj
    rw [List.getElem?_take_of_lt hlt] at hj
    exact h0 j k hlt hj
  have a1 : ∀ k ∈ ks.drop i, bitAt k h = 1 := fun k hk => by
    obtain ⟨j, hj⟩ := List.getElem?_of_mem hk
    rw [List.getElem?_drop] at hj
    exact h1 (i + j) k (by omega) hj
  constructor
  · conv => lhs; rw [e]
    rw [List.filter_append, List.filter_eq_self.2 (fun k hk => by simp [a0 k hk]), List.filter_eq_nil_iff.2 (fun k hk => by simp [a1 k hk]), List.append_nil]
  · conv => lhs; rw [e]
    rw [List.filter_append, List.filter_eq_nil_iff.2 (fun k hk => by simp [a0 k hk]), List.filter_eq_self.2 (fun k hk => by simp [a1 k hk]), List.nil_append]
/-- the leaves at keys: L tells the leaf at each. -/
theorem side_map {L : List Nat → Lf} {ks : List (List Nat)} (hL : ∀ k ∈ ks, (L k).k = k) (h b : Nat) : side (ks.map L) h b = (ks.filter fun k => bitAt k h = b).map L := by
  unfold side
  rw [List.filter_map]
  congr 1
  refine List.filter_congr fun k hk => ?_
  show decide (bitAt (L k).k h = b) = _
  rw [hL k hk]

def findT : List Lf → List Nat → Option Lf
  | [], _ => none
  | t :: T, k => if t.k = k then some t else findT T k
def putT : List Lf → Lf → List Lf
  | [], l => [l]
  | t :: T, l => if t.k = l.k then l :: T else t :: putT T l
def dropT : List Lf → List Nat → List Lf
  | [], _ => []
  | t :: T, k => if t.k = k then T else t :: dropT T k
theorem find_key {T : List Lf} {k : List Nat} {l : Lf} (h : findT T k = some l) : l.k = k ∧ l ∈ T := by
  induction T with
  | nil => cases h
  | cons t T ih =>
    unfold findT at h
    split at h
    · next e => injection h with h; subst h; exact ⟨e, by simp⟩
    · exact ⟨(ih h).1, List.mem_cons_of_mem _ (ih h).2⟩
theorem find_none {T : List Lf} {k : List Nat} (h : findT T k = none) : ∀ t ∈ T, t.k ≠ k := by
  induction T with
  | nil => intro t ht; cases ht
  | cons t T ih =>
    unfold findT at h
    split at h
    · cases h
    · next e =>
      intro u hu
      rcases List.mem_cons.1 hu with rfl | hu
      · exact e
      · exact ih h u hu
theorem find_mem {T : List Lf} (hn : (T.map (·.k)).Nodup) {t : Lf} (ht : t ∈ T) : findT T t.k = some t := by
  induction T with
  | nil => cases ht
  | cons u T ih =>
    rw [List.map_cons, List.nodup_cons] at hn
    unfold findT
    rcases List.mem_cons.1 ht with rfl | ht
    · rw [if_pos rfl]
    · rw [if_neg (fun e => hn.1 (by rw [e]; exact List.mem_map.2 ⟨t, ht, rfl⟩))]
      exact ih hn.2 ht
theorem put_new {T : List Lf} {l : Lf} (h : findT T l.k = none) : putT T l = T ++ [l] := by
  induction T with
  | nil => rfl
  | cons t T ih =>
    unfold findT at h
    split at h
    · cases h
    · next e => unfold putT; rw [if_neg e, ih h]; rfl
theorem put_keys {T : List Lf} {l o : Lf} (h : findT T l.k = some o) : (putT T l).map (·.k) = T.map (·.k) := by
  induction T with
  | nil => cases h
  | cons t T ih =>
    unfold findT at h
    unfold putT
    split at h
    · next e => rw [if_pos e]; simp [e]
    · next e => rw [if_neg e, List.map_cons, List.map_cons, ih h]
theorem put_find (T : List Lf) (l : Lf) (k : List Nat) : findT (putT T l) k = if l.k = k then some l else findT T k := by
  induction T with
  | nil => rfl
  | cons t T ih =>
    unfold putT
    split
    · next e =>
      unfold findT
      by_cases hk : l.k = k
      · rw [if_pos hk, if_pos hk]
      · rw [if_neg hk, if_neg hk, if_neg (by rw [e]; exact hk)]
    · next e =>
      unfold findT
      rw [ih]
      by_cases hk : l.k = k
      · rw [if_neg (by rw [← hk]; exact e), if_pos hk, if_pos hk]
      · rw [if_neg hk, if_neg hk]
theorem put_mem {T : List Lf} {l t : Lf} (h : t ∈ putT T l) : t = l ∨ t ∈ T := by
  induction T with
  | nil => exact .inl (List.mem_singleton.1 h)
  | cons u T ih =>
    unfold putT at h
    split at h
    · rcases List.mem_cons.1 h with h | h
      · exact .inl h
      · exact .inr (List.mem_cons_of_mem _ h)
    · rcases List.mem_cons.1 h with h | h
      · exact .inr (by rw [h]; simp)
      · rcases ih h with h | h
        · exact .inl h
        · exact .inr (List.mem_cons_of_mem _ h)
theorem drop_mem {T : List Lf} {k : List Nat} {t : Lf} (h : t ∈ dropT T k) : t ∈ T := by
  induction T with
  | nil => exact h
  | cons u T ih =>
    unfold dropT at h
    split at h
    · exact List.mem_cons_of_mem _ h
    · rcases List.mem_cons.1 h with h | h
      · rw [h]; simp
      · exact List.mem_cons_of_mem _ (ih h)
theorem Keyed.put {T : List Lf} (hk : Keyed (T.map (·.k))) {l : Lf} (hl : IsHash l.k) : Keyed ((putT T l).map (·.k)) := by
  cases h : findT T l.k with
  | none =>
    rw [put_new h, List.map_append]
    refine ⟨fun k hm => ?_, ?_⟩
    · rcases List.mem_append.1 hm with hm | hm
      · exact hk.hash k hm
      · rw [List.mem_singleton.1 hm]; exact hl
    · refine List.nodup_append.2 ⟨hk.nodup, by simp, fun a ha b hb e => ?_⟩
      rw [List.mem_singleton.1 hb] at e
      obtain ⟨t, ht, he⟩ := List.mem_map.1 ha
      exact find_none h t ht (he.trans e)
  | some o => rw [put_keys h]; exact hk
theorem drop_sub (T : List Lf) (k : List Nat) : (dropT T k).Sublist T := by
  induction T with
  | nil => exact List.Sublist.refl _
  | cons t T ih =>
    unfold dropT
    split
    · exact List.sublist_cons_self t T
    · exact ih.cons_cons t
theorem Keyed.drop {T : List Lf} (hk : Keyed (T.map (·.k))) (k : List Nat) : Keyed ((dropT T k).map (·.k)) :=
  ⟨fun x hx => by
    obtain ⟨t, ht, rfl⟩ := List.mem_map.1 hx
    exact hk.hash _ (List.mem_map.2 ⟨t, drop_mem ht, rfl⟩),
   List.Nodup.sublist ((drop_sub T k).map _) hk.nodup⟩
def wasS (T : List Lf) (k : List Nat) : Nat := match findT T k with | some l => l.s | none => 0
theorem sum_put (T : List Lf) (l : Lf) : sumT (putT T l) + wasS T l.k = sumT T + l.s := by
  induction T with
  | nil => simp [putT, wasS, findT, sumT]
  | cons t T ih =>
    unfold putT wasS findT
    by_cases e : t.k = l.k
    · rw [if_pos e, if_pos e]
      unfold sumT
      simp only [List.map_cons, List.sum_cons]; omega
    · rw [if_neg e, if_neg e]
      unfold wasS at ih
      unfold sumT at ih ⊢
      simp only [List.map_cons, List.sum_cons]; omega
theorem was_le (T : List Lf) (k : List Nat) : wasS T k ≤ sumT T := by
  induction T with
  | nil => exact Nat.le_refl _
  | cons t T ih =>
    unfold wasS findT
    by_cases e : t.k = k
    · rw [if_pos e]
      unfold sumT
      simp only [List.map_cons, List.sum_cons]; omega
    · rw [if_neg e]
      unfold wasS at ih
      unfold sumT at ih ⊢
      simp only [List.map_cons, List.sum_cons]; omega
theorem sum_drop (T : List Lf) (k : List Nat) : sumT (dropT T k) + wasS T k = sumT T := by
  induction T with
  | nil => rfl
  | cons t T ih =>
    unfold dropT wasS findT
    by_cases e : t.k = k
    · rw [if_pos e, if_pos e]
      unfold sumT
      simp only [List.map_cons, List.sum_cons]; omega
    · rw [if_neg e, if_neg e]
      unfold wasS at ih
      unfold sumT at ih ⊢
      simp only [List.map_cons, List.sum_cons]; omega
theorem drop_none {T : List Lf} {k : List Nat} (h : findT T k = none) : dropT T k = T := by
  induction T with
  | nil => rfl
  | cons t T ih =>
    unfold findT at h
    split at h
    · cases h
    · next e => unfold dropT; rw [if_neg e, ih h]
theorem drop_find {T : List Lf} (hn : (T.map (·.k)).Nodup) (k k' : List Nat) : findT (dropT T k) k' = if k = k' then none else findT T k' := by
  induction T with
  | nil => unfold dropT findT; split <;> rfl
  | cons t T ih =>
    rw [List.map_cons, List.nodup_cons] at hn
    unfold dropT
    by_cases e : t.k = k
    · rw [if_pos e]
      by_cases hk : k = k'
      · rw [if_pos hk]
        cases hf : findT T k' with
        | none => rfl
        | some l =>
          exact absurd (List.mem_map.2 ⟨l, (find_key hf).2, ((find_key hf).1.trans hk.symm).trans e.symm⟩) hn.1
      · rw [if_neg hk]
        conv => rhs; unfold findT
        rw [if_neg (by rw [e]; exact hk)]
    · rw [if_neg e]
      unfold findT
      rw [ih hn.2]
      by_cases hk : k = k'
      · rw [if_neg (by rw [← hk]; exact e), if_pos hk, if_pos hk]
      · rw [if_neg hk, if_neg hk]
/-- what was put anew in its old place, or dropped, leaves all as it was. -/
theorem put_back {T : List Lf} {l o : Lf} (h : findT T l.k = some o) : putT (putT T l) o = T := by
  have hok := (find_key h).1
  induction T with
  | nil => cases h
  | cons t T ih =>
    unfold findT at h
    conv => lhs; arg 1; unfold putT
    split at h
    · next e =>
      injection h with h
      subst h
      rw [if_pos e]
      unfold putT
      rw [if_pos hok.symm]
    · next e =>
      rw [if_neg e]
      unfold putT
      rw [if_neg (by rw [hok]; exact e), ih h]
theorem drop_put {T : List Lf} {l : Lf} (h : findT T l.k = none) : dropT (putT T l) l.k = T := by
  rw [put_new h]
  induction T with
  | nil => show dropT [l] l.k = []; unfold dropT; rw [if_pos rfl]
  | cons t T ih =>
    unfold findT at h
    split at h
    · cases h
    · next e =>
      show dropT (t :: (T ++ [l])) l.k = _
      unfold dropT
      rw [if_neg e, ih h]
theorem put_len (T : List Lf) (l : Lf) : (putT T l).length = if findT T l.k = none then T.length + 1 else T.length := by
  cases h : findT T l.k with
  | none => rw [put_new h, if_pos rfl]; simp
  | some o =>
    have := congrArg List.length (put_keys h)
    rw [List.length_map, List.length_map] at this
    rw [if_neg (by simp), this]
/-- two trees in which the same stands. -/
theorem same_perm {T U : List Lf} (hT : (T.map (·.k)).Nodup) (hU : (U.map (·.k)).Nodup) (h : ∀ k, findT T k = findT U k) : T.Perm U := by
  have nd : ∀ {V : List Lf}, (V.map (·.k)).Nodup → V.Nodup := fun h => (List.pairwise_map.1 h).imp fun hne e => hne (by rw [e])
  refine (List.perm_ext_iff_of_nodup (nd hT) (nd hU)).2 fun t => ⟨fun ht => ?_, fun ht => ?_⟩
  · have := find_mem hT ht
    rw [h] at this
    exact (find_key this).2
  · have := find_mem hU ht
    rw [← h] at this
    exact (find_key this).2
end Go.Proofs.YtcpomddkehhkkaaDoor
