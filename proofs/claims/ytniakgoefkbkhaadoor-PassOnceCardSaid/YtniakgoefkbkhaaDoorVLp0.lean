/- The plain law of leaves: the tree of a transfer is its leaves, each at its own place. -/
import Derived.Test.YtniakgoefkbkhaaDoorWs
import Derived.Test.YtniakgoefkbkhaaDoorVLf4
import Derived.Test.YtniakgoefkbkhaaDoorVKs
namespace Go.Proofs.YtniakgoefkbkhaaDoor
set_option linter.unusedVariables false
set_option linter.unusedSimpArgs false

theorem place_first : ∀ i : Fin 8, (placeK KS SS i.val).getD 0 0 = [216, 118, 61, 40, 43, 137, 243, 66].getD i.val 0 := by decide +kernel
theorem place_ne (i j : Nat) (hi : i < 8) (hj : j < 8) (h : placeK KS SS i = placeK KS SS j) : i = j := by
 have h1 := place_first ⟨i, hi⟩
 have h2 := place_first ⟨j, hj⟩
 rw [show (⟨i, hi⟩ : Fin 8).val = i from rfl, h, h2] at h1
 have : ∀ a b : Fin 8, [216, 118, 61, 40, 43, 137, 243, 66].getD a.val 0 = [216, 118, 61, 40, 43, 137, 243, 66].getD b.val 0 → a = b := by decide
 exact (congrArg Fin.val (this ⟨j, hj⟩ ⟨i, hi⟩ h1)).symm
def partsT (K s0 : List Wd) (ls : List LeafT) : List Lf := ls.mapIdx (partL K s0)
def amS (ls : List LeafT) : Nat := (ls.map (·.am)).sum
theorem amS_app (a b : List LeafT) : amS (a ++ b) = amS a + amS b := by simp [amS]
theorem parts_sum (K s0 : List Wd) (ls : List LeafT) : sumT (partsT K s0 ls) = amS ls := by
 unfold sumT partsT amS
 congr 1
 apply List.ext_getElem?
 intro i
 simp only [List.getElem?_map, List.getElem?_mapIdx]
 cases ls[i]? <;> rfl
theorem find_new {T : List Lf} {k : List Nat} (h : ∀ t ∈ T, t.k ≠ k) : findT T k = none := by
 cases e : findT T k with
 | none => rfl
 | some l => exact absurd (find_key e).1 (h l (find_key e).2)
theorem parts_take (K s0 : List Wd) (ls : List LeafT) (k : Nat) (l : LeafT) (h : ls[k]? = some l) : partsT K s0 (ls.take (k + 1)) = partsT K s0 (ls.take k) ++ [partL K s0 k l] := by
 have hk := (List.getElem?_eq_some_iff.1 h).1
 unfold partsT
 rw [List.take_add_one, h, List.mapIdx_append]
 simp [List.length_take, Nat.min_eq_left (Nat.le_of_lt hk)]
theorem parts_key {ls : List LeafT} {k : Nat} (hk : k < 8) : ∀ t ∈ partsT KS SS (ls.take k), t.k ≠ placeK KS SS k := by
 intro t ht e
 obtain ⟨i, hi⟩ := List.getElem?_of_mem ht
 have hil := (List.getElem?_eq_some_iff.1 hi).1
 simp only [partsT, List.length_mapIdx, List.length_take] at hil
 unfold partsT at hi
 rw [List.getElem?_mapIdx] at hi
 cases h : (ls.take k)[i]? with
 | none => rw [h] at hi; cases hi
 | some l =>
  rw [h] at hi
  injection hi with hi
  rw [← hi] at e
  have := place_ne i k (by omega) hk e
  omega
theorem putE_part {ls : List LeafT} {k : Nat} {l : LeafT} (hl : l.ok) (hk : k < 8) : putE (partsT KS SS (ls.take k)) (partL KS SS k l) = if amS (ls.take k) + l.am < 18446744073709551616 then 0 else 10 := by
 have h64 : (partL KS SS k l).v.length = 64 := by show (l.id ++ l.ow).length = 64; rw [List.length_append, hl.id.1, hl.ow.1]
 have hf : findT (partsT KS SS (ls.take k)) (partL KS SS k l).k = none := find_new (parts_key hk)
 have hlen : (partsT KS SS (ls.take k)).length ≤ k := by simp [partsT]; omega
 have hw : wasS (partsT KS SS (ls.take k)) (partL KS SS k l).k = 0 := by unfold wasS; rw [hf]
 unfold putE
 rw [h64, if_neg (by omega), if_neg (by omega), if_neg (by rintro ⟨_, h⟩; omega), hw, parts_sum]
 rfl
theorem tlStep_at {ls : List LeafT} {k : Nat} {l : LeafT} (hl : l.ok) (hk : k < 8) (h : ls[k]? = some l) : tlStep KS SS k l (partsT KS SS (ls.take k)) =
   if l.pl ≠ (k : Int) ∨ l.am = 0 then .error 22 else if amS (ls.take k) + l.am < 18446744073709551616 then .ok (partsT KS SS (ls.take (k + 1))) else .error 10 := by
 unfold tlStep
 rw [putE_part hl hk]
 by_cases h1 : l.pl ≠ (k : Int) ∨ l.am = 0
 · rw [if_pos h1, if_pos h1]
 · rw [if_neg h1, if_neg h1]
   by_cases h2 : amS (ls.take k) + l.am < 18446744073709551616
   · rw [if_pos h2, if_pos rfl, if_pos h2]
     have he := putE_part (ls := ls) hl hk
     rw [if_pos h2] at he
     rw [putN, if_pos he, put_new (find_new (parts_key hk)), parts_take KS SS ls k l h]
   · rw [if_neg h2, if_neg (by decide), if_neg h2]
theorem tl_ok {ls : List LeafT} (hok : ∀ l ∈ ls, l.ok) : ∀ (k : Nat), k ≤ 8 → k ≤ ls.length → ∀ T, tlAt KS SS ls k = .ok T → T = partsT KS SS (ls.take k) ∧ amS (ls.take k) < 18446744073709551616 ∧ ∀ (i : Nat) l, i < k → ls[i]? = some l → l.pl = (i : Int) ∧ l.am ≠ 0
 | 0, _, _, T, h => by
  injection h with h
  subst h
  exact ⟨rfl, by simp [amS], fun i l hi => absurd hi (Nat.not_lt_zero i)⟩
 | k + 1, hk, hl, T, h => by
  cases e : tlAt KS SS ls k with
  | error x => rw [tlAt_err e (k + 1) (Nat.le_succ k)] at h; cases h
  | ok T0 =>
   obtain ⟨h1, h2, h3⟩ := tl_ok hok k (by omega) (by omega) T0 e
   obtain ⟨l, hlk⟩ : ∃ l, ls[k]? = some l := ⟨_, List.getElem?_eq_getElem (by omega)⟩
   have hlo := hok l (List.mem_of_getElem? hlk)
   rw [tlAt_succ e hlk, h1, tlStep_at hlo (by omega) hlk] at h
   split at h
   · cases h
   · rename_i h4
     split at h
     · rename_i h5
       injection h with h
       refine ⟨h.symm, ?_, fun i l' hi hl' => ?_⟩
       · rw [amS, List.take_add_one, hlk]
         simpa [amS] using h5
       · rcases Nat.lt_succ_iff_lt_or_eq.1 hi with q | q
         · exact h3 i l' q hl'
         · subst q
           rw [hlk] at hl'
           injection hl' with hl'
           subst hl'
           exact ⟨Decidable.byContradiction fun q => h4 (.inl q), fun q => h4 (.inr q)⟩
     · cases h
theorem tl_makes {ls : List LeafT} (hok : ∀ l ∈ ls, l.ok) (hp : ∀ (i : Nat) l, ls[i]? = some l → l.pl = (i : Int) ∧ l.am ≠ 0) (hs : amS ls < 18446744073709551616) : ∀ (k : Nat), k ≤ 8 → k ≤ ls.length → tlAt KS SS ls k = .ok (partsT KS SS (ls.take k))
 | 0, _, _ => rfl
 | k + 1, hk, hl => by
  have e := tl_makes hok hp hs k (by omega) (by omega)
  obtain ⟨l, hlk⟩ : ∃ l, ls[k]? = some l := ⟨_, List.getElem?_eq_getElem (by omega)⟩
  obtain ⟨q1, q2⟩ := hp k l hlk
  have hle : amS (ls.take k) + l.am ≤ amS ls := by
   have h1 : amS ls = amS (ls.take (k + 1)) + amS (ls.drop (k + 1)) := by
    rw [← amS_app, List.take_append_drop]
   rw [h1, show amS (ls.take (k + 1)) = amS (ls.take k) + l.am by rw [amS, List.take_add_one, hlk]; simp [amS]]
   exact Nat.le_add_right _ _
  rw [tlAt_succ e hlk, tlStep_at (hok l (List.mem_of_getElem? hlk)) (by omega) hlk, if_neg (by rintro (h | h) <;> contradiction), if_pos (by omega)]
theorem tl_split {K s0 : List Wd} (r : Nd) (ls : List LeafT) : ∀ k, tlAt K s0 (splitL r ls) k = tlAt K s0 ls k
 | 0 => rfl
 | k + 1 => by
  have ih := tl_split (K := K) (s0 := s0) r ls k
  cases e : tlAt K s0 ls k with
  | error x => rw [tlAt_err e (k + 1) (Nat.le_succ k), tlAt_err (ih.trans e) (k + 1) (Nat.le_succ k)]
  | ok T =>
   cases hl : ls[k]? with
   | none =>
    have h2 : (splitL r ls)[k]? = none := by rw [List.getElem?_eq_none_iff, splitL, turnTo_len]; exact List.getElem?_eq_none_iff.1 hl
    unfold tlAt
    rw [ih, e]
    simp only [hl, h2]
   | some l =>
    have h2 : (splitL r ls)[k]? = some (spF r k l) := by rw [splitL, turnTo_get _ _ _ k l hl, if_pos (List.getElem?_eq_some_iff.1 hl).1]
    rw [tlAt_succ e hl, tlAt_succ (ih.trans e) h2]
    rfl
theorem placed_get {ls : List LeafT} {i : Nat} {l : LeafT} (h : ls[i]? = some l) : (placed ls)[i]? = some (plF i l) := by
 rw [placed, turnTo_get _ _ _ i l h, if_pos (List.getElem?_eq_some_iff.1 h).1]
theorem split_get {r : Nd} {ls : List LeafT} {i : Nat} {l : LeafT} (h : ls[i]? = some l) : (splitL r ls)[i]? = some (spF r i l) := by
 rw [splitL, turnTo_get _ _ _ i l h, if_pos (List.getElem?_eq_some_iff.1 h).1]
theorem placed_len (ls : List LeafT) : (placed ls).length = ls.length := turnTo_len ..
theorem split_len (r : Nd) (ls : List LeafT) : (splitL r ls).length = ls.length := turnTo_len ..
theorem placed_ok {ls : List LeafT} (h : ∀ l ∈ ls, l.ok) (hn : ls.length ≤ 256) : ∀ l ∈ placed ls, l.ok := turnTo_ok plF _ ls LeafT.ok h (fun i x hi hx => plF_ok hx i (by omega))
theorem split_ok {r : Nd} (hr : IsHash r.h) (hs : r.s < 18446744073709551616) {ls : List LeafT} (h : ∀ l ∈ ls, l.ok) : ∀ l ∈ splitL r ls, l.ok := turnTo_ok (spF r) _ ls LeafT.ok h (fun i x hi hx => spF_ok hx r hr hs i)
theorem parts_keyed {ls : List LeafT} (hn : ls.length ≤ 8) : Keyed ((partsT KS SS ls).map (·.k)) := by
 refine ⟨fun k hk => ?_, ?_⟩
 · obtain ⟨t, ht, rfl⟩ := List.mem_map.1 hk
   obtain ⟨i, hi⟩ := List.getElem?_of_mem ht
   unfold partsT at hi
   rw [List.getElem?_mapIdx] at hi
   cases h : ls[i]? with
   | none => rw [h] at hi; cases hi
   | some l =>
    rw [h] at hi
    injection hi with hi
    rw [← hi]
    exact tagD_hash KS SS (by decide) plS [i]
 · rw [List.nodup_iff_pairwise_ne, List.pairwise_iff_getElem]
   intro i j hi hj hlt e
   simp only [List.length_map, partsT, List.length_mapIdx] at hi hj
   simp only [List.getElem_map, partsT, List.getElem_mapIdx] at e
   have := place_ne i j (by omega) (by omega) e
   omega
end Go.Proofs.YtniakgoefkbkhaaDoor

