/- The plain law of leaves: the tree of a transfer is its leaves, each at its own place. -/
import Derived.Test.YtknfbccbdiidjaaGreatDoorWs
import Derived.Test.YtknfbccbdiidjaaGreatDoorULf4
import Derived.Test.YtknfbccbdiidjaaGreatDoorUKs
import Derived.Test.YtknfbccbdiidjaaGreatDoorUFh
namespace Go.Proofs.YtknfbccbdiidjaaGreatDoor
set_option linter.unusedVariables false
set_option linter.unusedSimpArgs false

theorem place_first : ∀ i : Fin 8, (placeK KS SS i.val).getD 0 0 = [216, 118, 61, 40, 43, 137, 243, 66].getD i.val 0 := by decide +kernel
theorem place_ne (i j : Nat) (hi : i < 8) (hj : j < 8) (h : placeK KS SS i = placeK KS SS j) : i = j := by
 have h1 := place_first ⟨i, hi⟩
 have h2 := place_first ⟨j, hj⟩
 rw [show (⟨i, hi⟩ : Fin 8).val = i from rfl, h, h2] at h1
 have : ∀ a b : Fin 8, [216, 118, 61, 40, 43, 137, 243, 66].getD a.val 0 = [216, 118, 61, 40, 43, 137, 243, 66].getD b.val 0 → a = b := by decide
 exact (congrArg Fin.val (this ⟨j, hj⟩ ⟨i, hi⟩ h1)).symm
def partsT (K s0 : List Wd) (ls : List LeafT) : List Lf := ls.mapIdx (partL K s0)
def amS (ls : List LeafT) : Nat := (ls.map (·.am)).sum
theorem amS_app (a b : List LeafT) : amS (a ++ b) = amS a + amS b := by simp [amS]
theorem parts_sum (K s0 : List Wd) (ls : List LeafT) : sumT (partsT K s0 ls) = amS ls := by
 unfold sumT partsT amS
 congr 1
 apply List.ext_getElem?
 intro i
 simp only [List.getElem?_map, List.getElem?_mapIdx]
 cases ls[i]? <;> rfl
theorem find_new {T : List Lf} {k : List Nat} (h : ∀ t ∈ T, t.k ≠ k) : findT T k = none := by
 cases e : findT T k with
 | none => rfl
 | some l => exact absurd (find_key e).1 (h l (find_key e).2)
theorem parts_take (K s0 : List Wd) (ls : List LeafT) (k : Nat) (l : LeafT) (h : ls[k]? = some l) : partsT K s0 (ls.take (k + 1)) = partsT K s0 (ls.take k) ++ [partL K s0 k l] := by
 have hk := (List.getElem?_eq_some_iff.1 h).1
 unfold partsT
 rw [List.take_add_one, h, List.mapIdx_append]
 simp [List.length_take, Nat.min_eq_left (Nat.le_of_lt hk)]
theorem parts_key {ls : List LeafT} {k : Nat} (hk : k < 8) : ∀ t ∈ partsT KS SS (ls.take k), t.k ≠ placeK KS SS k := by
 intro t ht e
 obtain ⟨i, hi⟩ := List.getElem?_of_mem ht
 have hil := (List.getElem?_eq_some_iff.1 hi).1
 simp only [partsT, List.length_mapIdx, List.length_take] at hil
 unfold partsT at hi
 rw [List.getElem?_mapIdx] at hi
 cases h : (ls.take k)[i]? with
 | none => rw [h] at hi; cases hi
 | some l =>
  rw [h] at hi
  injection hi with hi
  rw [← hi] at e
  have := place_ne i k (by omega) hk e
  omega
theorem putE_part {ls : List LeafT} {k : Nat} {l : LeafT} (hl : l.ok) (hk : k < 8) : putE (partsT KS SS (ls.take k)) (partL KS SS k l) = if amS (ls.take k) + l.am < 18446744073709551616 then 0 else 10 := by
 have h64 : (partL KS SS k l).v.length = 64 := by show (l.id ++ l.ow).length = 64; rw [List.length_append, hl.id.1, hl.ow.1]
 have hf : findT (partsT KS SS (ls.take k)) (partL KS SS k l).k = none := find_new (parts_key hk)
 have hlen : (partsT KS SS (ls.take k)).length ≤ k := by simp [partsT]; omega
 have hw : wasS (partsT KS SS (ls.take k)) (partL KS SS k l).k = 0 := by unfold wasS; rw [hf]
 unfold putE
 rw [h64, if_neg (by omega), if_neg (by omega), if_neg (by rintro ⟨_, h⟩; omega), hw, parts_sum]
 rfl
theorem tlStep_at {ls : List LeafT} {k : Nat} {l : LeafT} (hl : l.ok) (hk : k < 8) (h : ls[k]? = some l) : tlStep KS SS k l (partsT KS SS (ls.take k)) =
   if l.pl ≠ (k : Int) ∨ l.am = 0 then .error 22 else if amS (ls.take k) + l.am < 18446744073709551616 then .ok (partsT KS SS (ls.take (k + 1))) else .error 10 := by
 unfold tlStep
 rw [putE_part hl hk]
 by_cases h1 : l.pl ≠ (k : Int) ∨ l.am = 0
 · rw [if_pos h1, if_pos h1]
 · rw [if_neg h1, if_neg h1]
   by_cases h2 : amS (ls.take k) + l.am < 18446744073709551616
   · rw [if_pos h2, if_pos rfl, if_pos h2]
     have he := putE_part (ls := ls) hl hk
     rw [if_pos h2] at he
     rw [putN, if_pos he, put_new (find_new (parts_key hk)), parts_take KS SS ls k l h]
   · rw [if_neg h2, if_neg (by decide), if_neg h2]
theorem tl_makes {ls : List LeafT} (hok : ∀ l ∈ ls, l.ok) (hp : ∀ (i : Nat) l, ls[i]? = some l → l.pl = (i : Int) ∧ l.am ≠ 0) (hs : amS ls < 18446744073709551616) : ∀ (k : Nat), k ≤ 8 → k ≤ ls.length → tlAt KS SS ls k = .ok (partsT KS SS (ls.take k))
 | 0, _, _ => rfl
 | k + 1, hk, hl => by
  have e := tl_makes hok hp hs k (by omega) (by omega)
  obtain ⟨l, hlk⟩ : ∃ l, ls[k]? = some l := ⟨_, List.getElem?_eq_getElem (by omega)⟩
  obtain ⟨q1, q2⟩ := hp k l hlk
  have hle : amS (ls.take k) + l.am ≤ amS ls := by
   have h1 : amS ls = amS (ls.take (k + 1)) + amS (ls.drop (k + 1)) := by
    rw [← amS_app, List.take_append_drop]
   rw [h1, show amS (ls.take (k + 1)) = amS (ls.take k) + l.am by rw [amS, List.take_add_one, hlk]; simp [amS]]
   exact Nat.le_add_right _ _
  rw [tlAt_succ e hlk, tlStep_at (hok l (List.mem_of_getElem? hlk)) (by omega) hlk, if_neg (by rintro (h | h) <;> contradiction), if_pos (by omega)]
end Go.Proofs.YtknfbccbdiidjaaGreatDoor
/- The commit in plain lists: what stands of each asset, the tree of trees, what an output says. -/
namespace Go.Proofs.YtknfbccbdiidjaaGreatDoor
set_option linter.unusedVariables false
set_option linter.unusedSimpArgs false

def lfL (K s0 : List Wd) (l : LeafT) : Lf := ⟨keyK K s0 l, leafB l, l.am⟩
def idStep (a : List (List Nat)) (l : LeafT) : List (List Nat) := if l.id ∈ a then a else a ++ [l.id]
def idsOf (ls : List LeafT) : List (List Nat) := ls.foldl idStep []
def ofId (ls : List LeafT) (id : List Nat) : List LeafT := ls.filter fun l => l.id = id
def lowT (K s0 : List Wd) (ls : List LeafT) (id : List Nat) : List Lf := (ofId ls id).map (lfL K s0)
def topL (K s0 : List Wd) (ls : List LeafT) (id : List Nat) : Lf := ⟨id, (partNd K s0 256 (lowT K s0 ls id)).h, (partNd K s0 256 (lowT K s0 ls id)).s⟩
def topT (K s0 : List Wd) (ls : List LeafT) : List Lf := (idsOf ls).map (topL K s0 ls)
def anchorOf (K s0 : List Wd) (ls : List LeafT) : List Nat := if ls = [] then List.replicate 32 0 else anchorK K s0 (partNd K s0 256 (topT K s0 ls))
def addE (K s0 : List Wd) (ls : List LeafT) (l : LeafT) : Int := if leafBad l = true then 1 else if keyK K s0 l ∈ ls.map (keyK K s0) then 6 else if 256 ≤ ls.length then 4 else if amS ls + l.am < 18446744073709551616 then 0 else 10
def addC (K s0 : List Wd) (ls : List LeafT) (l : LeafT) : List LeafT := if addE K s0 ls l = 0 then ls ++ [l] else ls
structure Fine (K s0 : List Wd) (ls : List LeafT) : Prop where
 ok : ∀ l ∈ ls, l.ok
 good : ∀ l ∈ ls, leafBad l = false
 keys : (ls.map (keyK K s0)).Nodup
 len : ls.length ≤ 256
 fit : amS ls < 18446744073709551616
variable {K s0 : List Wd} {ls : List LeafT} {l : LeafT} {id : List Nat}
theorem fine_nil : Fine K s0 [] := ⟨fun _ h => (by cases h), fun _ h => (by cases h), List.nodup_nil, by decide, by decide⟩
theorem addE_zero (h : addE K s0 ls l = 0) : leafBad l = false ∧ keyK K s0 l ∉ ls.map (keyK K s0) ∧ ls.length < 256 ∧ amS ls + l.am < 18446744073709551616 := by
 unfold addE at h
 by_cases h1 : leafBad l = true
 · rw [if_pos h1] at h; exact absurd h (by decide)
 · rw [if_neg h1] at h
   by_cases h2 : keyK K s0 l ∈ ls.map (keyK K s0)
   · rw [if_pos h2] at h; exact absurd h (by decide)
   · rw [if_neg h2] at h
     by_cases h3 : 256 ≤ ls.length
     · rw [if_pos h3] at h; exact absurd h (by decide)
     · rw [if_neg h3] at h
       by_cases h4 : amS ls + l.am < 18446744073709551616
       · exact ⟨by simpa using h1, h2, by omega, h4⟩
       · rw [if_neg h4] at h; exact absurd h (by decide)
theorem amS_one (l : LeafT) : amS [l] = l.am := by simp [amS]
theorem Fine.snoc (h : Fine K s0 ls) (hl : l.ok) (he : addE K s0 ls l = 0) : Fine K s0 (ls ++ [l]) := by
 obtain ⟨h1, h2, h3, h4⟩ := addE_zero he
 refine ⟨fun x hx => ?_, fun x hx => ?_, ?_, by simp; omega, by rw [amS_app, amS_one]; exact h4⟩
 · rcases List.mem_append.1 hx with hx | hx
   · exact h.ok x hx
   · rw [List.mem_singleton.1 hx]; exact hl
 · rcases List.mem_append.1 hx with hx | hx
   · exact h.good x hx
   · rw [List.mem_singleton.1 hx]; exact h1
 · rw [List.map_append, List.nodup_append]
   refine ⟨h.keys, by simp, fun a ha b hb e => ?_⟩
   rw [List.map_cons, List.map_nil, List.mem_singleton] at hb
   subst hb
   exact h2 (by rw [← e]; exact ha)
theorem Fine.add (h : Fine K s0 ls) (hl : l.ok) : Fine K s0 (addC K s0 ls l) := by
 unfold addC
 by_cases he : addE K s0 ls l = 0
 · rw [if_pos he]; exact h.snoc hl he
 · rw [if_neg he]; exact h
theorem idsOf_snoc (ls : List LeafT) (l : LeafT) : idsOf (ls ++ [l]) = idStep (idsOf ls) l := by
 unfold idsOf
 rw [List.foldl_append]
 rfl
theorem list_snoc {α : Type} {P : List α → Prop} (h0 : P []) (h1 : ∀ xs x, P xs → P (xs ++ [x])) (xs : List α) : P xs := by
 have : ∀ n (ys : List α), ys.length = n → P ys := by
  intro n
  induction n with
  | zero => intro ys hy; rw [List.length_eq_zero_iff.1 hy]; exact h0
  | succ n ih =>
   intro ys hy
   have hne : ys ≠ [] := fun e => by rw [e] at hy; cases hy
   rw [← List.dropLast_concat_getLast hne]
   exact h1 _ _ (ih _ (by rw [List.length_dropLast, hy]; rfl))
 exact this _ xs rfl
theorem ids_nodup (ls : List LeafT) : (idsOf ls).Nodup := by
 refine list_snoc (P := fun ls => (idsOf ls).Nodup) List.nodup_nil (fun xs x h => ?_) ls
 rw [idsOf_snoc]
 unfold idStep
 by_cases hm : x.id ∈ idsOf xs
 · rw [if_pos hm]; exact h
 · rw [if_neg hm, List.nodup_append]
   refine ⟨h, by simp, fun a ha b hb e => ?_⟩
   rw [List.mem_singleton] at hb
   subst hb
   exact hm (by rw [← e]; exact ha)
theorem ids_mem (ls : List LeafT) (id : List Nat) : id ∈ idsOf ls ↔ ∃ l ∈ ls, l.id = id := by
 refine list_snoc (P := fun ls => id ∈ idsOf ls ↔ ∃ l ∈ ls, l.id = id) ⟨fun h => (by cases h), fun ⟨_, h, _⟩ => (by cases h)⟩ (fun xs x h => ?_) ls
 have key : id ∈ idStep (idsOf xs) x ↔ id ∈ idsOf xs ∨ x.id = id := by
   unfold idStep
   by_cases hm : x.id ∈ idsOf xs
   · rw [if_pos hm]
     exact ⟨fun e => .inl e, fun e => by rcases e with e | e; exact e; rw [← e]; exact hm⟩
   · rw [if_neg hm, List.mem_append, List.mem_singleton]
     exact ⟨fun e => by rcases e with e | e; exact .inl e; exact .inr e.symm, fun e => by rcases e with e | e; exact .inl e; exact .inr e.symm⟩
 rw [idsOf_snoc, key, h]
 constructor
 · rintro (⟨l, hl, e⟩ | e)
   · exact ⟨l, List.mem_append.2 (.inl hl), e⟩
   · exact ⟨x, by simp, e⟩
 · rintro ⟨l, hl, e⟩
   rcases List.mem_append.1 hl with hl | hl
   · exact .inl ⟨l, hl, e⟩
   · rw [List.mem_singleton.1 hl] at e; exact .inr e
theorem ofId_snoc (ls : List LeafT) (l : LeafT) (id : List Nat) : ofId (ls ++ [l]) id = ofId ls id ++ (if l.id = id then [l] else []) := by
 unfold ofId
 rw [List.filter_append]
 congr 1
 by_cases h : l.id = id
 · rw [if_pos h, List.filter_cons_of_pos (by simpa using h)]; rfl
 · rw [if_neg h, List.filter_cons_of_neg (by simpa using h)]; rfl
theorem lowT_snoc (ls : List LeafT) (l : LeafT) (id : List Nat) : lowT K s0 (ls ++ [l]) id = lowT K s0 ls id ++ (if l.id = id then [lfL K s0 l] else []) := by
 unfold lowT
 rw [ofId_snoc, List.map_append]
 by_cases h : l.id = id
 · rw [if_pos h, if_pos h]; rfl
 · rw [if_neg h, if_neg h]; rfl
theorem low_nil (h : id ∉ idsOf ls) : lowT K s0 ls id = [] := by
 unfold lowT ofId
 rw [List.filter_eq_nil_iff.2 (fun l hl => by
  have : ¬ l.id = id := fun e => h ((ids_mem ls id).2 ⟨l, hl, e⟩)
  simpa using this)]
 rfl
theorem low_sum (ls : List LeafT) (id : List Nat) : sumT (lowT K s0 ls id) = amS (ofId ls id) := by
 unfold lowT sumT amS
 rw [List.map_map]
 rfl
theorem ids_sum (ls : List LeafT) : ∀ D : List (List Nat), D.Nodup → (D.map fun id => amS (ofId ls id)).sum ≤ amS ls := by
 refine list_snoc (P := fun ls => ∀ D : List (List Nat), D.Nodup → (D.map fun id => amS (ofId ls id)).sum ≤ amS ls) (fun D _ => ?_) (fun xs x h D hD => ?_) ls
 · have hz : ∀ D : List (List Nat), (D.map fun id => amS (ofId [] id)).sum = 0 := by
    intro D
    induction D with
    | nil => rfl
    | cons a D ih => rw [List.map_cons, List.sum_cons, ih]; rfl
   rw [hz]
   exact Nat.zero_le _
 · have hx : ∀ D : List (List Nat), D.Nodup → (D.map fun id => amS (ofId (xs ++ [x]) id)).sum ≤ (D.map fun id => amS (ofId xs id)).sum + (if x.id ∈ D then x.am else 0) := by
    intro D
    induction D with
    | nil => intro _; exact Nat.zero_le _
    | cons a D ih =>
     intro hn
     rw [List.nodup_cons] at hn
     have := ih hn.2
     rw [List.map_cons, List.sum_cons, List.map_cons, List.sum_cons, ofId_snoc, amS_app]
     by_cases e : x.id = a
     · have hnd : x.id ∉ D := by rw [e]; exact hn.1
       rw [if_neg hnd] at this
       rw [if_pos e, if_pos (by rw [e]; exact List.mem_cons_self), amS_one]
       omega
     · rw [if_neg e]
       have h0 : amS [] = 0 := rfl
       by_cases e2 : x.id ∈ D
       · rw [if_pos e2] at this
         rw [if_pos (List.mem_cons_of_mem _ e2)]
         omega
       · rw [if_neg e2] at this
         rw [if_neg (fun e3 => by rcases List.mem_cons.1 e3 with e3 | e3; exact e e3; exact e2 e3)]
         omega
   have h1 := hx D hD
   have h2 := h D hD
   rw [amS_app, amS_one]
   split at h1 <;> omega
theorem of_le (ls : List LeafT) (id : List Nat) : amS (ofId ls id) ≤ amS ls := by
 have := ids_sum ls [id] (by simp)
 simpa using this
theorem low_keys (ls : List LeafT) (id : List Nat) : (lowT K s0 ls id).map (·.k) = (ofId ls id).map (keyK K s0) := by
 unfold lowT
 rw [List.map_map]
 rfl
theorem low_keyed (hs0 : s0.length = 8) (h : (ls.map (keyK K s0)).Nodup) (id : List Nat) : Keyed ((lowT K s0 ls id).map (·.k)) := by
 rw [low_keys]
 refine ⟨fun k hk => ?_, ?_⟩
 · obtain ⟨l, _, rfl⟩ := List.mem_map.1 hk
   exact tagD_hash K s0 hs0 _ _
 · exact (List.Sublist.map _ List.filter_sublist).nodup h
theorem low_part (hs0 : s0.length = 8) (h : (ls.map (keyK K s0)).Nodup) (id : List Nat) : (partNd K s0 256 (lowT K s0 ls id)).s = amS (ofId ls id) := by
 rw [part_sum K s0 256 _ (low_keyed hs0 h id) (coh_top _), low_sum]
theorem low_hash (hs0 : s0.length = 8) (id : List Nat) : IsHash (partNd K s0 256 (lowT K s0 ls id)).h := part_hash K s0 hs0 256 _
theorem put_low (h : Fine K s0 ls) (hl : l.ok) (he : addE K s0 ls l = 0) : putE (lowT K s0 ls l.id) (lfL K s0 l) = 0 ∧ putN (lowT K s0 ls l.id) (lfL K s0 l) = lowT K s0 (ls ++ [l]) l.id := by
 obtain ⟨h1, h2, h3, h4⟩ := addE_zero he
 have hb : (leafB l).length = 123 := by
  have hr := recs_len l hl
  unfold leafB
  rw [List.length_flatMap]
  unfold recsOf recB
  have e1 := hl.id.1
  have e2 := hl.ow.1
  have e3 := hl.sp.1
  simp [List.length_append, e1, e2, e3, eight_len', szB]
 have hf : findT (lowT K s0 ls l.id) (lfL K s0 l).k = none := by
  cases hc : findT (lowT K s0 ls l.id) (lfL K s0 l).k with
  | none => rfl
  | some o =>
   exfalso
   obtain ⟨e1, e2⟩ := find_key hc
   apply h2
   have : o.k ∈ (lowT K s0 ls l.id).map (·.k) := List.mem_map.2 ⟨o, e2, rfl⟩
   rw [low_keys, e1] at this
   exact (List.Sublist.map _ List.filter_sublist).subset this
 have hlen : (lowT K s0 ls l.id).length ≤ ls.length := by
  unfold lowT ofId
  rw [List.length_map]
  exact List.length_filter_le _ _
 have hwas : wasS (lowT K s0 ls l.id) (lfL K s0 l).k = 0 := by unfold wasS; rw [hf]
 have hsum := of_le ls l.id
 have e0 : putE (lowT K s0 ls l.id) (lfL K s0 l) = 0 := by
  unfold putE
  rw [if_neg (fun e => by have := e.1; rw [show (lfL K s0 l).v = leafB l from rfl, hb] at this; omega), if_neg (by rw [show (lfL K s0 l).v = leafB l from rfl, hb]; decide), if_neg (fun e => by have := e.2; omega), hwas, low_sum, if_pos (by show amS (ofId ls l.id) - 0 + l.am < 18446744073709551616; omega)]
 refine ⟨e0, ?_⟩
 unfold putN
 rw [if_pos e0, put_new hf, lowT_snoc, if_pos rfl]
theorem low_other {id : List Nat} (h : l.id ≠ id) : lowT K s0 (ls ++ [l]) id = lowT K s0 ls id := by
 rw [lowT_snoc, if_neg h, List.append_nil]
end Go.Proofs.YtknfbccbdiidjaaGreatDoor
