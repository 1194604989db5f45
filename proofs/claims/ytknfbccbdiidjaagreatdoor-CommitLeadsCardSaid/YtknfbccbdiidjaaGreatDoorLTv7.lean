/- The plain law of leaves: the tree of a transfer is its leaves, each at its own place. -/
import Derived.Test.YtknfbccbdiidjaaGreatDoorWu
import Derived.Test.YtknfbccbdiidjaaGreatDoorLLf4
import Derived.Test.YtknfbccbdiidjaaGreatDoorLFc
import Derived.Test.YtknfbccbdiidjaaGreatDoorLLb2
import Derived.Test.YtknfbccbdiidjaaGreatDoorLTv6
namespace Go.Proofs.YtknfbccbdiidjaaGreatDoor
set_option linter.unusedVariables false
set_option linter.unusedSimpArgs false

theorem place_first : ∀ i : Fin 8, (placeK KS SS i.val).getD 0 0 = [216, 118, 61, 40, 43, 137, 243, 66].getD i.val 0 := by decide +kernel
theorem place_ne (i j : Nat) (hi : i < 8) (hj : j < 8) (h : placeK KS SS i = placeK KS SS j) : i = j := by
 have h1 := place_first ⟨i, hi⟩
 have h2 := place_first ⟨j, hj⟩
 rw [show (⟨i, hi⟩ : Fin 8).val = i from rfl, h, h2] at h1
 have : ∀ a b : Fin 8, [216, 118, 61, 40, 43, 137, 243, 66].getD a.val 0 = [216, 118, 61, 40, 43, 137, 243, 66].getD b.val 0 → a = b := by decide
 exact (congrArg Fin.val (this ⟨j, hj⟩ ⟨i, hi⟩ h1)).symm
def partsT (K s0 : List Wd) (ls : List LeafT) : List Lf := ls.mapIdx (partL K s0)
def amS (ls : List LeafT) : Nat := (ls.map (·.am)).sum
theorem amS_app (a b : List LeafT) : amS (a ++ b) = amS a + amS b := by simp [amS]
theorem parts_sum (K s0 : List Wd) (ls : List LeafT) : sumT (partsT K s0 ls) = amS ls := by
 unfold sumT partsT amS
 congr 1
 apply List.ext_getElem?
 intro i
 simp only [List.getElem?_map, List.getElem?_mapIdx]
 cases ls[i]? <;> rfl
theorem find_new {T : List Lf} {k : List Nat} (h : ∀ t ∈ T, t.k ≠ k) : findT T k = none := by
 cases e : findT T k with
 | none => rfl
 | some l => exact absurd (find_key e).1 (h l (find_key e).2)
theorem parts_take (K s0 : List Wd) (ls : List LeafT) (k : Nat) (l : LeafT) (h : ls[k]? = some l) : partsT K s0 (ls.take (k + 1)) = partsT K s0 (ls.take k) ++ [partL K s0 k l] := by
 have hk := (List.getElem?_eq_some_iff.1 h).1
 unfold partsT
 rw [List.take_add_one, h, List.mapIdx_append]
 simp [List.length_take, Nat.min_eq_left (Nat.le_of_lt hk)]
theorem parts_key {ls : List LeafT} {k : Nat} (hk : k < 8) : ∀ t ∈ partsT KS SS (ls.take k), t.k ≠ placeK KS SS k := by
 intro t ht e
 obtain ⟨i, hi⟩ := List.getElem?_of_mem ht
 have hil := (List.getElem?_eq_some_iff.1 hi).1
 simp only [partsT, List.length_mapIdx, List.length_take] at hil
 unfold partsT at hi
 rw [List.getElem?_mapIdx] at hi
 cases h : (ls.take k)[i]? with
 | none => rw [h] at hi; cases hi
 | some l =>
  rw [h] at hi
  injection hi with hi
  rw [← hi] at e
  have := place_ne i k (by omega) hk e
  omega
theorem putE_part {ls : List LeafT} {k : Nat} {l : LeafT} (hl : l.ok) (hk : k < 8) : putE (partsT KS SS (ls.take k)) (partL KS SS k l) = if amS (ls.take k) + l.am < 18446744073709551616 then 0 else 10 := by
 have h64 : (partL KS SS k l).v.length = 64 := by show (l.id ++ l.ow).length = 64; rw [List.length_append, hl.id.1, hl.ow.1]
 have hf : findT (partsT KS SS (ls.take k)) (partL KS SS k l).k = none := find_new (parts_key hk)
 have hlen : (partsT KS SS (ls.take k)).length ≤ k := by simp [partsT]; omega
 have hw : wasS (partsT KS SS (ls.take k)) (partL KS SS k l).k = 0 := by unfold wasS; rw [hf]
 unfold putE
 rw [h64, if_neg (by omega), if_neg (by omega), if_neg (by rintro ⟨_, h⟩; omega), hw, parts_sum]
 rfl
theorem tlStep_at {ls : List LeafT} {k : Nat} {l : LeafT} (hl : l.ok) (hk : k < 8) (h : ls[k]? = some l) : tlStep KS SS k l (partsT KS SS (ls.take k)) =
   if l.pl ≠ (k : Int) ∨ l.am = 0 then .error 22 else if amS (ls.take k) + l.am < 18446744073709551616 then .ok (partsT KS SS (ls.take (k + 1))) else .error 10 := by
 unfold tlStep
 rw [putE_part hl hk]
 by_cases h1 : l.pl ≠ (k : Int) ∨ l.am = 0
 · rw [if_pos h1, if_pos h1]
 · rw [if_neg h1, if_neg h1]
   by_cases h2 : amS (ls.take k) + l.am < 18446744073709551616
   · rw [if_pos h2, if_pos rfl, if_pos h2]
     have he := putE_part (ls := ls) hl hk
     rw [if_pos h2] at he
     rw [putN, if_pos he, put_new (find_new (parts_key hk)), parts_take KS SS ls k l h]
   · rw [if_neg h2, if_neg (by decide), if_neg h2]
theorem tl_makes {ls : List LeafT} (hok : ∀ l ∈ ls, l.ok) (hp : ∀ (i : Nat) l, ls[i]? = some l → l.pl = (i : Int) ∧ l.am ≠ 0) (hs : amS ls < 18446744073709551616) : ∀ (k : Nat), k ≤ 8 → k ≤ ls.length → tlAt KS SS ls k = .ok (partsT KS SS (ls.take k))
 | 0, _, _ => rfl
 | k + 1, hk, hl => by
  have e := tl_makes hok hp hs k (by omega) (by omega)
  obtain ⟨l, hlk⟩ : ∃ l, ls[k]? = some l := ⟨_, List.getElem?_eq_getElem (by omega)⟩
  obtain ⟨q1, q2⟩ := hp k l hlk
  have hle : amS (ls.take k) + l.am ≤ amS ls := by
   have h1 : amS ls = amS (ls.take (k + 1)) + amS (ls.drop (k + 1)) := by
    rw [← amS_app, List.take_append_drop]
   rw [h1, show amS (ls.take (k + 1)) = amS (ls.take k) + l.am by rw [amS, List.take_add_one, hlk]; simp [amS]]
   exact Nat.le_add_right _ _
  rw [tlAt_succ e hlk, tlStep_at (hok l (List.mem_of_getElem? hlk)) (by omega) hlk, if_neg (by rintro (h | h) <;> contradiction), if_pos (by omega)]
section
/- The commit in plain lists: what stands of each asset, the tree of trees, what an output says. -/

def lfL (K s0 : List Wd) (l : LeafT) : Lf := ⟨keyK K s0 l, leafB l, l.am⟩
def idStep (a : List (List Nat)) (l : LeafT) : List (List Nat) := if l.id ∈ a then a else a ++ [l.id]
def idsOf (ls : List LeafT) : List (List Nat) := ls.foldl idStep []
def ofId (ls : List LeafT) (id : List Nat) : List LeafT := ls.filter fun l => l.id = id
def lowT (K s0 : List Wd) (ls : List LeafT) (id : List Nat) : List Lf := (ofId ls id).map (lfL K s0)
def topL (K s0 : List Wd) (ls : List LeafT) (id : List Nat) : Lf := ⟨id, (partNd K s0 256 (lowT K s0 ls id)).h, (partNd K s0 256 (lowT K s0 ls id)).s⟩
def topT (K s0 : List Wd) (ls : List LeafT) : List Lf := (idsOf ls).map (topL K s0 ls)
def anchorOf (K s0 : List Wd) (ls : List LeafT) : List Nat := if ls = [] then List.replicate 32 0 else anchorK K s0 (partNd K s0 256 (topT K s0 ls))
def addE (K s0 : List Wd) (ls : List LeafT) (l : LeafT) : Int := if leafBad l = true then 1 else if keyK K s0 l ∈ ls.map (keyK K s0) then 6 else if 256 ≤ ls.length then 4 else if amS ls + l.am < 18446744073709551616 then 0 else 10
def addC (K s0 : List Wd) (ls : List LeafT) (l : LeafT) : List LeafT := if addE K s0 ls l = 0 then ls ++ [l] else ls
structure Fine (K s0 : List Wd) (ls : List LeafT) : Prop where
 ok : ∀ l ∈ ls, l.ok
 good : ∀ l ∈ ls, leafBad l = false
 keys : (ls.map (keyK K s0)).Nodup
 len : ls.length ≤ 256
 fit : amS ls < 18446744073709551616
variable {K s0 : List Wd} {ls : List LeafT} {l : LeafT} {id : List Nat}
theorem fine_nil : Fine K s0 [] := ⟨fun _ h => (by cases h), fun _ h => (by cases h), List.nodup_nil, by decide, by decide⟩
theorem addE_zero (h : addE K s0 ls l = 0) : leafBad l = false ∧ keyK K s0 l ∉ ls.map (keyK K s0) ∧ ls.length < 256 ∧ amS ls + l.am < 18446744073709551616 := by
 unfold addE at h
 by_cases h1 : leafBad l = true
 · rw [if_pos h1] at h; exact absurd h (by decide)
 · rw [if_neg h1] at h
   by_cases h2 : keyK K s0 l ∈ ls.map (keyK K s0)
   · rw [if_pos h2] at h; exact absurd h (by decide)
   · rw [if_neg h2] at h
     by_cases h3 : 256 ≤ ls.length
     · rw [if_pos h3] at h; exact absurd h (by decide)
     · rw [if_neg h3] at h
       by_cases h4 : amS ls + l.am < 18446744073709551616
       · exact ⟨by simpa using h1, h2, by omega, h4⟩
       · rw [if_neg h4] at h; exact absurd h (by decide)
theorem amS_one (l : LeafT) : amS [l] = l.am := by simp [amS]
theorem Fine.snoc (h : Fine K s0 ls) (hl : l.ok) (he : addE K s0 ls l = 0) : Fine K s0 (ls ++ [l]) := by
 obtain ⟨h1, h2, h3, h4⟩ := addE_zero he
 refine ⟨fun x hx => ?_, fun x hx => ?_, ?_, by simp; omega, by rw [amS_app, amS_one]; exact h4⟩
 · rcases List.mem_append.1 hx with hx | hx
   · exact h.ok x hx
   · rw [List.mem_singleton.1 hx]; exact hl
 · rcases List.mem_append.1 hx with hx | hx
   · exact h.good x hx
   · rw [List.mem_singleton.1 hx]; exact h1
 · rw [List.map_append, List.nodup_append]
   refine ⟨h.keys, by simp, fun a ha b hb e => ?_⟩
   rw [List.map_cons, List.map_nil, List.mem_singleton] at hb
   subst hb
   exact h2 (by rw [← e]; exact ha)
theorem Fine.add (h : Fine K s0 ls) (hl : l.ok) : Fine K s0 (addC K s0 ls l) := by
 unfold addC
 by_cases he : addE K s0 ls l = 0
 · rw [if_pos he]; exact h.snoc hl he
 · rw [if_neg he]; exact h
theorem idsOf_snoc (ls : List LeafT) (l : LeafT) : idsOf (ls ++ [l]) = idStep (idsOf ls) l := by
 unfold idsOf
 rw [List.foldl_append]
 rfl
theorem list_snoc {α : Type} {P : List α → Prop} (h0 : P []) (h1 : ∀ xs x, P xs → P (xs ++ [x])) (xs : List α) : P xs := by
 have : ∀ n (ys : List α), ys.length = n → P ys := by
  intro n
  induction n with
  | zero => intro ys hy; rw [List.length_eq_zero_iff.1 hy]; exact h0
  | succ n ih =>
   intro ys hy
   have hne : ys ≠ [] := fun e => by rw [e] at hy; cases hy
   rw [← List.dropLast_concat_getLast hne]
   exact h1 _ _ (ih _ (by rw [List.length_dropLast, hy]; rfl))
 exact this _ xs rfl
theorem ids_nodup (ls : List LeafT) : (idsOf ls).Nodup := by
 refine list_snoc (P := fun ls => (idsOf ls).Nodup) List.nodup_nil (fun xs x h => ?_) ls
 rw [idsOf_snoc]
 unfold idStep
 by_cases hm : x.id ∈ idsOf xs
 · rw [if_pos hm]; exact h
 · rw [if_neg hm, List.nodup_append]
   refine ⟨h, by simp, fun a ha b hb e => ?_⟩
   rw [List.mem_singleton] at hb
   subst hb
   exact hm (by rw [← e]; exact ha)
theorem ids_mem (ls : List LeafT) (id : List Nat) : id ∈ idsOf ls ↔ ∃ l ∈ ls, l.id = id := by
 refine list_snoc (P := fun ls => id ∈ idsOf ls ↔ ∃ l ∈ ls, l.id = id) ⟨fun h => (by cases h), fun ⟨_, h, _⟩ => (by cases h)⟩ (fun xs x h => ?_) ls
 have key : id ∈ idStep (idsOf xs) x ↔ id ∈ idsOf xs ∨ x.id = id := by
   unfold idStep
   by_cases hm : x.id ∈ idsOf xs
   · rw [if_pos hm]
     exact ⟨fun e => .inl e, fun e => by rcases e with e | e; exact e; rw [← e]; exact hm⟩
   · rw [if_neg hm, List.mem_append, List.mem_singleton]
     exact ⟨fun e => by rcases e with e | e; exact .inl e; exact .inr e.symm, fun e => by rcases e with e | e; exact .inl e; exact .inr e.symm⟩
 rw [idsOf_snoc, key, h]
 constructor
 · rintro (⟨l, hl, e⟩ | e)
   · exact ⟨l, List.mem_append.2 (.inl hl), e⟩
   · exact ⟨x, by simp, e⟩
 · rintro ⟨l, hl, e⟩
   rcases List.mem_append.1 hl with hl | hl
   · exact .inl ⟨l, hl, e⟩
   · rw [List.mem_singleton.1 hl] at e; exact .inr e
theorem ofId_snoc (ls : List LeafT) (l : LeafT) (id : List Nat) : ofId (ls ++ [l]) id = ofId ls id ++ (if l.id = id then [l] else []) := by
 unfold ofId
 rw [List.filter_append]
 congr 1
 by_cases h : l.id = id
 · rw [if_pos h, List.filter_cons_of_pos (by simpa using h)]; rfl
 · rw [if_neg h, List.filter_cons_of_neg (by simpa using h)]; rfl
theorem lowT_snoc (ls : List LeafT) (l : LeafT) (id : List Nat) : lowT K s0 (ls ++ [l]) id = lowT K s0 ls id ++ (if l.id = id then [lfL K s0 l] else []) := by
 unfold lowT
 rw [ofId_snoc, List.map_append]
 by_cases h : l.id = id
 · rw [if_pos h, if_pos h]; rfl
 · rw [if_neg h, if_neg h]; rfl
theorem low_nil (h : id ∉ idsOf ls) : lowT K s0 ls id = [] := by
 unfold lowT ofId
 rw [List.filter_eq_nil_iff.2 (fun l hl => by
  have : ¬ l.id = id := fun e => h ((ids_mem ls id).2 ⟨l, hl, e⟩)
  simpa using this)]
 rfl
theorem low_sum (ls : List LeafT) (id : List Nat) : sumT (lowT K s0 ls id) = amS (ofId ls id) := by
 unfold lowT sumT amS
 rw [List.map_map]
 rfl
theorem ids_sum (ls : List LeafT) : ∀ D : List (List Nat), D.Nodup → (D.map fun id => amS (ofId ls id)).sum ≤ amS ls := by
 refine list_snoc (P := fun ls => ∀ D : List (List Nat), D.Nodup → (D.map fun id => amS (ofId ls id)).sum ≤ amS ls) (fun D _ => ?_) (fun xs x h D hD => ?_) ls
 · have hz : ∀ D : List (List Nat), (D.map fun id => amS (ofId [] id)).sum = 0 := by
    intro D
    induction D with
    | nil => rfl
    | cons a D ih => rw [List.map_cons, List.sum_cons, ih]; rfl
   rw [hz]
   exact Nat.zero_le _
 · have hx : ∀ D : List (List Nat), D.Nodup → (D.map fun id => amS (ofId (xs ++ [x]) id)).sum ≤ (D.map fun id => amS (ofId xs id)).sum + (if x.id ∈ D then x.am else 0) := by
    intro D
    induction D with
    | nil => intro _; exact Nat.zero_le _
    | cons a D ih =>
     intro hn
     rw [List.nodup_cons] at hn
     have := ih hn.2
     rw [List.map_cons, List.sum_cons, List.map_cons, List.sum_cons, ofId_snoc, amS_app]
     by_cases e : x.id = a
     · have hnd : x.id ∉ D := by rw [e]; exact hn.1
       rw [if_neg hnd] at this
       rw [if_pos e, if_pos (by rw [e]; exact List.mem_cons_self), amS_one]
       omega
     · rw [if_neg e]
       have h0 : amS [] = 0 := rfl
       by_cases e2 : x.id ∈ D
       · rw [if_pos e2] at this
         rw [if_pos (List.mem_cons_of_mem _ e2)]
         omega
       · rw [if_neg e2] at this
         rw [if_neg (fun e3 => by rcases List.mem_cons.1 e3 with e3 | e3; exact e e3; exact e2 e3)]
         omega
   have h1 := hx D hD
   have h2 := h D hD
   rw [amS_app, amS_one]
   split at h1 <;> omega
theorem of_le (ls : List LeafT) (id : List Nat) : amS (ofId ls id) ≤ amS ls := by
 have := ids_sum ls [id] (by simp)
 simpa using this
theorem low_keys (ls : List LeafT) (id : List Nat) : (lowT K s0 ls id).map (·.k) = (ofId ls id).map (keyK K s0) := by
 unfold lowT
 rw [List.map_map]
 rfl
theorem low_keyed (hs0 : s0.length = 8) (h : (ls.map (keyK K s0)).Nodup) (id : List Nat) : Keyed ((lowT K s0 ls id).map (·.k)) := by
 rw [low_keys]
 refine ⟨fun k hk => ?_, ?_⟩
 · obtain ⟨l, _, rfl⟩ := List.mem_map.1 hk
   exact tagD_hash K s0 hs0 _ _
 · exact (List.Sublist.map _ List.filter_sublist).nodup h
theorem low_part (hs0 : s0.length = 8) (h : (ls.map (keyK K s0)).Nodup) (id : List Nat) : (partNd K s0 256 (lowT K s0 ls id)).s = amS (ofId ls id) := by
 rw [part_sum K s0 256 _ (low_keyed hs0 h id) (coh_top _), low_sum]
theorem low_hash (hs0 : s0.length = 8) (id : List Nat) : IsHash (partNd K s0 256 (lowT K s0 ls id)).h := part_hash K s0 hs0 256 _
theorem put_low (h : Fine K s0 ls) (hl : l.ok) (he : addE K s0 ls l = 0) : putE (lowT K s0 ls l.id) (lfL K s0 l) = 0 ∧ putN (lowT K s0 ls l.id) (lfL K s0 l) = lowT K s0 (ls ++ [l]) l.id := by
 obtain ⟨h1, h2, h3, h4⟩ := addE_zero he
 have hb : (leafB l).length = 123 := by
  have hr := recs_len l hl
  unfold leafB
  rw [List.length_flatMap]
  unfold recsOf recB
  have e1 := hl.id.1
  have e2 := hl.ow.1
  have e3 := hl.sp.1
  simp [List.length_append, e1, e2, e3, eight_len', szB]
 have hf : findT (lowT K s0 ls l.id) (lfL K s0 l).k = none := by
  cases hc : findT (lowT K s0 ls l.id) (lfL K s0 l).k with
  | none => rfl
  | some o =>
   exfalso
   obtain ⟨e1, e2⟩ := find_key hc
   apply h2
   have : o.k ∈ (lowT K s0 ls l.id).map (·.k) := List.mem_map.2 ⟨o, e2, rfl⟩
   rw [low_keys, e1] at this
   exact (List.Sublist.map _ List.filter_sublist).subset this
 have hlen : (lowT K s0 ls l.id).length ≤ ls.length := by
  unfold lowT ofId
  rw [List.length_map]
  exact List.length_filter_le _ _
 have Aa : wasS (lowT K s0 ls l.id) (lfL K s0 l).k = 0 := by unfold wasS; rw [hf]
 have hsum := of_le ls l.id
 have e0 : putE (lowT K s0 ls l.id) (lfL K s0 l) = 0 := by
  unfold putE
  rw [if_neg (fun e => by have := e.1; rw [show (lfL K s0 l).v = leafB l from rfl, hb] at this; omega), if_neg (by rw [show (lfL K s0 l).v = leafB l from rfl, hb]; decide), if_neg (fun e => by have := e.2; omega), Aa, low_sum, if_pos (by show amS (ofId ls l.id) - 0 + l.am < 18446744073709551616; omega)]
 refine ⟨e0, ?_⟩
 unfold putN
 rw [if_pos e0, put_new hf, lowT_snoc, if_pos rfl]
theorem low_other {id : List Nat} (h : l.id ≠ id) : lowT K s0 (ls ++ [l]) id = lowT K s0 ls id := by
 rw [lowT_snoc, if_neg h, List.append_nil]
end
/- The walks of commit's New, high and anchor. -/
open Go.ChangeShapes Go.WideShapes Go.ChangeAt Go.RowKit Go.Maps

theorem anchorK_hash (K s0 : List Wd) (hs : s0.length = 8) (n : Nd) : IsHash (anchorK K s0 n) := tagD_hash K s0 hs _ _
theorem nd_sum_at {n : Nd} (h : IsHash n.h) : (ndV n)[32]? = some (.int .u64 (n.s : Int)) := by
 unfold ndV ncells
 rw [List.getElem?_append_right (by rw [bcells_length, h.1]; exact Nat.le_refl _), bcells_length, h.1]
 rfl
theorem nd_bytes {v : World} {B g : Nat} {n : Nd} (hn : IsHash n.h) (h : Has v B 30 (ndV n).toArray) (hg : B ≠ g) : Bytes v g (.slice (some ⟨B, 0, none⟩) 32 32) n.h :=
 ⟨_, _, by rw [hn.1], by rw [hn.1]; exact Nat.le_refl _, hn.2, fun _ => ⟨B, 0, rfl, hg, fun i hi => by
  rw [Nat.zero_add]
  refine h.cell_is ?_
  rw [List.getElem?_toArray]
  unfold ndV ncells
  rw [List.getElem?_append_left (by rw [bcells_length]; exact hi)]
  exact bcells_get _ i hi⟩⟩
theorem zero_leafA : ∃ Z : Array Value, (∀ w, (zeroValue 50).run Tryz.prog w = .ok (.agg Z) w) ∧ Z.size = 2 ∧ ¬ Z = #[] := ⟨#[.slice none 0 0, .int .u64 0], fun w => by kernel_rfl, rfl, by decide⟩
theorem build_leaf2 (B s : Nat) (w : World) : (Instr.build 50 #[(0, .slice (some ⟨B, 0, none⟩) 32 32), (1, .int .u64 (s : Int))]).run Tryz.prog w = .ok (.agg #[.slice (some ⟨B, 0, none⟩) 32 32, .int .u64 (s : Int)]) w := by kernel_rfl
theorem partsN_2 {w : World} {g pg : Nat} {v0 v1 : Value} {p0 p1 : List Nat} (h : Has w pg 48 #[v0, v1]) (h0 : Bytes w g v0 p0) (h1 : Bytes w g v1 p1) (hne : pg ≠ g) : PartsN w g (.slice (some ⟨pg, 0, none⟩) 2 2) [p0, p1] :=
 ⟨_, _, rfl, fun _ => ⟨pg, 0, rfl, hne, fun i hi => by
  match i, hi with
  | 0, _ => exact ⟨v0, h.cell_is rfl, h0⟩
  | 1, _ => exact ⟨v1, h.cell_is rfl, h1⟩⟩⟩
theorem eight_bytes {v : World} {B g : Nat} {x : Nat} (h : Has v B 165 (bcells (eight x)).toArray) (hg : B ≠ g) : Bytes v g (.slice (some ⟨B, 0, none⟩) 8 8) (eight x) :=
 ⟨_, _, by rw [eight_length], by rw [eight_length]; exact Nat.le_refl _, eight_lt' x, fun _ => ⟨B, 0, rfl, hg, fun i hi => by
  rw [Nat.zero_add]
  refine h.cell_is ?_
  rw [List.getElem?_toArray]
  exact bcells_get _ i hi⟩⟩
theorem boxes_high (w : World) (LN : List Value) (Z : Array Value) : ∃ W1, W1 = (((w.alloc (.cells LN.toArray 30))).alloc (.cells Z 50)) ∧
   Has W1 (w.heap.size) 30 LN.toArray ∧ Has W1 (w.heap.size + 1) 50 Z ∧ Below w.heap.size w W1 := by
 refine ⟨_, rfl, ?_, ?_, ?_⟩
 · have := Has.new w 30 LN.toArray
   exact (this).alloc _
 · have := Has.new (w.alloc (.cells LN.toArray 30)) 50 Z
   exact (by simpa using this : Has _ (w.heap.size + 1) _ _)
 · exact ((Below.refl _ _).alloc (Nat.le_refl _) _).alloc (by simp) _

theorem boxes_anchor (w : World) (LN : List Value) (Z Y : Array Value) : ∃ W1, W1 = (((((w.alloc (.cells LN.toArray 30))).alloc (.cells Z 27))).alloc (.cells Y 165)) ∧
   Has W1 (w.heap.size) 30 LN.toArray ∧ Has W1 (w.heap.size + 1) 27 Z ∧ Has W1 (w.heap.size + 1 + 1) 165 Y ∧ Below w.heap.size w W1 := by
 refine ⟨_, rfl, ?_, ?_, ?_, ?_⟩
 · have := Has.new w 30 LN.toArray
   exact ((this).alloc _).alloc _
 · have := Has.new (w.alloc (.cells LN.toArray 30)) 27 Z
   exact ((by simpa using this : Has _ (w.heap.size + 1) _ _)).alloc _
 · have := Has.new (((w.alloc (.cells LN.toArray 30))).alloc (.cells Z 27)) 165 Y
   exact (by simpa using this : Has _ (w.heap.size + 1 + 1) _ _)
 · exact (((Below.refl _ _).alloc (Nat.le_refl _) _).alloc (by simp) _).alloc (by simp; omega) _
set_option maxRecDepth 100000 in
set_option maxHeartbeats 4000000 in
theorem coHigh_is (w : World) (n : Nd) (hn : IsHash n.h) (hs : n.s < 18446744073709551616) : Calls Tryz.prog 47 #[.agg (ndV n).toArray] w fun e w' => ∃ v', e = .returned (leafV v' n.s) ∧ Bytes w' w'.heap.size v' n.h ∧ Below w.heap.size w w' := by
 obtain ⟨ZL, hzl, Ac, hzln⟩ := zero_leafA
 obtain ⟨LN, hLN⟩ : ∃ L, L = ndV n := ⟨_, rfl⟩
 obtain ⟨s, hse⟩ : ∃ x, x = n.s := ⟨_, rfl⟩
 rw [← hLN, ← hse]
 have Ae := Hh hLN
 have ES := Hh hse
 have HN := Hh hn
 clear hLN hse hn hs
 go_enter Tryz.func47, Tryz.ntmps47
 go_upto_region 1 with (fail)
 obtain ⟨W1, hW1, h1, h2, hb1⟩ := boxes_high w LN ZL
 rw [← hW1]
 clear hW1
 obtain ⟨B, hB⟩ : ∃ b, b = w.heap.size := ⟨_, rfl⟩
 rw [← hB] at h1 h2 hb1 ⊢
 have Af := Hh hB
 have hBS : B + 1 < W1.heap.size := h2.lt
 clear hB
 have HC := Hh (show ∀ v : World, Has v B 30 LN.toArray → v.cell? ⟨B, 32, none⟩ = some (.int .u64 (s : Int)) from fun v hv => hv.cell_is (by rw [List.getElem?_toArray, Ae.o, ES.o]; exact nd_sum_at HN.o))
 have hS0 : Has W1.drew B 30 LN.toArray ∧ Below B w W1.drew := ⟨h1, below_drew hb1⟩
 have hz : Has W1.drew (B + 1) 50 ZL := h2
 have hBW : B + 1 < W1.drew.heap.size := hBS
 clear hb1 h1 h2 hBS
 have SZ := Hh (show (Tryz.prog.info? 50).map (·.size) = some 2 by kernel_rfl)
 refine wp_region_noPanic ?_
 refine wp_region_held_drew (S := (fun v => Has v B 30 LN.toArray ∧ Below B w v)) (by kernel_rfl) hS0 (fun hH0 => ?_)
 apply tl 0 rfl ?hv hH0 ?_
 case hv => intro w' hS; go_simp; try rfl
 simp only [qc]
 apply tl 1 rfl ?hv hH0 ?_
 case hv => intro w' hS; have z0 := HC.o w' hS.1; go_simp; try rfl
 simp only [qc]
 apply tl 2 rfl ?hv hH0 ?_
 case hv => intro w' hS; go_simp; try rfl
 simp only [qc]
 apply tl 3 rfl ?hv hH0 ?_
 case hv => intro w' hS; have z0 := HC.o w' hS.1; go_simp; try rfl
 simp only [qc]
 refine tk 4 (v := (.agg #[.slice (some ⟨B, 0, none⟩) 32 32, .int .u64 (s : Int)])) rfl (yieldsIf_build (by kernel_rfl) 50 #[(0, .tmp 4), (1, .tmp 6)] rfl #[(0, .slice (some ⟨B, 0, none⟩) 32 32), (1, .int .u64 (s : Int))] (by kernel_rfl) _ (fun w' _ => build_leaf2 B s w')) hH0 ?_
 simp only [qc]
 refine rdy [5] (ar1 rfl fun KK hKK => ?_)
 refine step_store_mid rfl 50 (.tmp 2) (.tmp 7) rfl (B + 1) 0 #[.slice (some ⟨B, 0, none⟩) 32 32, .int .u64 (s : Int)] rfl rfl (hz.there 0 2 (by rw [Ac]; exact Nat.le_refl 2)) SZ.o (by simp [Value.oneCell']) ?_
 have Aa := set_box (L := [.slice (some ⟨B, 0, none⟩) 32 32, .int .u64 (s : Int)]) hH0.2 hz (Nat.le_succ B) (Nat.le_of_lt (Nat.lt_of_succ_lt hBW)) Ac
 obtain ⟨xb, hxb⟩ : ∃ y, y = W1.drew.setCells (B + 1) 0 [.slice (some ⟨B, 0, none⟩) 32 32, .int .u64 (s : Int)] := ⟨_, rfl⟩
 rw [← hxb] at Aa
 change KK _ (W1.drew.setCells (B + 1) 0 [.slice (some ⟨B, 0, none⟩) 32 32, .int .u64 (s : Int)])
 rw [← hxb]
 have Ab : Has xb B 30 LN.toArray ∧ Below B w xb := ⟨hH0.1.kept Aa.2.2 (by omega), Aa.1⟩
 clear hxb
 refine hKK _ _ Ab fun hH1 => ?_
 clear hKK KK
 try simp only [qc]
 refine wpAnyH_done (by kernel_rfl) ?_ _
 refine NoPanic.normal ?_
 have HF := Hh Aa.2.1
 have Ad := Hh Ab
 clear Aa Ab
 go_wp2_with fail
 refine bodyPost_ret (results_cell_row rfl _ _ (B + 1) 50 #[.slice (some ⟨B, 0, none⟩) 32 32, .int .u64 (s : Int)] (0, 0) _ rfl HF.o Tryz.underlying50 rfl SZ.o) rfl ?_
 exact ⟨_, rfl, nd_bytes HN.o (by rw [← Ae.o]; exact Ad.o.1) (Nat.ne_of_lt Ad.o.1.lt), by have := Ad.o.2; rwa [Af.o] at this⟩
set_option maxRecDepth 100000 in
set_option maxHeartbeats 4000000 in
theorem coAnchor_is (K s0 : List Wd) (w : World) (hT : Tabs K s0 w) (n : Nd) (hn : IsHash n.h) (hs : n.s < 18446744073709551616) : Calls Tryz.prog 44 #[.agg (ndV n).toArray] w fun e w' => e = .returned (arr (anchorK K s0 n)) ∧ Below w.heap.size w w' := by
 obtain ⟨Z, hz, hZ, hZs, hZn⟩ := zero_eight
 obtain ⟨zk, hzk, hzs, hzn⟩ := zero_hashT
 obtain ⟨LN, hLN⟩ : ∃ L, L = ndV n := ⟨_, rfl⟩
 obtain ⟨s, hse⟩ : ∃ x, x = n.s := ⟨_, rfl⟩
 obtain ⟨D, hD⟩ : ∃ D, D = anchorK K s0 n := ⟨_, rfl⟩
 have hph : IsHash D := by rw [hD]; exact anchorK_hash K s0 hT.len _
 rw [← hLN, ← hD]
 have Ao := Hh hLN
 have ES := Hh hse
 have HD := Hh hD
 have HN := Hh hn
 have HT := Hh hT
 have HZ := Hh hZ
 have SZ := Hh (show (Tryz.prog.info? 27).map (·.size) = some (bcells D).toArray.size by rw [List.size_toArray, bcells_length, hph.1]; kernel_rfl)
 have An := Hh (show zk.size = (bcells D).length by rw [hzs, bcells_length, hph.1])
 have Af := hT.low
 clear hT hLN hD hph hse hn hZ hZs hzs
 go_enter Tryz.func44, Tryz.ntmps44
 go_upto_region 2 with (fail)
 obtain ⟨W1, hW1, h1, h2, h3, hb1⟩ := boxes_anchor w LN zk Z
 rw [← hW1]
 clear hW1
 obtain ⟨B, hB⟩ : ∃ b, b = w.heap.size := ⟨_, rfl⟩
 rw [← hB] at h1 h2 h3 hb1 Af ⊢
 have Aq := Hh hB
 clear hB
 have A1 := Hh (show ∀ v : World, Below B w v → Tabs K s0 v from fun v hv => by
  have hl2 := Af
  rw [Aq.o] at hv hl2
  exact HT.o.below hv hl2)
 have Al := Hh Af
 have HC := Hh (show ∀ v : World, Has v B 30 LN.toArray → v.cell? ⟨B, 32, none⟩ = some (.int .u64 (s : Int)) from fun v hv => hv.cell_is (by rw [List.getElem?_toArray, Ao.o, ES.o]; exact nd_sum_at HN.o))
 have Ax := Hh h1
 have Ay := Hh h2
 have Az := Hh h3
 have Av := Hh hb1
 clear h1 h2 h3 hb1 Af hs
 go_wp2_with fail
 go_loopw [5] (fun i wr => ∃ k : Nat, k ≤ 8 ∧ i = .int .i64 k ∧ Has wr (B + 2) 165 (splice (bcells (List.replicate 8 0)) 0 ((bcells (eight s)).take k)).toArray ∧ Has wr B 30 LN.toArray ∧ Has wr (B + 1) 27 zk ∧ Below B w wr) (fun i _ => 8 - (intOf i).toNat)
 case atStart => exact ⟨0, by omega, rfl, by rw [List.take_zero, splice_nil, ← HZ.o]; exact Az.o, Ax.o, Ay.o, Av.o⟩
 case round =>
  clear Ax Ay Az Av
  obtain ⟨k, hk, rfl, hW, hN1, hZ1, hK⟩ := hrel
  have HW := Hh hW
  have Am := Hh hN1
  have Au := Hh hZ1
  have Ar := Hh hK
  clear hW hN1 hZ1 hK
  by_cases hlt : k < 8
  · have hf := HW.o.free k
    have hc32 := HC.o wr Am.o
    obtain ⟨v0, hv0⟩ : ∃ v, wr.cell? ⟨B + 2, k, none⟩ = some v := by
      refine ⟨_, HW.o.cell_is (by rw [List.getElem?_toArray]; exact List.getElem?_eq_getElem (by rw [splice_len _ _ _ (by rw [List.length_take, bcells_length, bcells_length, eight_length]; simp; omega)]; rw [bcells_length]; simpa using hlt))⟩
    have Aa := HW.o.set (0 + k) (.int .u8 ((s / 2 ^ (8 * (7 - k)) % 256 : Nat) : Int))
    rw [List.setIfInBounds_toArray, splice_take_set _ _ _ _ _ (by rw [bcells_length, bcells_length, eight_length]; simp) (eight_get s k hlt), Nat.zero_add] at Aa
    have hv : ((s : Int) / 2 ^ (56 - 8 * k) % 256) = ((s / 2 ^ (8 * (7 - k)) % 256 : Nat) : Int) := by
      rw [show 56 - 8 * k = 8 * (7 - k) by omega, show (2 : Int) ^ (8 * (7 - k)) = ((2 ^ (8 * (7 - k)) : Nat) : Int) by simp]
      rfl
    have HV := Hh hv
    have As := Hh Aa
    have Ak := Hh (show ∀ u, Has (wr.setCell ⟨B + 2, k, none⟩ u) B 30 LN.toArray ∧ Has (wr.setCell ⟨B + 2, k, none⟩ u) (B + 1) 27 zk from fun u => ⟨Am.o.far (show B ≠ B + 2 by omega) u, Au.o.far (show B + 1 ≠ B + 2 by omega) u⟩)
    clear Aa hv
    go_wp2
    go_roundw
    case rel => exact ⟨k + 1, by omega, by go_num, by rw [HV.o]; exact As.o, (Ak.o _).1, (Ak.o _).2, Ar.o.setCell (show B ≤ B + 2 by omega) _⟩
    case measure => simp [intOf]; omega
  · obtain rfl : k = 8 := by omega
    have Ag : Has wr (B + 2) 165 (bcells (eight s)).toArray := by
      have h1 := HW.o
      rw [List.take_of_length_le (by rw [bcells_length, eight_length]; exact Nat.le_refl _), splice_all _ _ (by rw [bcells_length, bcells_length, eight_length]; simp)] at h1
      exact h1
    have Aw := Hh (show tagD K s0 anS [n.h, eight s].flatten = D by rw [HD.o, ES.o]; unfold anchorK; simp)
    have A0 := Hh (show [n.h, eight s].flatten.length ≤ 100000000 by simp [HN.o.1, eight_length])
    go_upto_region 7 with (fail)
    obtain ⟨W2, hW2⟩ : ∃ y, y = wr := ⟨_, rfl⟩
    subst hW2
    have hS0 : Has W2.drew B 30 LN.toArray ∧ Has W2.drew (B + 2) 165 (bcells (eight s)).toArray ∧ Below B w W2.drew := ⟨Am.o, Ag, below_drew Ar.o⟩
    have hz : Has W2.drew (B + 1) 27 zk := Au.o
    have hBW : B + 2 < W2.drew.heap.size := Ag.lt
    clear Ag HW Am Au Ar HZ
    refine wp_region_noPanic ?_
    refine wp_region_held_drew (S := (fun v => Has v B 30 LN.toArray ∧ Has v (B + 2) 165 (bcells (eight s)).toArray ∧ Below B w v)) (by kernel_rfl) hS0 (fun hH0 => ?_)
    apply tl 1 rfl ?hv hH0 ?_
    case hv => intro w' hS; go_simp; try rfl
    simp only [qc]
    apply tl 2 rfl ?hv hH0 ?_
    case hv => intro w' hS; go_simp; try rfl
    simp only [qc]
    apply tl 3 rfl ?hv hH0 ?_
    case hv => intro w' hS; go_simp; try rfl
    simp only [qc]
    refine rdy [0, 4] (AllReadyH.cons rfl (fun KK hKK => ?_) (ar1 rfl fun KK hKK => ?_))
    · go_simp
      refine (newTag_is anS _).mono ?_
      rintro _ x0 ⟨rfl, hx0⟩
      have Ab : Below W2.drew.heap.size W2.drew x0 := by rw [hx0]; exact (Below.refl _ _).alloc (Nat.le_refl _) _
      have hg : Has x0 W2.drew.heap.size 178 (tag0 anS).toArray := by rw [hx0]; exact Has.new _ _ _
      have hgb : B + 2 < W2.drew.heap.size := hBW
      obtain ⟨G, hG⟩ : ∃ g, g = W2.drew.heap.size := ⟨_, rfl⟩
      first | rw [← hG] | (have hG2 : W2.heap.size = G := hG.symm; rw [hG2])
      rw [← hG] at hg
      rw [← hG] at hgb
      clear hG
      have Ah : Has x0 B 30 LN.toArray ∧ Has x0 (B + 2) 165 (bcells (eight s)).toArray ∧ Below B w x0 := ⟨hH0.1.below Ab hH0.1.lt, hH0.2.1.below Ab hH0.2.1.lt, hH0.2.2.trans (Ab.mono (by omega))⟩
      replace hz := hz.below Ab hz.lt
      try replace hp := hp.below Ab hp.lt
      replace hBW : B + 2 < x0.heap.size := Nat.lt_of_lt_of_le hBW Ab.size
      clear hx0
      refine hKK _ _ Ah fun hH1 => ?_
      clear hKK KK
      try simp only [qc]
      refine rdy [4] (ar1 rfl fun KK hKK => ?_)
      refine step_buildN rfl 121 48 2 _ rfl _ 1 24 Tryz.underlying121 info_slice [.tmp 20, .tmp 21] rfl [.slice (some ⟨B, 0, none⟩) 32 32, .slice (some ⟨B + 2, 0, none⟩) 8 8] rfl (by simp [Value.cells]) rfl rfl (by decide) (by decide) (by decide) ?_
      obtain ⟨x4, hx4⟩ : ∃ y, y = x0.alloc (.cells #[.slice (some ⟨B, 0, none⟩) 32 32, .slice (some ⟨B + 2, 0, none⟩) 8 8] 48) := ⟨_, rfl⟩
      first | rw [← hx4] | (change KK _ (x0.alloc (.cells #[.slice (some ⟨B, 0, none⟩) 32 32, .slice (some ⟨B + 2, 0, none⟩) 8 8] 48)); rw [← hx4])
      have Ac : Below x0.heap.size x0 x4 := by rw [hx4]; exact (Below.refl _ _).alloc (Nat.le_refl _) _
      have hp : Has x4 x0.heap.size 48 #[.slice (some ⟨B, 0, none⟩) 32 32, .slice (some ⟨B + 2, 0, none⟩) 8 8] := by rw [hx4]; exact Has.new _ _ _
      have hpb : B + 2 < x0.heap.size := hBW
      obtain ⟨R, hR⟩ : ∃ g, g = x0.heap.size := ⟨_, rfl⟩
      first | rw [← hR] | (have hR2 : W2.heap.size = R := hR.symm; rw [hR2])
      rw [← hR] at hp
      rw [← hR] at hpb
      clear hR
      have Ai : Has x4 B 30 LN.toArray ∧ Has x4 (B + 2) 165 (bcells (eight s)).toArray ∧ Below B w x4 := ⟨hH1.1.below Ac hH1.1.lt, hH1.2.1.below Ac hH1.2.1.lt, hH1.2.2.trans (Ac.mono (by omega))⟩
      replace hz := hz.below Ac hz.lt
      try replace hg := hg.below Ac hg.lt
      replace hBW : B + 2 < x4.heap.size := Nat.lt_of_lt_of_le hBW Ac.size
      clear hx4
      refine hKK _ _ Ai fun hH2 => ?_
      clear hKK KK
      try simp only [qc]
      refine rdy [5] (ar1 rfl fun KK hKK => ?_)
      go_simp
      have hp2 := hp.ne hg (by decide)
      have Ad := tagSum_is K s0 _ (A1.o _ hH2.2.2) G anS (by decide) (Nat.le_trans Al.o (by omega)) hg _ [n.h, eight s] (partsN_2 hp (nd_bytes HN.o (by rw [← Ao.o]; exact hH2.1) (by omega)) (eight_bytes hH2.2.1 (by omega)) hp2) A0.o (by simp)
      rw [Aw.o] at Ad
      unfold arr at Ad
      refine Ad.mono ?_
      rintro _ xa ⟨rfl, hka⟩
      have Aj : Has xa B 30 LN.toArray ∧ Has xa (B + 2) 165 (bcells (eight s)).toArray ∧ Below B w xa := ⟨hH2.1.kept hka (by omega), hH2.2.1.kept hka (by omega), hH2.2.2.trans (hka.below (by omega) (fun j e => by have e' : j = G := e; omega))⟩
      replace hz := hz.kept hka (by omega)
      replace hBW : B + 2 < xa.heap.size := Nat.lt_of_lt_of_le hBW hka.size
      clear Ad hka
      refine hKK _ _ Aj fun hH3 => ?_
      clear hKK KK
      try simp only [qc]
      refine rdy [6] (ar1 rfl fun KK hKK => ?_)
      refine step_store_mid rfl 27 (.tmp 2) (.tmp 23) rfl (B + 1) 0 (bcells D).toArray rfl rfl (hz.there 0 _ (by rw [List.size_toArray, An.o]; exact Nat.le_of_eq (Nat.zero_add _))) SZ.o (all_oneCell_toArray (bcells_one D)) ?_
      have Aa := set_box hH3.2.2 hz (Nat.le_succ B) (by omega) An.o
      obtain ⟨xb, hxb⟩ : ∃ y, y = xa.setCells (B + 1) 0 (bcells D) := ⟨_, rfl⟩
      rw [← hxb] at Aa
      change KK _ (xa.setCells (B + 1) 0 (bcells D))
      rw [← hxb]
      have Ae : Has xb B 30 LN.toArray ∧ Has xb (B + 2) 165 (bcells (eight s)).toArray ∧ Below B w xb := ⟨hH3.1.kept Aa.2.2 (by omega), hH3.2.1.kept Aa.2.2 (by omega), Aa.1⟩
      clear hxb
      refine hKK _ _ Ae fun hH4 => ?_
      clear hKK KK
      try simp only [qc]
      refine wpAnyH_done (by kernel_rfl) ?_ _
      refine NoPanic.normal ?_
      have HF := Hh Aa.2.1
      have Ap := Hh Aa.1
      clear Aa Ae
      go_wp2_with fail
      refine bodyPost_ret (results_cell_row rfl _ _ (B + 1) 27 (bcells D).toArray (0, 0) _ rfl HF.o Tryz.underlying27 rfl SZ.o) rfl ?_
      exact ⟨rfl, by have := Ap.o; rwa [Aq.o] at this⟩
    · refine step_buildN rfl 121 48 2 _ rfl _ 1 24 Tryz.underlying121 info_slice [.tmp 20, .tmp 21] rfl [.slice (some ⟨B, 0, none⟩) 32 32, .slice (some ⟨B + 2, 0, none⟩) 8 8] rfl (by simp [Value.cells]) rfl rfl (by decide) (by decide) (by decide) ?_
      obtain ⟨x4, hx4⟩ : ∃ y, y = W2.drew.alloc (.cells #[.slice (some ⟨B, 0, none⟩) 32 32, .slice (some ⟨B + 2, 0, none⟩) 8 8] 48) := ⟨_, rfl⟩
      first | rw [← hx4] | (change KK _ (W2.drew.alloc (.cells #[.slice (some ⟨B, 0, none⟩) 32 32, .slice (some ⟨B + 2, 0, none⟩) 8 8] 48)); rw [← hx4])
      have Ac : Below W2.drew.heap.size W2.drew x4 := by rw [hx4]; exact (Below.refl _ _).alloc (Nat.le_refl _) _
      have hp : Has x4 W2.drew.heap.size 48 #[.slice (some ⟨B, 0, none⟩) 32 32, .slice (some ⟨B + 2, 0, none⟩) 8 8] := by rw [hx4]; exact Has.new _ _ _
      have hpb : B + 2 < W2.drew.heap.size := hBW
      obtain ⟨R, hR⟩ : ∃ g, g = W2.drew.heap.size := ⟨_, rfl⟩
      first | rw [← hR] | (have hR2 : W2.heap.size = R := hR.symm; rw [hR2])
      rw [← hR] at hp
      rw [← hR] at hpb
      clear hR
      have Ai : Has x4 B 30 LN.toArray ∧ Has x4 (B + 2) 165 (bcells (eight s)).toArray ∧ Below B w x4 := ⟨hH0.1.below Ac hH0.1.lt, hH0.2.1.below Ac hH0.2.1.lt, hH0.2.2.trans (Ac.mono (by omega))⟩
      replace hz := hz.below Ac hz.lt
      try replace hg := hg.below Ac hg.lt
      replace hBW : B + 2 < x4.heap.size := Nat.lt_of_lt_of_le hBW Ac.size
      clear hx4
      refine hKK _ _ Ai fun hH1 => ?_
      clear hKK KK
      try simp only [qc]
      refine rdy [0] (ar1 rfl fun KK hKK => ?_)
      go_simp
      refine (newTag_is anS _).mono ?_
      rintro _ x0 ⟨rfl, hx0⟩
      have Ab : Below x4.heap.size x4 x0 := by rw [hx0]; exact (Below.refl _ _).alloc (Nat.le_refl _) _
      have hg : Has x0 x4.heap.size 178 (tag0 anS).toArray := by rw [hx0]; exact Has.new _ _ _
      have hgb : B + 2 < x4.heap.size := hBW
      obtain ⟨G, hG⟩ : ∃ g, g = x4.heap.size := ⟨_, rfl⟩
      first | rw [← hG] | (have hG2 : W2.heap.size = G := hG.symm; rw [hG2])
      rw [← hG] at hg
      rw [← hG] at hgb
      clear hG
      have Ah : Has x0 B 30 LN.toArray ∧ Has x0 (B + 2) 165 (bcells (eight s)).toArray ∧ Below B w x0 := ⟨hH1.1.below Ab hH1.1.lt, hH1.2.1.below Ab hH1.2.1.lt, hH1.2.2.trans (Ab.mono (by omega))⟩
      replace hz := hz.below Ab hz.lt
      try replace hp := hp.below Ab hp.lt
      replace hBW : B + 2 < x0.heap.size := Nat.lt_of_lt_of_le hBW Ab.size
      clear hx0
      refine hKK _ _ Ah fun hH2 => ?_
      clear hKK KK
      try simp only [qc]
      refine rdy [5] (ar1 rfl fun KK hKK => ?_)
      go_simp
      have hp2 := hp.ne hg (by decide)
      have Ad := tagSum_is K s0 _ (A1.o _ hH2.2.2) G anS (by decide) (Nat.le_trans Al.o (by omega)) hg _ [n.h, eight s] (partsN_2 hp (nd_bytes HN.o (by rw [← Ao.o]; exact hH2.1) (by omega)) (eight_bytes hH2.2.1 (by omega)) hp2) A0.o (by simp)
      rw [Aw.o] at Ad
      unfold arr at Ad
      refine Ad.mono ?_
      rintro _ xa ⟨rfl, hka⟩
      have Aj : Has xa B 30 LN.toArray ∧ Has xa (B + 2) 165 (bcells (eight s)).toArray ∧ Below B w xa := ⟨hH2.1.kept hka (by omega), hH2.2.1.kept hka (by omega), hH2.2.2.trans (hka.below (by omega) (fun j e => by have e' : j = G := e; omega))⟩
      replace hz := hz.kept hka (by omega)
      replace hBW : B + 2 < xa.heap.size := Nat.lt_of_lt_of_le hBW hka.size
      clear Ad hka
      refine hKK _ _ Aj fun hH3 => ?_
      clear hKK KK
      try simp only [qc]
      refine rdy [6] (ar1 rfl fun KK hKK => ?_)
      refine step_store_mid rfl 27 (.tmp 2) (.tmp 23) rfl (B + 1) 0 (bcells D).toArray rfl rfl (hz.there 0 _ (by rw [List.size_toArray, An.o]; exact Nat.le_of_eq (Nat.zero_add _))) SZ.o (all_oneCell_toArray (bcells_one D)) ?_
      have Aa := set_box hH3.2.2 hz (Nat.le_succ B) (by omega) An.o
      obtain ⟨xb, hxb⟩ : ∃ y, y = xa.setCells (B + 1) 0 (bcells D) := ⟨_, rfl⟩
      rw [← hxb] at Aa
      change KK _ (xa.setCells (B + 1) 0 (bcells D))
      rw [← hxb]
      have Ae : Has xb B 30 LN.toArray ∧ Has xb (B + 2) 165 (bcells (eight s)).toArray ∧ Below B w xb := ⟨hH3.1.kept Aa.2.2 (by omega), hH3.2.1.kept Aa.2.2 (by omega), Aa.1⟩
      clear hxb
      refine hKK _ _ Ae fun hH4 => ?_
      clear hKK KK
      try simp only [qc]
      refine wpAnyH_done (by kernel_rfl) ?_ _
      refine NoPanic.normal ?_
      have HF := Hh Aa.2.1
      have Ap := Hh Aa.1
      clear Aa Ae
      go_wp2_with fail
      refine bodyPost_ret (results_cell_row rfl _ _ (B + 1) 27 (bcells D).toArray (0, 0) _ rfl HF.o Tryz.underlying27 rfl SZ.o) rfl ?_
      exact ⟨rfl, by have := Ap.o; rwa [Aq.o] at this⟩
section
/- A commit in memory; an empty one. -/

def entP (e : List Nat × Nat) : Ent := (e.1, .pointer (some ⟨e.2, 0, none⟩))
def entL (K s0 : List Wd) (l : LeafT) : Ent := (keyK K s0 l, .agg l.cells.toArray)
structure CmAt (K s0 : List Wd) (S : Nat → Prop) (w : World) (g : Nat) (ls : List LeafT) (m0 m1 : Nat) (E : List (List Nat × Nat)) (Z : Nat → Nat → Prop) : Prop where
 obj : Has w g 101 #[.map (some m0), .map (some m1), .int .u64 (amS ls : Int)]
 map0 : MapIs w m0 (E.map entP)
 map1 : MapIs w m1 (ls.map (entL K s0))
 ids : E.map (·.1) = idsOf ls
 trees : ∀ e ∈ E, Tr K s0 (Z e.2) w e.2 (lowT K s0 ls e.1)
 zone : ∀ e ∈ E, ∀ k, Z e.2 k → k < w.heap.size ∧ S k ∧ k ≠ g ∧ k ≠ m0 ∧ k ≠ m1
 apart : ∀ e ∈ E, ∀ e' ∈ E, e.2 ≠ e'.2 → ∀ k, Z e.2 k → ¬ Z e'.2 k
 gs : (E.map (·.2)).Nodup
 low : ∀ e ∈ E, 2 + 1 ≤ e.2
 inS : S g ∧ S m0 ∧ S m1
 ne : m0 ≠ m1
 fine : Fine K s0 ls
def Cm (K s0 : List Wd) (S : Nat → Prop) (w : World) (g : Nat) (ls : List LeafT) : Prop := ∃ m0 m1 E Z, CmAt K s0 S w g ls m0 m1 E Z
theorem map_has_ne {w : World} {b : Nat} {l : List Ent} (h : MapIs w b l) {j : Nat} {t : TypeId} {cs : Array Value} (hh : Has w j t cs) : j ≠ b := fun e => by
 obtain ⟨es, clock, hm, _⟩ := h
 unfold Has at hh
 rw [e, hm] at hh
 cases hh
variable {K s0 : List Wd} {S S' T : Nat → Prop} {w w' : World} {g m0 m1 : Nat} {ls : List LeafT} {E : List (List Nat × Nat)} {Z : Nat → Nat → Prop}
theorem CmAt.gm (h : CmAt K s0 S w g ls m0 m1 E Z) : g ≠ m0 ∧ g ≠ m1 := ⟨map_has_ne h.map0 h.obj, map_has_ne h.map1 h.obj⟩
theorem CmAt.kept (h : CmAt K s0 S w g ls m0 m1 E Z) (hk : Kept T w w') (hs : ∀ k, k < w.heap.size → S k → ¬ T k) : CmAt K s0 S w' g ls m0 m1 E Z :=
 ⟨h.obj.kept hk (hs _ h.obj.lt h.inS.1), h.map0.kept hk (hs _ h.map0.lt h.inS.2.1), h.map1.kept hk (hs _ h.map1.lt h.inS.2.2), h.ids, fun e he => (h.trees e he).kept hk (fun k hl hz => hs k hl (h.zone e he k hz).2.1), fun e he k hz => ⟨Nat.lt_of_lt_of_le (h.zone e he k hz).1 hk.size, (h.zone e he k hz).2⟩, h.apart, h.gs, h.low, h.inS, h.ne, h.fine⟩
theorem CmAt.quiet (h : CmAt K s0 S w g ls m0 m1 E Z) (hb : Below w.heap.size w w') : CmAt K s0 S w' g ls m0 m1 E Z := h.kept (Kept.of_below (S := fun _ => False) hb) (fun _ _ _ e => e)
theorem CmAt.zoneS (h : CmAt K s0 S w g ls m0 m1 E Z) (hs : ∀ k, k < w.heap.size → S k → S' k) : CmAt K s0 S' w g ls m0 m1 E Z :=
 ⟨h.obj, h.map0, h.map1, h.ids, h.trees, fun e he k hz => ⟨(h.zone e he k hz).1, hs k (h.zone e he k hz).1 (h.zone e he k hz).2.1, (h.zone e he k hz).2.2⟩, h.apart, h.gs, h.low, ⟨hs _ h.obj.lt h.inS.1, hs _ h.map0.lt h.inS.2.1, hs _ h.map1.lt h.inS.2.2⟩, h.ne, h.fine⟩
theorem Cm.kept (h : Cm K s0 S w g ls) (hk : Kept T w w') (hs : ∀ k, k < w.heap.size → S k → ¬ T k) : Cm K s0 S w' g ls := by
 obtain ⟨m0, m1, E, Z, h⟩ := h
 exact ⟨m0, m1, E, Z, h.kept hk hs⟩
theorem Cm.quiet (h : Cm K s0 S w g ls) (hb : Below w.heap.size w w') : Cm K s0 S w' g ls := h.kept (Kept.of_below (S := fun _ => False) hb) (fun _ _ _ e => e)
theorem Cm.zoneS (h : Cm K s0 S w g ls) (hs : ∀ k, k < w.heap.size → S k → S' k) : Cm K s0 S' w g ls := by
 obtain ⟨m0, m1, E, Z, h⟩ := h
 exact ⟨m0, m1, E, Z, h.zoneS hs⟩
theorem Cm.lt (h : Cm K s0 S w g ls) : g < w.heap.size := by
 obtain ⟨m0, m1, E, Z, h⟩ := h
 exact h.obj.lt
theorem Cm.fine (h : Cm K s0 S w g ls) : Fine K s0 ls := by
 obtain ⟨m0, m1, E, Z, h⟩ := h
 exact CmAt.fine h
theorem CmAt.cells (h : CmAt K s0 S w g ls m0 m1 E Z) : w.cell? ⟨g, 0, none⟩ = some (.map (some m0)) ∧ w.cell? ⟨g, 1, none⟩ = some (.map (some m1)) ∧ w.cell? ⟨g, 2, none⟩ = some (.int .u64 (amS ls : Int)) := ⟨h.obj.cell_is rfl, h.obj.cell_is rfl, h.obj.cell_is rfl⟩
set_option maxRecDepth 100000 in
theorem build_commit (a b : Nat) (w : World) : (Instr.build 101 #[(0, .map (some a)), (1, .map (some b))]).run Tryz.prog w = .ok (.agg #[.map (some a), .map (some b), .int .u64 0]) w := by kernel_rfl
set_option maxRecDepth 100000 in
set_option maxHeartbeats 1000000 in
theorem coNew_is (K s0 : List Wd) (S : Nat → Prop) (w : World) (hn : ∀ k, w.heap.size ≤ k → S k) : Calls Tryz.prog 10 #[] w fun e w' => ∃ g, e = .returned (.pointer (some ⟨g, 0, none⟩)) ∧ Cm K s0 S w' g [] ∧ Below w.heap.size w w' ∧ w.heap.size ≤ g := by
 have hs1 : (w.alloc (.map #[] 0)).heap.size = w.heap.size + 1 := by simp
 have hs2 : ((w.alloc (.map #[] 0)).alloc (.map #[] 0)).heap.size = w.heap.size + 1 + 1 := by simp
 obtain ⟨W3, hW3⟩ : ∃ y, y = ((w.alloc (.map #[] 0)).alloc (.map #[] 0)).alloc (.cells #[.map (some w.heap.size), .map (some (w.heap.size + 1)), .int .u64 0] 101) := ⟨_, rfl⟩
 have hm0 : MapIs W3 w.heap.size [] := by
  rw [hW3]
  exact (MapIs.new w).kept (S := fun _ => False) (((Kept.refl _ _).alloc _).alloc _) (fun h => h)
 have hm1 : MapIs W3 (w.heap.size + 1) [] := by
  have := MapIs.new (w.alloc (.map #[] 0))
  rw [hs1] at this
  rw [hW3]
  exact this.kept (S := fun _ => False) ((Kept.refl _ _).alloc _) (fun h => h)
 have hob : Has W3 (w.heap.size + 1 + 1) 101 #[.map (some w.heap.size), .map (some (w.heap.size + 1)), .int .u64 0] := by
  have := Has.new ((w.alloc (.map #[] 0)).alloc (.map #[] 0)) 101 #[.map (some w.heap.size), .map (some (w.heap.size + 1)), .int .u64 0]
  rw [hs2] at this
  rw [hW3]
  exact this
 have Aa : Below w.heap.size w W3 := by
  rw [hW3]
  exact (((Below.refl _ _).alloc (Nat.le_refl _) _).alloc (by rw [hs1]; omega) _).alloc (by rw [hs2]; omega) _
 have hcm : Cm K s0 S W3 (w.heap.size + 1 + 1) [] := ⟨w.heap.size, w.heap.size + 1, [], fun _ _ => False, hob, hm0, hm1, rfl, fun e he => (by cases he), fun e he => (by cases he), fun e he => (by cases he), List.nodup_nil, fun e he => (by cases he), ⟨hn _ (by omega), hn _ (Nat.le_refl _), hn _ (by omega)⟩, by omega, fine_nil⟩
 have Ab := Hh (And.intro hcm Aa)
 have EW := Hh hW3
 have hmm := @run_makeMap Tryz.prog
 have hbd := build_commit w.heap.size (w.heap.size + 1)
 clear hm0 hm1 hob Aa hcm hW3 hs1 hs2 hn
 go_enter Tryz.func10, Tryz.ntmps10
 go_wp2
 go_ret
 have hf := Ab.o
 rw [EW.o] at hf
 exact ⟨_, rfl, hf.1, hf.2, by omega⟩
end
section
/- A leaf more in a commit: what its blocks are then. -/

variable {K s0 : List Wd} {S : Nat → Prop} {w W wt w5 : World} {g m0 m1 q : Nat} {ls : List LeafT} {l : LeafT} {E : List (List Nat × Nat)} {Z : Nat → Nat → Prop} {Zt : Nat → Prop}
theorem ent_eq {E : List (List Nat × Nat)} (h : (E.map (·.2)).Nodup) {a b : List Nat × Nat} (ha : a ∈ E) (hb : b ∈ E) (e : a.2 = b.2) : a = b := by
 induction E with
 | nil => cases ha
 | cons x E ih =>
  rw [List.map_cons, List.nodup_cons] at h
  rcases List.mem_cons.1 ha with ha | ha
  · rcases List.mem_cons.1 hb with hb | hb
    · rw [ha, hb]
    · exact absurd (List.mem_map.2 ⟨b, hb, by rw [← e, ha]⟩) h.1
  · rcases List.mem_cons.1 hb with hb | hb
    · exact absurd (List.mem_map.2 ⟨a, ha, by rw [e, hb]⟩) h.1
    · exact ih h.2 ha hb
theorem ent_eq1 {E : List (List Nat × Nat)} (h : (E.map (·.1)).Nodup) {a b : List Nat × Nat} (ha : a ∈ E) (hb : b ∈ E) (e : a.1 = b.1) : a = b := by
 induction E with
 | nil => cases ha
 | cons x E ih =>
  rw [List.map_cons, List.nodup_cons] at h
  rcases List.mem_cons.1 ha with ha | ha
  · rcases List.mem_cons.1 hb with hb | hb
    · rw [ha, hb]
    · exact absurd (List.mem_map.2 ⟨b, hb, by rw [← e, ha]⟩) h.1
  · rcases List.mem_cons.1 hb with hb | hb
    · exact absurd (List.mem_map.2 ⟨a, ha, by rw [e, hb]⟩) h.1
    · exact ih h.2 ha hb
theorem put_same {l : List Ent} (hd : (l.map (·.1)).Nodup) {k : List Nat} {v : Value} (h : (k, v) ∈ l) : putL l k v = l := by
 obtain ⟨j, hj⟩ := List.getElem?_of_mem h
 rw [putL_at v hj hd]
 obtain ⟨hlt, e⟩ := List.getElem?_eq_some_iff.1 hj
 rw [← e]
 exact List.set_getElem_self hlt
theorem ids_ents (E : List (List Nat × Nat)) : (E.map entP).map (·.1) = E.map (·.1) := by rw [List.map_map]; rfl
theorem ents_more (h : CmAt K s0 S w g ls m0 m1 E Z) (hq : ((l.id, q) ∈ E ∧ Zt = Z q) ∨ (l.id ∉ idsOf ls ∧ w.heap.size ≤ q)) :
   ∃ E' : List (List Nat × Nat), E'.map (·.1) = idsOf (ls ++ [l]) ∧ putL (E.map entP) l.id (.pointer (some ⟨q, 0, none⟩)) = E'.map entP ∧ (∀ e ∈ E', e = (l.id, q) ∨ (e ∈ E ∧ e.2 ≠ q ∧ e.1 ≠ l.id)) ∧ (E'.map (·.2)).Nodup ∧ (l.id, q) ∈ E' := by
 have hid : (E.map (·.1)).Nodup := by rw [h.ids]; exact ids_nodup ls
 rcases hq with ⟨hq, -⟩ | ⟨hne, hq⟩
 · refine ⟨E, ?_, put_same (by rw [ids_ents]; exact hid) (List.mem_map.2 ⟨_, hq, rfl⟩), fun e he => ?_, h.gs, hq⟩
   · rw [idsOf_snoc, h.ids]
     unfold idStep
     rw [if_pos (by rw [← h.ids]; exact List.mem_map.2 ⟨_, hq, rfl⟩)]
   · by_cases e1 : e = (l.id, q)
     · exact .inl e1
     · exact .inr ⟨he, fun e2 => e1 (ent_eq h.gs he hq e2), fun e2 => e1 (ent_eq1 hid he hq e2)⟩
 · have hlt : ∀ e ∈ E, e.2 < w.heap.size := fun e he => (h.trees e he).lt
   have Aa : ∀ e ∈ E, e.1 ≠ l.id := fun e he e2 => hne (by rw [← h.ids]; exact List.mem_map.2 ⟨e, he, e2⟩)
   refine ⟨E ++ [(l.id, q)], ?_, ?_, fun e he => ?_, ?_, by simp⟩
   · rw [idsOf_snoc, List.map_append, h.ids]
     unfold idStep
     rw [if_neg hne]
     rfl
   · rw [putL_none _ (fun p hp e => by
       obtain ⟨x, hx, rfl⟩ := List.mem_map.1 hp
       exact Aa x hx e), List.map_append]
     rfl
   · rcases List.mem_append.1 he with he | he
     · exact .inr ⟨he, by have := hlt e he; omega, Aa e he⟩
     · exact .inl (List.mem_singleton.1 he)
   · rw [List.map_append, List.nodup_append]
     refine ⟨h.gs, by simp, fun a ha b hb e => ?_⟩
     obtain ⟨x, hx, rfl⟩ := List.mem_map.1 ha
     rw [List.map_cons, List.map_nil, List.mem_singleton] at hb
     have := hlt x hx
     omega
theorem add_fin (h : CmAt K s0 S w g ls m0 m1 E Z) (hn : ∀ k, w.heap.size ≤ k → S k) (hl : l.ok) (he : addE K s0 ls l = 0) (hb : Below w.heap.size w W) (hq : ((l.id, q) ∈ E ∧ Zt = Z q) ∨ (l.id ∉ idsOf ls ∧ ∀ k, Zt k → w.heap.size ≤ k)) (hzl : ∀ k, Zt k → k < W.heap.size) (hlow : 2 + 1 ≤ q)
   (htr : Tr K s0 (fun k => (Zt k ∨ W.heap.size ≤ k) ∧ k < wt.heap.size) wt q (lowT K s0 (ls ++ [l]) l.id)) (hkt : Kept Zt W wt) (hk5 : Kept (fun k => k = m0 ∨ k = m1 ∨ k = g) wt w5)
   (hob : Has w5 g 101 #[.map (some m0), .map (some m1), .int .u64 ((amS ls + l.am : Nat) : Int)]) (hm0 : MapIs w5 m0 (putL (E.map entP) l.id (.pointer (some ⟨q, 0, none⟩)))) (hm1 : MapIs w5 m1 (putL (ls.map (entL K s0)) (keyK K s0 l) (.agg l.cells.toArray))) :
   Cm K s0 S w5 g (ls ++ [l]) ∧ Kept S w w5 := by
 have hWs := hb.size
 have htS := hkt.size
 have h5S := hk5.size
 have hzt : ∀ k, (Zt k ∨ W.heap.size ≤ k) → S k ∧ k ≠ g ∧ k ≠ m0 ∧ k ≠ m1 := fun k hk => by
   have a1 := h.obj.lt
   have a2 := h.map0.lt
   have a3 := h.map1.lt
   rcases hk with hk | hk
   · rcases hq with ⟨hq, e⟩ | ⟨_, hq⟩
     · rw [e] at hk
       exact (h.zone _ hq k hk).2
     · have := hq k hk
       exact ⟨hn k this, by omega, by omega, by omega⟩
   · exact ⟨hn k (by omega), by omega, by omega, by omega⟩
 have hqa := htr.at
 have hqn : ((l.id, q) ∈ E ∧ Zt = Z q) ∨ (l.id ∉ idsOf ls ∧ w.heap.size ≤ q) := by
   rcases hq with hq | ⟨h1, h2⟩
   · exact .inl hq
   · refine .inr ⟨h1, ?_⟩
     rcases hqa.1 with h3 | h3
     · exact h2 q h3
     · omega
 obtain ⟨E', e1, e2, e3, e4, e5⟩ := ents_more (l := l) h hqn
 have hap : ∀ e ∈ E, e.2 ≠ q → ∀ k, Z e.2 k → ¬ Zt k ∧ ¬ W.heap.size ≤ k := fun e hE hne k hz => by
   have hk := (h.zone e hE k hz).1
   refine ⟨fun hz2 => ?_, by omega⟩
   rcases hq with ⟨hq, e6⟩ | ⟨_, hq⟩
   · rw [e6] at hz2
     exact h.apart e hE _ hq hne k hz hz2
   · have := hq k hz2
     omega
 refine ⟨⟨m0, m1, E', fun p k => if p = q then (Zt k ∨ W.heap.size ≤ k) ∧ k < wt.heap.size else Z p k, ?_, ?_, ?_, e1, fun e hE => ?_, fun e hE k hz => ?_, fun a ha b hb' hne k hz hz2 => ?_, e4, fun e hE => ?_, h.inS, h.ne, h.fine.snoc hl he⟩, ?_⟩
 · rw [amS_app, amS_one]; exact hob
 · rw [← e2]; exact hm0
 · have hnk := (addE_zero he).2.1
   rw [putL_none _ (fun p hp e => hnk (by
     obtain ⟨x, hx, rfl⟩ := List.mem_map.1 hp
     exact List.mem_map.2 ⟨x, hx, e⟩))] at hm1
   rw [List.map_append]
   exact hm1
 · rcases e3 e hE with rfl | ⟨hE, hne, hni⟩
   · have : (fun k => if (l.id, q).2 = q then (Zt k ∨ W.heap.size ≤ k) ∧ k < wt.heap.size else Z (l.id, q).2 k) = fun k => (Zt k ∨ W.heap.size ≤ k) ∧ k < wt.heap.size := by funext k; rw [if_pos rfl]
     rw [this]
     exact htr.kept hk5 (fun k _ hz e => by
       have := hzt k hz.1
       rcases e with e | e | e
       · exact this.2.2.1 e
       · exact this.2.2.2 e
       · exact this.2.1 e)
   · have : (fun k => if e.2 = q then (Zt k ∨ W.heap.size ≤ k) ∧ k < wt.heap.size else Z e.2 k) = Z e.2 := by funext k; rw [if_neg hne]
     rw [this, low_other (fun e6 => hni e6.symm)]
     have t1 := (h.trees e hE).quiet hb
     have t2 := t1.kept hkt (fun k _ hz => (hap e hE hne k hz).1)
     exact t2.kept hk5 (fun k _ hz e6 => by
       have := (h.zone e hE k hz).2.2
       rcases e6 with e6 | e6 | e6
       · exact this.2.1 e6
       · exact this.2.2 e6
       · exact this.1 e6)
 · rcases e3 e hE with rfl | ⟨hE, hne, hni⟩
   · have hz' : (Zt k ∨ W.heap.size ≤ k) ∧ k < wt.heap.size := by simpa using hz
     exact ⟨by omega, hzt k hz'.1⟩
   · have hz' : Z e.2 k := by rw [if_neg hne] at hz; exact hz
     have := h.zone e hE k hz'
     exact ⟨by omega, this.2⟩
 · rcases e3 a ha with rfl | ⟨hA, hna, _⟩
   · rcases e3 b hb' with rfl | ⟨hB, hnb, _⟩
     · exact hne rfl
     · have hz' : (Zt k ∨ W.heap.size ≤ k) ∧ k < wt.heap.size := by simpa using hz
       have hz2' : Z b.2 k := by rw [if_neg hnb] at hz2; exact hz2
       have := hap b hB hnb k hz2'
       rcases hz'.1 with h6 | h6
       · exact this.1 h6
       · exact this.2 h6
   · have hz' : Z a.2 k := by rw [if_neg hna] at hz; exact hz
     rcases e3 b hb' with rfl | ⟨hB, hnb, _⟩
     · have hz2' : (Zt k ∨ W.heap.size ≤ k) ∧ k < wt.heap.size := by simpa using hz2
       have := hap a hA hna k hz'
       rcases hz2'.1 with h6 | h6
       · exact this.1 h6
       · exact this.2 h6
     · have hz2' : Z b.2 k := by rw [if_neg hnb] at hz2; exact hz2
       exact h.apart a hA b hB hne k hz' hz2'
 · rcases e3 e hE with rfl | ⟨hE, hne, hni⟩
   · exact hlow
   · exact h.low e hE
 · have k1 : Kept S w W := Kept.of_below hb
   have k2 : Kept S w wt := k1.step hkt (fun k hz => .inl (hzt k (.inl hz)).1)
   exact k2.step hk5 (fun k e => .inl (by
     rcases e with rfl | rfl | rfl
     · exact h.inS.2.1
     · exact h.inS.2.2
     · exact h.inS.1))
theorem add_put (hs0 : s0.length = 8) (hf : Fine K s0 ls) (hl : l.ok) (he : addE K s0 ls l = 0) {v : World} (htr : Tr K s0 Zt W q (lowT K s0 ls l.id)) (hb : Below W.heap.size W v) (hzl : ∀ k, Zt k → k < W.heap.size) {sv : Value} (hv : Bytes v v.heap.size sv (leafB l)) :
  Calls Tryz.prog 43 #[.pointer (some ⟨q, 0, none⟩), arr (keyK K s0 l), leafV sv l.am] v fun e w' => e = .returned (.int .i64 0) ∧ Tr K s0 (fun k => (Zt k ∨ W.heap.size ≤ k) ∧ k < w'.heap.size) w' q (lowT K s0 (ls ++ [l]) l.id) ∧ Kept Zt W w' := by
 obtain ⟨p1, p2⟩ := put_low hf hl he
 have Aa : (leafB l).length ≤ 1000000 := by
  have : putE (lowT K s0 ls l.id) (lfL K s0 l) = 0 := p1
  unfold putE at this
  split at this
  · cases this
  · split at this
    · cases this
    · next hshort => have h3 : ¬ 65536 < (leafB l).length := hshort; omega
 have t1 : Tr K s0 (fun k => Zt k ∨ W.heap.size ≤ k) v q (lowT K s0 ls l.id) := (htr.quiet hb).zone (fun k _ hz => .inl hz)
 refine (tr_put t1 hs0 (fun k hk => .inr (Nat.le_trans hb.size hk)) (lfL K s0 l) (tagD_hash K s0 hs0 _ _) sv hv hl.am Aa).mono fun e w' ⟨r1, r2, r3⟩ => ?_
 rw [p1] at r1
 rw [p2] at r2
 refine ⟨r1, r2.zone (fun k hk hz => ⟨hz, hk⟩), ?_⟩
 have k1 : Kept Zt W v := Kept.of_below hb
 exact k1.step r3 (fun k hk => hk)
theorem sum_good {w' : World} {e : Ending} (hg : ¬ leafBad l = true) (h : (leafBad l = false ∧ ∃ a c, e = .returned (leafV (.slice a (leafB l).length c) l.am) ∧ Bytes w' w'.heap.size (.slice a (leafB l).length c) (leafB l)) ∨ (leafBad l = true ∧ e = .returned (leafV (.slice none 0 0) 0))) :
   ∃ v, e = .returned (leafV v l.am) ∧ Bytes w' w'.heap.size v (leafB l) := by
 rcases h with ⟨_, a, c, h1, h2⟩ | ⟨h1, _⟩
 · exact ⟨_, h1, h2⟩
 · exact absurd h1 hg
end
/- The walk of tlv's Decode. -/

structure TdW (w : World) (b0 : List Nat) (f : Nat) (rest : List Nat) (ms : List RecM) (ra : Option Addr) (rc : Nat) (oa : Option Addr) (oc : Nat) (wr : World) : Prop where
 go : tdec b0 = decF f (ms.map RecM.r) rest
 lt : rest.length < f
 src : Bytes w w.heap.size (.slice ra rest.length rc) rest
 own : wr.ownsRow w.heap.size 139 2 (.slice oa ms.length oc) ms.length (ms.flatMap RecM.cells)
 vals : ∀ x ∈ ms, x.t < 18446744073709551616 ∧ wr.ownsRow w.heap.size 5 1 (.slice x.a x.v.length x.c) x.v.length (bcells x.v) ∧ (∀ y ∈ x.v, y < 256) ∧ x.v.length ≤ 65536
 few : ms.length ≤ 256
 bel : Below w.heap.size w wr
theorem vals_kept {w w' : World} {base b2 : Nat} {v : Value} {n m : Nat} {xs cs : List Value} {vo : Value} (h : w.ownsRow base 5 1 v n xs) (ho : w.ownsRow b2 139 2 vo m cs) (hg : w.grownBy w' vo.ownBlock) : w'.ownsRow base 5 1 v n xs :=
 own_kept h (Kept.of_grown hg) (fun k e e2 => own_own_ne h ho (by decide) k e e2.symm)
theorem TdW.step {w wr w1 w2 : World} {b0 : List Nat} {f f' : Nat} {rest rest' : List Nat} {ms : List RecM} {ra ra' : Option Addr} {rc rc' : Nat} {oa oa' xa : Option Addr} {oc oc' xc tv : Nat} {bs : List Nat} (h : TdW w b0 f rest ms ra rc oa oc wr)
   (hx : w1.ownsRow w.heap.size 5 1 (.slice xa bs.length xc) bs.length (bcells bs)) (hg1 : wr.grownBy w1 none) (hbs : ∀ y ∈ bs, y < 256) (hbl : bs.length ≤ 65536) (htv : tv < 18446744073709551616)
   (ho : w2.ownsRow w.heap.size 139 2 (.slice oa' (ms.length + 1) oc') (ms.length + 1) (ms.flatMap RecM.cells ++ RecM.cells ⟨tv, xa, bs, xc⟩)) (C : Obj) (hg2 : (w1.alloc C).grownBy w2 (Value.slice oa ms.length oc).ownBlock)
   (hgo : tdec b0 = decF f' ((ms ++ [(⟨tv, xa, bs, xc⟩ : RecM)]).map RecM.r) rest') (hlt : rest'.length < f') (hfew : ms.length + 1 ≤ 256) (hsrc : Bytes w w.heap.size (.slice ra' rest'.length rc') rest') :
   TdW w b0 f' rest' (ms ++ [(⟨tv, xa, bs, xc⟩ : RecM)]) ra' rc' oa' oc' w2 := by
 have hk1 : Kept (fun k => some k = (none : Option Nat)) wr w1 := Kept.of_grown hg1
 have hb1 : Below w.heap.size w w1 := h.bel.grown hg1 h.bel.size (fun k e => by cases e)
 have Ab : Below w.heap.size w (w1.alloc C) := hb1.alloc (by exact hb1.size) C
 have Aa : (w1.alloc C).ownsRow w.heap.size 139 2 (.slice oa ms.length oc) ms.length (ms.flatMap RecM.cells) := (own_kept h.own hk1 (fun k _ e => by cases e)).alloc C
 refine ⟨hgo, hlt, hsrc, ?_, ?_, by rw [List.length_append]; exact hfew, Ab.grown hg2 (by exact Ab.size) (own_blk Aa)⟩
 · rw [List.flatMap_append, List.length_append]
   simpa using ho
 · intro x hx'
   rcases List.mem_append.1 hx' with h1 | h1
   · obtain ⟨p1, p2, p3, p4⟩ := h.vals x h1
     exact ⟨p1, vals_kept ((own_kept p2 hk1 (fun k _ e => by cases e)).alloc C) Aa hg2, p3, p4⟩
   · rw [List.mem_singleton.1 h1]
     exact ⟨htv, vals_kept (hx.alloc C) Aa hg2, hbs, hbl⟩
def TdP (w : World) (R : Except Nat (List Rec)) (e : Ending) (w' : World) : Prop :=
 match R with
  | .ok rs => ∃ ms a c, e = .returned (.tuple #[.slice a ms.length c, .int .i64 0]) ∧ ms.map RecM.r = rs ∧ RecsAt w' a ms.length ms ∧ (∀ A, a = some A → w.heap.size ≤ A.block) ∧ ms.length ≤ 256 ∧ Below w.heap.size w w'
  | .error x => e = .returned (.tuple #[.slice none 0 0, .int .i64 (x : Int)]) ∧ Below w.heap.size w w'
theorem TdW.done {w wr : World} {b0 : List Nat} {f : Nat} {ms : List RecM} {ra : Option Addr} {rc : Nat} {oa : Option Addr} {oc : Nat} (h : TdW w b0 f [] ms ra rc oa oc wr) : TdP w (tdec b0) (.returned (.tuple #[.slice oa ms.length oc, .int .i64 0])) wr := by
 obtain ⟨f', rfl⟩ : ∃ f', f = f' + 1 := ⟨f - 1, by have := h.lt; omega⟩
 rw [h.go, decF_stop rfl]
 obtain ⟨p1, p2⟩ := own_rows h.own rfl (fun x _ => rfl)
 exact ⟨ms, oa, oc, rfl, rfl, ⟨p1, fun x hx => ⟨(h.vals x hx).1, by have := (h.vals x hx).2.2.2; omega, own_bytes (h.vals x hx).2.1 rfl (h.vals x hx).2.2.1 (Nat.le_refl _)⟩⟩, fun A e => (p2 A e).1, h.few, h.bel⟩
theorem info_rec : (Tryz.prog.info? 139).map (fun i => (i.zero, i.size, i.bytes)) = some (some (.agg (RecM.cells ⟨0, none, [], 0⟩).toArray), 2, 32) := by kernel_rfl
end Go.Proofs.YtknfbccbdiidjaaGreatDoor
