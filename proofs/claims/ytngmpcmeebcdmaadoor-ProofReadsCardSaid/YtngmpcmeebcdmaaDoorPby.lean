/- Plain laws of a proof's bytes. -/
import Derived.Test.YtngmpcmeebcdmaaDoorPf5
import Derived.Test.YtngmpcmeebcdmaaDoorRef0
namespace Go.Proofs.YtngmpcmeebcdmaaDoor
set_option linter.unusedVariables false
set_option linter.unusedSimpArgs false
open Go.ChangeShapes Go.WideShapes Go.ChangeAt Go.RowKit Go.Maps

theorem drop_over (x y : List Nat) (n k : Nat) (h : x.length = n) : (x ++ y).drop (n + k) = y.drop k := by
  rw [List.drop_append, List.drop_eq_nil_of_le (by omega), List.nil_append]; congr 1; omega
/-- a node's bytes. -/
def ndB (x : Nd) : List Nat := x.h ++ eight x.s
/-- a proof's bytes. -/
def pbytes (bb : List Nat) (xs : List Nd) : List Nat := bb ++ xs.flatMap ndB
theorem eight_lt (n : Nat) : ∀ x ∈ eight n, x < 256 := by rw [← eightR_full]; exact eightR_lt n 8
theorem ndB_len {x : Nd} (h : IsHash x.h) : (ndB x).length = 40 := by unfold ndB; rw [List.length_append, eight_length, h.1]
theorem pbytes_succ {bb : List Nat} {xs : List Nd} {k : Nat} {x : Nd} (h : xs[k]? = some x) : pbytes bb (xs.take (k + 1)) = pbytes bb (xs.take k) ++ (x.h ++ eight x.s) := by
  unfold pbytes
  rw [List.take_add_one, h]
  simp [List.flatMap_append, ndB]
theorem pbytes_len {bb : List Nat} (hb : bb.length = 32) : ∀ xs : List Nd, (∀ x ∈ xs, IsHash x.h) → (pbytes bb xs).length = 32 + 40 * xs.length
  | [], _ => by simp [pbytes, hb]
  | x :: xs, h => by
    have ih := pbytes_len hb xs (fun y hy => h y (List.mem_cons_of_mem _ hy))
    have h40 := ndB_len (h x (List.mem_cons_self ..))
    unfold pbytes at ih ⊢
    rw [List.flatMap_cons, List.length_append, List.length_append, h40, List.length_cons]
    rw [List.length_append] at ih
    omega
theorem pbytes_lt {bb : List Nat} (hb : IsHash bb) (xs : List Nd) (h : ∀ x ∈ xs, IsHash x.h) : ∀ y ∈ pbytes bb xs, y < 256 := by
  intro y hy
  rcases List.mem_append.1 hy with h1 | h1
  · exact hb.2 y h1
  · obtain ⟨x, hx, h2⟩ := List.mem_flatMap.1 h1
    rcases List.mem_append.1 h2 with h3 | h3
    · exact (h x hx).2 y h3
    · exact eight_lt _ y h3
theorem eight_at (s j : Nat) (h : j < 8) : (eight s)[j]? = some (s / 2 ^ (8 * (7 - j)) % 256) := by
  unfold eight
  rw [List.getElem?_map, List.getElem?_range h]; rfl
theorem eight_nth (s j : Nat) (h : j < 8) : (eight s).take (j + 1) = (eight s).take j ++ [s / 2 ^ (8 * (7 - j)) % 256] := by
  rw [List.take_add_one, eight_at s j h]; rfl
theorem bcells_app (x y : List Nat) : bcells x ++ bcells y = bcells (x ++ y) := by simp [bcells]

/-- the number of some bytes, the greatest first. -/
def num8 (l : List Nat) : Nat := l.foldl (fun x c => x * 256 + c) 0
theorem num8_snoc (l : List Nat) (c : Nat) : num8 (l ++ [c]) = num8 l * 256 + c := by simp [num8]
theorem num8_lt : ∀ (n : Nat) (l : List Nat), l.length = n → (∀ x ∈ l, x < 256) → num8 l < 256 ^ n := by
  intro n
  induction n with
  | zero => intro l hl _; obtain rfl := List.length_eq_zero_iff.1 hl; decide
  | succ n ih =>
    intro l hl hx
    obtain ⟨l', c, rfl⟩ : ∃ l' c, l = l' ++ [c] := ⟨l.dropLast, l.getLast (by intro e; subst e; simp at hl), (List.dropLast_concat_getLast _).symm⟩
    have h1 := ih l' (by simpa using hl) (fun x h => hx x (List.mem_append_left _ h))
    have h2 := hx c (by simp)
    rw [num8_snoc, Nat.pow_succ]
    omega
theorem len8 {l : List Nat} (h : l.length = 8) : ∃ a b c d e f g i, l = [a, b, c, d, e, f, g, i] := by
  match l, h with
  | [a, b, c, d, e, f, g, i], _ => exact ⟨a, b, c, d, e, f, g, i, rfl⟩
theorem eight_list (s : Nat) : eight s = [s / 2 ^ 56 % 256, s / 2 ^ 48 % 256, s / 2 ^ 40 % 256, s / 2 ^ 32 % 256, s / 2 ^ 24 % 256, s / 2 ^ 16 % 256, s / 2 ^ 8 % 256, s / 2 ^ 0 % 256] := rfl
theorem num8_eight (s : Nat) (h : s < 18446744073709551616) : num8 (eight s) = s := by
  rw [eight_list]
  simp only [num8, List.foldl_cons, List.foldl_nil]
  omega
theorem eight_num8 {l : List Nat} (hl : l.length = 8) (hx : ∀ x ∈ l, x < 256) : eight (num8 l) = l := by
  obtain ⟨a, b, c, d, e, f, g, i, rfl⟩ := len8 hl
  have h := fun x (h : x ∈ [a, b, c, d, e, f, g, i]) => hx x h
  have h0 := h a (by simp)
  have h1 := h b (by simp)
  have h2 := h c (by simp)
  have h3 := h d (by simp)
  have h4 := h e (by simp)
  have h5 := h f (by simp)
  have h6 := h g (by simp)
  have h7 := h i (by simp)
  clear h hx
  rw [eight_list]
  simp only [num8, List.foldl_cons, List.foldl_nil]
  congr 1; · omega
  congr 1; · omega
  congr 1; · omega
  congr 1; · omega
  congr 1; · omega
  congr 1; · omega
  congr 1; · omega
  congr 1; omega

/-- how many heights below h are not bare. -/
def cntF (bare : Nat → Bool) (h : Nat) : Nat := ((List.range h).filter fun j => !bare j).length
theorem cnt_zero (bare : Nat → Bool) : cntF bare 0 = 0 := rfl
theorem cnt_bare {bare : Nat → Bool} {h : Nat} (e : bare h = true) : cntF bare (h + 1) = cntF bare h := by
  unfold cntF; rw [List.range_succ, List.filter_append]; simp [e]
theorem cnt_node {bare : Nat → Bool} {h : Nat} (e : bare h = false) : cntF bare (h + 1) = cntF bare h + 1 := by
  unfold cntF; rw [List.range_succ, List.filter_append]; simp [e]
theorem cnt_le (bare : Nat → Bool) (h : Nat) : cntF bare h ≤ h := by
  unfold cntF; have := List.length_filter_le (fun j => !bare j) (List.range h); rw [List.length_range] at this; exact this
theorem cnt_mono (bare : Nat → Bool) (h : Nat) : ∀ k, cntF bare h ≤ cntF bare (h + k)
  | 0 => Nat.le_refl _
  | k + 1 => by
    refine Nat.le_trans (cnt_mono bare h k) ?_
    by_cases e : bare (h + k) = true
    · rw [← Nat.add_assoc, cnt_bare e]; exact Nat.le_refl _
    · rw [← Nat.add_assoc, cnt_node (by simpa using e)]; omega
theorem cnt_top {bare : Nat → Bool} {h : Nat} (hh : h < 256) (e : bare h = false) : cntF bare h + 1 ≤ cntF bare 256 := by
  have := cnt_mono bare (h + 1) (256 - (h + 1))
  rw [cnt_node e] at this
  rwa [show h + 1 + (256 - (h + 1)) = 256 by omega] at this
theorem cnt_congr {f g : Nat → Bool} {h : Nat} (e : ∀ j, j < h → f j = g j) : cntF f h = cntF g h := by
  unfold cntF
  congr 1
  exact List.filter_congr fun j hj => by rw [e j (List.mem_range.1 hj)]
/-- the node that stands at place k of a proof's bytes. -/
def decNd (b : List Nat) (k : Nat) : Nd := ⟨(b.drop (32 + 40 * k)).take 32, num8 ((b.drop (32 + 40 * k + 32)).take 8)⟩
def decNds (b : List Nat) (n : Nat) : List Nd := (List.range n).map (decNd b)
theorem decNds_succ (b : List Nat) (n : Nat) : decNds b (n + 1) = decNds b n ++ [decNd b n] := by simp [decNds, List.range_succ]
theorem decNds_len (b : List Nat) (n : Nat) : (decNds b n).length = n := by simp [decNds]
/-- the nodes of a proof's bytes, or why they are none. -/
def decP (b : List Nat) : Except Nat (List Nd) :=
  if b.length < 32 then .error 20
  else if b.length < 32 + 40 * cntF (bareB (b.take 32)) 256 then .error 20
  else if 32 + 40 * cntF (bareB (b.take 32)) 256 < b.length then .error 24
  else .ok (decNds b (cntF (bareB (b.take 32)) 256))
theorem decP_less {b : List Nat} (h : b.length < 32) : decP b = .error 20 := by unfold decP; rw [if_pos h]
theorem decP_short {b : List Nat} {h : Nat} (h32 : ¬ b.length < 32) (hh : h < 256) (e : bareB (b.take 32) h = false) (hl : b.length < 32 + 40 * (cntF (bareB (b.take 32)) h + 1)) : decP b = .error 20 := by
  have := cnt_top hh e
  unfold decP; rw [if_neg h32, if_pos (by omega)]
theorem decP_trail {b : List Nat} (h32 : ¬ b.length < 32) (hl : 32 + 40 * cntF (bareB (b.take 32)) 256 < b.length) : decP b = .error 24 := by
  unfold decP; rw [if_neg h32, if_neg (by omega), if_pos hl]
theorem decP_done {b : List Nat} (h32 : ¬ b.length < 32) (hl : 32 + 40 * cntF (bareB (b.take 32)) 256 = b.length) : decP b = .ok (decNds b (cntF (bareB (b.take 32)) 256)) := by
  unfold decP; rw [if_neg h32, if_neg (by omega), if_neg (by omega)]
theorem decP_errs {b : List Nat} {e : Nat} (h : decP b = .error e) : e = 20 ∨ e = 24 := by
  unfold decP at h
  split at h
  · cases h; exact .inl rfl
  · split at h
    · cases h; exact .inl rfl
    · split at h
      · cases h; exact .inr rfl
      · cases h
theorem dec_hash {b : List Nat} (hb : ∀ x ∈ b, x < 256) {k : Nat} (h : 32 + 40 * (k + 1) ≤ b.length) : IsHash (decNd b k).h ∧ (decNd b k).s < 18446744073709551616 := by
  refine ⟨⟨by simp only [decNd, List.length_take, List.length_drop]; omega, fun x hx => hb x (List.mem_of_mem_drop (List.mem_of_mem_take hx))⟩, ?_⟩
  exact num8_lt 8 _ (by simp only [List.length_take, List.length_drop]; omega) (fun x hx => hb x (List.mem_of_mem_drop (List.mem_of_mem_take hx)))
theorem nds_hash {b : List Nat} (hb : ∀ x ∈ b, x < 256) {n : Nat} (h : 32 + 40 * n ≤ b.length) : ∀ x ∈ decNds b n, IsHash x.h ∧ x.s < 18446744073709551616 := by
  intro x hx
  obtain ⟨k, hk, rfl⟩ := List.mem_map.1 hx
  exact dec_hash hb (by have := List.mem_range.1 hk; omega)
theorem flat_at {α : Type} (f : α → List Nat) (c : Nat) : ∀ (xs : List α), (∀ x ∈ xs, (f x).length = c) → ∀ (k : Nat) x, xs[k]? = some x → ((xs.flatMap f).drop (c * k)).take c = f x
  | [], _, k, x, h => by simp at h
  | y :: xs, hl, 0, x, h => by
    have e : y = x := by simpa using h
    subst e
    rw [Nat.mul_zero, List.drop_zero, List.flatMap_cons, List.take_append_of_le_length (Nat.le_of_eq (hl y (List.mem_cons_self ..)).symm), List.take_of_length_le (Nat.le_of_eq (hl y (List.mem_cons_self ..)))]
  | y :: xs, hl, k + 1, x, h => by
    have hy := hl y (List.mem_cons_self ..)
    have := flat_at f c xs (fun z hz => hl z (List.mem_cons_of_mem _ hz)) k x (by simpa using h)
    rw [List.flatMap_cons, show c * (k + 1) = c + c * k by rw [Nat.mul_succ, Nat.add_comm], drop_over _ _ c _ hy]
    exact this
theorem dec_at {bb : List Nat} (hbb : bb.length = 32) {xs : List Nd} (hh : ∀ x ∈ xs, IsHash x.h) (hs : ∀ x ∈ xs, x.s < 18446744073709551616) {k : Nat} {x : Nd} (hx : xs[k]? = some x) : decNd (pbytes bb xs) k = x := by
  have hm := List.mem_of_getElem? hx
  have h40 := flat_at ndB 40 xs (fun y hy => ndB_len (hh y hy)) k x hx
  have e1 : (pbytes bb xs).drop (32 + 40 * k) = (xs.flatMap ndB).drop (40 * k) := by
    unfold pbytes; rw [drop_over _ _ 32 _ hbb]
  have e2 : (pbytes bb xs).drop (32 + 40 * k + 32) = ((xs.flatMap ndB).drop (40 * k)).drop 32 := by rw [← e1, List.drop_drop]
  unfold decNd
  rw [e1, e2]
  have e3 : ((xs.flatMap ndB).drop (40 * k)).take 32 = x.h := by
    have := congrArg (List.take 32) h40
    rw [List.take_take] at this
    rw [show min 32 40 = 32 from rfl] at this
    rw [this, ndB, List.take_append_of_le_length (Nat.le_of_eq (hh x hm).1.symm), List.take_of_length_le (Nat.le_of_eq (hh x hm).1)]
  have e4 : (((xs.flatMap ndB).drop (40 * k)).drop 32).take 8 = eight x.s := by
    have := congrArg (List.drop 32) h40
    rw [List.drop_take] at this
    rw [show 40 - 32 = 8 from rfl] at this
    rw [this, ndB, show 32 = 32 + 0 from rfl, drop_over _ _ 32 0 (hh x hm).1, List.drop_zero]
  rw [e3, e4, num8_eight _ (hs x hm)]
theorem decNds_of {bb : List Nat} (hbb : bb.length = 32) {xs : List Nd} (hh : ∀ x ∈ xs, IsHash x.h) (hs : ∀ x ∈ xs, x.s < 18446744073709551616) : decNds (pbytes bb xs) xs.length = xs := by
  refine List.ext_getElem? fun k => ?_
  by_cases hk : k < xs.length
  · have hx : xs[k]? = some xs[k] := List.getElem?_eq_getElem hk
    rw [hx, decNds, List.getElem?_map, List.getElem?_range hk]
    exact congrArg some (dec_at hbb hh hs hx)
  · rw [List.getElem?_eq_none (by rw [decNds_len]; omega), List.getElem?_eq_none (by omega)]
theorem pbytes_head {bb : List Nat} (hbb : bb.length = 32) (xs : List Nd) : (pbytes bb xs).take 32 = bb := by
  unfold pbytes
  rw [List.take_append_of_le_length (Nat.le_of_eq hbb.symm), List.take_of_length_le (Nat.le_of_eq hbb)]
/-- what is read of a proof's bytes. -/
theorem dec_written {bb : List Nat} (hbb : bb.length = 32) {xs : List Nd} (hh : ∀ x ∈ xs, IsHash x.h) (hs : ∀ x ∈ xs, x.s < 18446744073709551616) :
    decP (pbytes bb xs) = if xs.length < cntF (bareB bb) 256 then .error 20 else if cntF (bareB bb) 256 < xs.length then .error 24 else .ok xs := by
  unfold decP
  rw [pbytes_head hbb, pbytes_len hbb xs hh, if_neg (by omega)]
  by_cases h1 : xs.length < cntF (bareB bb) 256
  · rw [if_pos h1, if_pos (by omega)]
  · rw [if_neg h1, if_neg (by omega)]
    by_cases h2 : cntF (bareB bb) 256 < xs.length
    · rw [if_pos h2, if_pos (by omega)]
    · rw [if_neg h2, if_neg (by omega), show cntF (bareB bb) 256 = xs.length by omega, decNds_of hbb hh hs]
theorem flat_dec {b : List Nat} (hb : ∀ x ∈ b, x < 256) : ∀ n, 32 + 40 * n ≤ b.length → (decNds b n).flatMap ndB = (b.drop 32).take (40 * n)
  | 0, _ => by simp [decNds]
  | n + 1, h => by
    rw [decNds_succ, List.flatMap_append, flat_dec hb n (by omega), List.flatMap_cons, List.flatMap_nil, List.append_nil]
    have e : ndB (decNd b n) = ((b.drop 32).drop (40 * n)).take 40 := by
      rw [List.drop_drop]
      have h8 : eight (decNd b n).s = ((b.drop (32 + 40 * n)).drop 32).take 8 := by
        rw [List.drop_drop]
        exact eight_num8 (by simp only [List.length_take, List.length_drop]; omega) (fun x hx => hb x (List.mem_of_mem_drop (List.mem_of_mem_take hx)))
      unfold ndB
      rw [h8]
      show (b.drop (32 + 40 * n)).take 32 ++ _ = _
      rw [show 40 = 32 + 8 from rfl, List.take_add]
    rw [e, show 40 * (n + 1) = 40 * n + 40 by omega, List.take_add]
/-- bytes that are a proof are just its bytes. -/
theorem dec_back {b : List Nat} (hb : ∀ x ∈ b, x < 256) {xs : List Nd} (h : decP b = .ok xs) : pbytes (b.take 32) xs = b ∧ IsHash (b.take 32) ∧ (∀ x ∈ xs, IsHash x.h ∧ x.s < 18446744073709551616) ∧ xs.length = cntF (bareB (b.take 32)) 256 := by
  unfold decP at h
  by_cases h32 : b.length < 32
  · rw [if_pos h32] at h; cases h
  rw [if_neg h32] at h
  by_cases h1 : b.length < 32 + 40 * cntF (bareB (b.take 32)) 256
  · rw [if_pos h1] at h; cases h
  rw [if_neg h1] at h
  by_cases h2 : 32 + 40 * cntF (bareB (b.take 32)) 256 < b.length
  · rw [if_pos h2] at h; cases h
  rw [if_neg h2] at h
  obtain rfl := Except.ok.inj h
  refine ⟨?_, ⟨by rw [List.length_take]; omega, fun x hx => hb x (List.mem_of_mem_take hx)⟩, nds_hash hb (by omega), decNds_len _ _⟩
  unfold pbytes
  rw [flat_dec hb _ (by omega), List.take_of_length_le (l := b.drop 32) (by rw [List.length_drop]; omega), List.take_append_drop]
/-- the bytes of the bits below h. -/
def partB (bb : List Nat) (h : Nat) : List Nat := (List.range 32).map fun i => bb.getD i 0 % 2 ^ min 8 (h - 8 * i)
theorem partB_len (bb : List Nat) (h : Nat) : (partB bb h).length = 32 := by simp [partB]
theorem partB_at (bb : List Nat) (h i : Nat) (hi : i < 32) : (partB bb h).getD i 0 = bb.getD i 0 % 2 ^ min 8 (h - 8 * i) := by
  unfold partB
  rw [List.getD_eq_getElem?_getD, List.getElem?_map, List.getElem?_range hi]; rfl
theorem getD_ext {a b : List Nat} {n : Nat} (ha : a.length = n) (hb : b.length = n) (h : ∀ i, i < n → a.getD i 0 = b.getD i 0) : a = b := by
  refine List.ext_getElem? fun i => ?_
  by_cases hi : i < n
  · have := h i hi
    rw [List.getD_eq_getElem?_getD, List.getD_eq_getElem?_getD, List.getElem?_eq_getElem (by omega), List.getElem?_eq_getElem (by omega)] at this
    rw [List.getElem?_eq_getElem (by omega), List.getElem?_eq_getElem (by omega)]
    exact congrArg some this
  · rw [List.getElem?_eq_none (by omega), List.getElem?_eq_none (by omega)]
theorem partB_zero (bb : List Nat) : partB bb 0 = List.replicate 32 0 := by
  refine getD_ext (partB_len bb 0) (by simp) fun i hi => ?_
  rw [partB_at bb 0 i hi, show min 8 (0 - 8 * i) = 0 by omega, Nat.pow_zero, Nat.mod_one, List.getD_eq_getElem?_getD, List.getElem?_replicate]
  simp [hi]
theorem partB_full {bb : List Nat} (hb : IsHash bb) : partB bb 256 = bb := by
  refine getD_ext (partB_len bb 256) hb.1 fun i hi => ?_
  rw [partB_at bb 256 i hi, show min 8 (256 - 8 * i) = 8 by omega]
  have := hb.byte i hi
  omega
theorem partB_le {bb : List Nat} (hb : IsHash bb) (h i : Nat) (hi : i < 32) : (partB bb h).getD i 0 < 256 := by
  rw [partB_at bb h i hi]
  exact Nat.lt_of_le_of_lt (Nat.mod_le _ _) (hb.byte i hi)
theorem partB_hash {bb : List Nat} (hb : IsHash bb) (h : Nat) : IsHash (partB bb h) := by
  refine ⟨partB_len bb h, fun x hx => ?_⟩
  obtain ⟨i, hi, rfl⟩ := List.getElem_of_mem hx
  have h1 := partB_le hb h i (by rw [partB_len] at hi; exact hi)
  rw [List.getD_eq_getElem?_getD, List.getElem?_eq_getElem hi] at h1
  exact h1
theorem partB_bit (bb : List Nat) (h : Nat) (hh : h < 256) : (partB bb (h + 1)).getD (h / 8) 0 = (partB bb h).getD (h / 8) 0 + (if bareB bb h = true then 2 ^ (h % 8) else 0) := by
  rw [partB_at bb (h + 1) (h / 8) (by omega), partB_at bb h (h / 8) (by omega), show min 8 (h + 1 - 8 * (h / 8)) = h % 8 + 1 by omega, show min 8 (h - 8 * (h / 8)) = h % 8 by omega, Nat.mod_pow_succ]
  congr 1
  unfold bareB
  have h2 : bb.getD (h / 8) 0 / 2 ^ (h % 8) % 2 = 0 ∨ bb.getD (h / 8) 0 / 2 ^ (h % 8) % 2 = 1 := by omega
  rcases h2 with e | e <;> rw [e] <;> simp
theorem partB_else (bb : List Nat) (h i : Nat) (hh : h < 256) (hi : i < 32) (hne : i ≠ h / 8) : (partB bb (h + 1)).getD i 0 = (partB bb h).getD i 0 := by
  rw [partB_at bb (h + 1) i hi, partB_at bb h i hi]
  have : min 8 (h + 1 - 8 * i) = min 8 (h - 8 * i) := by omega
  rw [this]
theorem getD_set (l : List Nat) (i j x : Nat) (hi : i < l.length) : (l.set i x).getD j 0 = if j = i then x else l.getD j 0 := by
  rw [List.getD_eq_getElem?_getD, List.getD_eq_getElem?_getD, List.getElem?_set]
  by_cases e : i = j
  · subst e; simp [hi]
  · rw [if_neg e, if_neg (fun h => e h.symm)]
theorem partB_step (bb : List Nat) (h : Nat) (hh : h < 256) : partB bb (h + 1) = (partB bb h).set (h / 8) ((partB bb h).getD (h / 8) 0 + (if bareB bb h = true then 2 ^ (h % 8) else 0)) := by
  refine getD_ext (partB_len bb (h + 1)) (by rw [List.length_set, partB_len]) fun i hi => ?_
  rw [getD_set _ _ _ _ (by rw [partB_len]; omega)]
  by_cases e : i = h / 8
  · rw [if_pos e, e, partB_bit bb h hh]
  · rw [if_neg e, partB_else bb h i hh hi e]
theorem bare_take {b : List Nat} (h32 : ¬ b.length < 32) (h : Nat) (hh : h < 256) : (b.take 32).getD (h / 8) 0 = b.getD (h / 8) 0 := by
  rw [List.getD_eq_getElem?_getD, List.getD_eq_getElem?_getD, List.getElem?_take_of_lt (by omega)]
end Go.Proofs.YtngmpcmeebcdmaaDoor
