/- The plain law of a leaf's bytes: back and forth. -/
import Derived.Test.YtbhnnoejhbihhaaGreatDoorTv6
import Derived.Test.YtbhnnoejhbihhaaGreatDoorLf1
namespace Go.Proofs.YtbhnnoejhbihhaaGreatDoor
set_option linter.unusedVariables false
set_option linter.unusedSimpArgs false

/-- a place's byte. -/
def plB (l : LeafT) : Nat := (l.pl % 256).toNat
theorem plB_lt (l : LeafT) : plB l < 256 := by unfold plB; omega
/-- a leaf's records. -/
def recsOf (l : LeafT) : List Rec := [⟨0, l.id⟩, ⟨2, eight l.am⟩, ⟨4, l.ow⟩, ⟨6, [plB l]⟩, ⟨8, l.sp.h ++ eight l.sp.s⟩]
theorem eight_len' (x : Nat) : (eight x).length = 8 := by simp [eight]
theorem eight_lt' (x : Nat) : ∀ y ∈ eight x, y < 256 := by rw [eight_big]; exact bigN_lt x 8
theorem numB_eight (x : Nat) (h : x < 18446744073709551616) : numB (eight x) = x := by rw [eight_big]; exact numB_big' x 8 (by show x < 18446744073709551616; exact h)
theorem eight_numB (l : List Nat) (h : l.length = 8) (hl : ∀ y ∈ l, y < 256) : eight (numB l) = l := by rw [eight_big, ← h]; exact big_numB l hl
theorem recs_len (l : LeafT) (h : l.ok) : (recsOf l).map (fun r => r.v.length) = [32, 8, 32, 1, 40] := by
  simp [recsOf, h.id.1, h.ow.1, h.sp.1, eight_len']
theorem recs_lt (l : LeafT) (h : l.ok) : ∀ r ∈ recsOf l, ∀ y ∈ r.v, y < 256 := by
  intro r hr
  simp only [recsOf, List.mem_cons, List.not_mem_nil, or_false] at hr
  rcases hr with rfl | rfl | rfl | rfl | rfl
  · exact h.id.2
  · exact eight_lt' _
  · exact h.ow.2
  · intro y hy; rw [List.mem_singleton.1 hy]; exact plB_lt l
  · intro y hy
    rcases List.mem_append.1 hy with h1 | h1
    · exact h.sp.2 y h1
    · exact eight_lt' _ y h1
theorem recs_t (l : LeafT) : ∀ r ∈ recsOf l, r.t < 18446744073709551616 := by
  intro r hr
  simp only [recsOf, List.mem_cons, List.not_mem_nil, or_false] at hr
  rcases hr with rfl | rfl | rfl | rfl | rfl <;> (dsimp only; omega)
/-- a leaf's bytes. -/
def leafB (l : LeafT) : List Nat := (recsOf l).flatMap recB
theorem recE_at (l : LeafT) (h : l.ok) (k : Nat) (hk : k < 5) : recE (recsOf l) k ((recsOf l).getD k ⟨0, []⟩) = 0 := by
  have e1 := h.id.1
  have e2 := h.ow.1
  have e3 := h.sp.1
  have e4 := eight_len' l.am
  have e5 := eight_len' l.sp.s
  match k, hk with
  | 0, _ => simp [recE, recsOf, e1]
  | 1, _ => simp [recE, recsOf, e4]
  | 2, _ => simp [recE, recsOf, e2]
  | 3, _ => simp [recE, recsOf]
  | 4, _ => simp [recE, recsOf, e3, e5]
theorem tvAt_up5 {rs : List Rec} {k : Nat} {b : List Nat} {r : Rec} (h : tvAt rs k = .ok b) (hr : rs[k]? = some r) (h0 : recE rs k r = 0) : tvAt rs (k + 1) = .ok (b ++ recB r) := by
  rw [tvAt_succ h hr, if_pos h0]
theorem enc_leaf (l : LeafT) (h : l.ok) : tvEnc (recsOf l) = .ok (leafB l) := by
  have t1 := tvAt_up5 (rs := recsOf l) (k := 0) (b := []) rfl rfl (recE_at l h 0 (by decide))
  have t2 := tvAt_up5 t1 rfl (recE_at l h 1 (by decide))
  have t3 := tvAt_up5 t2 rfl (recE_at l h 2 (by decide))
  have t4 := tvAt_up5 t3 rfl (recE_at l h 3 (by decide))
  have t5 := tvAt_up5 t4 rfl (recE_at l h 4 (by decide))
  have hl : (recsOf l).length = 5 := rfl
  unfold tvEnc
  rw [hl, if_neg (by decide), t5]
  simp [leafB, recsOf, List.append_assoc]
/-- what is wrong with the first k records of a leaf. -/
def recBad (i : Nat) (r : Rec) : Nat := if r.t ≠ 2 * i then 23 else if r.v.length ≠ [32, 8, 32, 1, 40].getD i 0 then 21 else 0
def fstBad (rs : List Rec) : Nat → Nat
  | 0 => 0
  | k + 1 => if fstBad rs k ≠ 0 then fstBad rs k else recBad k (rs.getD k ⟨0, []⟩)
def recV (rs : List Rec) (i : Nat) : List Nat := (rs.getD i ⟨0, []⟩).v
def mkLf (rs : List Rec) : LeafT := ⟨recV rs 0, numB (recV rs 1), recV rs 2, (numB (recV rs 3) : Int), ⟨(recV rs 4).take 32, numB ((recV rs 4).drop 32)⟩⟩
/-- the leaf of bytes, or what is wrong with them. -/
def ldecR (rs : List Rec) : Except Nat LeafT :=
  if rs.length ≠ 5 then .error 21 else if fstBad rs 5 ≠ 0 then .error (fstBad rs 5) else if leafBad (mkLf rs) = true then .error 1 else .ok (mkLf rs)
def ldec (b : List Nat) : Except Nat LeafT :=
  match tdec b with
  | .error e => .error e
  | .ok rs => ldecR rs
theorem fst_le {rs : List Rec} {k : Nat} (h : fstBad rs (k + 1) = 0) : fstBad rs k = 0 ∧ recBad k (rs.getD k ⟨0, []⟩) = 0 := by
  unfold fstBad at h
  by_cases c : fstBad rs k ≠ 0
  · rw [if_pos c] at h; exact absurd h c
  · rw [if_neg c] at h; exact ⟨by omega, h⟩
theorem bad_at {i : Nat} {r : Rec} (h : recBad i r = 0) : r.t = 2 * i ∧ r.v.length = [32, 8, 32, 1, 40].getD i 0 := by
  unfold recBad at h
  split at h
  · cases h
  · split at h
    · cases h
    · exact ⟨by omega, by omega⟩
theorem fst_all {rs : List Rec} (h : fstBad rs 5 = 0) : ∀ i, i < 5 → (rs.getD i ⟨0, []⟩).t = 2 * i ∧ (rs.getD i ⟨0, []⟩).v.length = [32, 8, 32, 1, 40].getD i 0 := by
  obtain ⟨h4, b4⟩ := fst_le h
  obtain ⟨h3, b3⟩ := fst_le h4
  obtain ⟨h2, b2⟩ := fst_le h3
  obtain ⟨h1, b1⟩ := fst_le h2
  obtain ⟨h0, b0⟩ := fst_le h1
  intro i hi
  match i, hi with
  | 0, _ => exact bad_at b0
  | 1, _ => exact bad_at b1
  | 2, _ => exact bad_at b2
  | 3, _ => exact bad_at b3
  | 4, _ => exact bad_at b4
theorem numB_lt8 (l : List Nat) (h : l.length = 8) (hl : ∀ y ∈ l, y < 256) : numB l < 18446744073709551616 := by
  have := numB_lt l hl
  rw [h] at this
  exact this
theorem numB_one (l : List Nat) (h : l.length = 1) : l = [numB l] := by
  match l, h with
  | [a], _ => simp [numB]
theorem numB_mem {l : List Nat} (h : l.length = 1) : numB l ∈ l := by
  match l, h with
  | [a], _ => simp [numB]
theorem mk_ok {rs : List Rec} (h : fstBad rs 5 = 0) (hv : ∀ i, ∀ y ∈ recV rs i, y < 256) : (mkLf rs).ok := by
  have a := fst_all h
  have l0 : (recV rs 0).length = 32 := (a 0 (by decide)).2
  have l1 : (recV rs 1).length = 8 := (a 1 (by decide)).2
  have l2 : (recV rs 2).length = 32 := (a 2 (by decide)).2
  have l3 : (recV rs 3).length = 1 := (a 3 (by decide)).2
  have l4 : (recV rs 4).length = 40 := (a 4 (by decide)).2
  have n3 : numB (recV rs 3) < 256 := by
    exact hv 3 (numB (recV rs 3)) (numB_mem l3)
  refine ⟨⟨l0, hv 0⟩, numB_lt8 _ l1 (hv 1), ⟨l2, hv 2⟩, by show (-9223372036854775808 : Int) ≤ (numB (recV rs 3) : Int); omega, by show (numB (recV rs 3) : Int) ≤ 9223372036854775807; omega, ⟨by show ((recV rs 4).take 32).length = 32; rw [List.length_take, l4]; rfl, fun y hy => hv 4 y (List.mem_of_mem_take hy)⟩, ?_⟩
  exact numB_lt8 _ (by rw [List.length_drop, l4]) (fun y hy => hv 4 y (List.mem_of_mem_drop hy))
theorem recs_mk {rs : List Rec} (h5 : rs.length = 5) (h : fstBad rs 5 = 0) (hv : ∀ i, ∀ y ∈ recV rs i, y < 256) : recsOf (mkLf rs) = rs := by
  have a := fst_all h
  match rs, h5 with
  | [r0, r1, r2, r3, r4], _ =>
    have a0 := a 0 (by decide)
    have a1 := a 1 (by decide)
    have a2 := a 2 (by decide)
    have a3 := a 3 (by decide)
    have a4 := a 4 (by decide)
    simp only [List.getD_cons_zero, List.getD_cons_succ] at a0 a1 a2 a3 a4
    have v1 : ∀ y ∈ r1.v, y < 256 := hv 1
    have v3 : ∀ y ∈ r3.v, y < 256 := hv 3
    have v4 : ∀ y ∈ r4.v, y < 256 := hv 4
    have e1 : eight (numB r1.v) = r1.v := eight_numB _ a1.2 v1
    have e3 : [plB (mkLf [r0, r1, r2, r3, r4])] = r3.v := by
      have q := numB_one r3.v a3.2
      have n3 : numB r3.v < 256 := v3 _ (numB_mem a3.2)
      have : plB (mkLf [r0, r1, r2, r3, r4]) = numB r3.v := by
        show (((numB r3.v : Nat) : Int) % 256).toNat = numB r3.v
        omega
      rw [this, ← q]
    have e4 : r4.v.take 32 ++ eight (numB (r4.v.drop 32)) = r4.v := by
      rw [eight_numB _ (by rw [List.length_drop, a4.2]) (fun y hy => v4 y (List.mem_of_mem_drop hy)), List.take_append_drop]
    show [(⟨0, r0.v⟩ : Rec), ⟨2, eight (numB r1.v)⟩, ⟨4, r2.v⟩, ⟨6, [plB (mkLf [r0, r1, r2, r3, r4])]⟩, ⟨8, r4.v.take 32 ++ eight (numB (r4.v.drop 32))⟩] = _
    rw [e1, e3, e4]
    have q : ∀ (r : Rec) (t : Nat), r.t = t → (⟨t, r.v⟩ : Rec) = r := fun r t e => by subst e; rfl
    rw [q r0 0 a0.1, q r1 2 a1.1, q r2 4 a2.1, q r3 6 a3.1, q r4 8 a4.1]
theorem tdec_lt {b : List Nat} {rs : List Rec} (hb : ∀ y ∈ b, y < 256) (h : tdec b = .ok rs) : ∀ i, ∀ y ∈ recV rs i, y < 256 := by
  obtain ⟨h1, h2, h3⟩ := enc_dec hb h
  unfold tvEnc at h1
  rw [if_neg (by omega)] at h1
  have h4 := (tvAt_flat rs.length b (Nat.le_refl _) h1).1
  rw [List.take_length] at h4
  intro i y hy
  unfold recV at hy
  by_cases c : i < rs.length
  · have e : rs.getD i ⟨0, []⟩ ∈ rs := by rw [List.getD_eq_getElem?_getD, List.getElem?_eq_getElem c]; exact List.getElem_mem _
    refine hb y ?_
    rw [h4]
    exact List.mem_flatMap.2 ⟨_, e, by unfold recB; exact List.mem_append_right _ (List.mem_append_right _ hy)⟩
  · rw [List.getD_eq_getElem?_getD, List.getElem?_eq_none (by omega)] at hy
    cases hy
/-- bytes that are a leaf are that leaf's bytes. -/
theorem ldec_ok {b : List Nat} {l : LeafT} (hb : ∀ y ∈ b, y < 256) (h : ldec b = .ok l) : l.ok ∧ leafBad l = false ∧ tvEnc (recsOf l) = .ok b := by
  unfold ldec at h
  cases c : tdec b with
  | error e => rw [c] at h; cases h
  | ok rs =>
    rw [c] at h
    dsimp only at h
    unfold ldecR at h
    by_cases h5 : rs.length ≠ 5
    · rw [if_pos h5] at h; cases h
    rw [if_neg h5] at h
    by_cases h0 : fstBad rs 5 ≠ 0
    · rw [if_pos h0] at h; cases h
    rw [if_neg h0] at h
    by_cases hB : leafBad (mkLf rs) = true
    · rw [if_pos hB] at h; cases h
    rw [if_neg hB] at h
    injection h with h
    subst h
    have hv := tdec_lt hb c
    refine ⟨mk_ok (by omega) hv, by simpa using hB, ?_⟩
    rw [recs_mk (by omega) (by omega) hv]
    exact (enc_dec hb c).1
/-- a leaf's bytes are that leaf. -/
theorem ldec_enc {l : LeafT} (h : l.ok) (hB : leafBad l = false) : ldec (leafB l) = .ok l := by
  have h1 := dec_enc (recs_t l) (enc_leaf l h)
  have p1 : 0 ≤ l.pl ∧ l.pl < 256 := by
    unfold leafBad at hB
    have := of_decide_eq_false hB
    omega
  have e1 := h.id.1
  have e2 := h.ow.1
  have e3 := h.sp.1
  have e4 := eight_len' l.am
  have e5 := eight_len' l.sp.s
  have hf : fstBad (recsOf l) 5 = 0 := by
    simp [fstBad, recBad, recsOf, e1, e2, e3, e4, e5]
  have hm : mkLf (recsOf l) = l := by
    have q1 : numB (eight l.am) = l.am := numB_eight _ h.am
    have q2 : numB (eight l.sp.s) = l.sp.s := numB_eight _ h.ss
    have q3 : ((numB [plB l] : Nat) : Int) = l.pl := by
      show (((0 * 256 + plB l : Nat)) : Int) = l.pl
      unfold plB
      omega
    have q4 : (l.sp.h ++ eight l.sp.s).take 32 = l.sp.h := take_app e3
    have q5 : (l.sp.h ++ eight l.sp.s).drop 32 = eight l.sp.s := by rw [← e3, List.drop_left]
    show (⟨l.id, numB (eight l.am), l.ow, ((numB [plB l] : Nat) : Int), ⟨(l.sp.h ++ eight l.sp.s).take 32, numB ((l.sp.h ++ eight l.sp.s).drop 32)⟩⟩ : LeafT) = l
    rw [q1, q3, q4, q5, q2]
  unfold ldec
  rw [h1]
  show ldecR (recsOf l) = _
  unfold ldecR
  rw [if_neg (by show ¬ (5 ≠ 5); simp), if_neg (by omega), hm, hB]
  rfl
theorem leafB_lt (l : LeafT) (h : l.ok) : ∀ y ∈ leafB l, y < 256 := by
  intro y hy
  obtain ⟨r, hr, hy⟩ := List.mem_flatMap.1 hy
  exact recB_lt r (recs_lt l h r hr) y hy
end Go.Proofs.YtbhnnoejhbihhaaGreatDoor
