/- The plain law of MsumOrders: what stands in a tree hangs not on the order. -/
import Derived.Test.YtcpomddkehhkkaaDoorSwap0
import Derived.Test.YtcpomddkehhkkaaDoorNdEq
namespace Go.Proofs.YtcpomddkehhkkaaDoor
set_option linter.unusedVariables false
set_option linter.unusedSimpArgs false
open Go.ChangeShapes Go.WideShapes Go.ChangeAt Go.RowKit Go.Maps

def Sel.nil (x : Sel) : Prop := x.v.length = 0 ∧ x.s = 0
instance (x : Sel) : Decidable x.nil := inferInstanceAs (Decidable (_ ∧ _))
def otherB : List Nat := [111, 116, 104, 101, 114]
def Sel.other (x : Sel) : Lf := ⟨x.key, otherB, 3⟩
/-- first another leaf, then the leaf. -/
def putTwo (T : List Lf) (x : Sel) : List Lf := if x.nil then T else putT (putT T x.other) x.leaf
def backT (xs : List Sel) : List Lf := xs.foldr (fun x T => putTwo T x) []
/-- what stands at a key. -/
def pickT : List Sel → List Nat → Option Lf
  | [], _ => none
  | x :: xs, k => if x.nil then pickT xs k else if x.key = k then some x.leaf else pickT xs k
theorem back_find (xs : List Sel) (k : List Nat) : findT (backT xs) k = pickT xs k := by
  induction xs with
  | nil => rfl
  | cons x xs ih =>
    show findT (putTwo (backT xs) x) k = _
    unfold putTwo pickT
    split
    · exact ih
    · rw [put_find, put_find, ih]
      show (if x.key = k then some x.leaf else if x.key = k then some x.other else pickT xs k) = _
      split <;> rfl
theorem pick_app (xs : List Sel) (x : Sel) (k : List Nat) : pickT (xs ++ [x]) k = (pickT xs k).or (pickT [x] k) := by
  induction xs with
  | nil => simp [pickT]
  | cons y xs ih =>
    show pickT (y :: (xs ++ [x])) k = _
    unfold pickT
    split
    · exact ih
    · split
      · rfl
      · exact ih
theorem pick_none {xs : List Sel} {k : List Nat} (h : k ∉ xs.map (·.key)) : pickT xs k = none := by
  induction xs with
  | nil => rfl
  | cons x xs ih =>
    unfold pickT
    have h1 : ¬ x.key = k := fun e => h (by simp [e])
    have h2 : k ∉ xs.map (·.key) := fun e => h (by simp at e ⊢; exact .inr e)
    rw [if_neg h1, ih h2]
    split <;> rfl
theorem pick_mem {xs : List Sel} {k : List Nat} {l : Lf} (h : pickT xs k = some l) : ∃ x ∈ xs, ¬ x.nil ∧ l = x.leaf ∧ x.key = k := by
  induction xs with
  | nil => cases h
  | cons x xs ih =>
    unfold pickT at h
    split at h
    · obtain ⟨y, hy, h⟩ := ih h
      exact ⟨y, List.mem_cons_of_mem _ hy, h⟩
    · next hn =>
      split at h
      · next hk => injection h with h; exact ⟨x, List.mem_cons_self, hn, h.symm, hk⟩
      · obtain ⟨y, hy, h⟩ := ih h
        exact ⟨y, List.mem_cons_of_mem _ hy, h⟩
def sumS (xs : List Sel) : Nat := (xs.map (·.s)).sum
theorem nodup_at {xs : List Sel} (hn : (xs.map (·.key)).Nodup) {k : Nat} {x : Sel} (hk : xs[k]? = some x) : x.key ∉ (xs.take k).map (·.key) := by
  intro hm
  obtain ⟨hlt, hx⟩ := List.getElem?_eq_some_iff.1 hk
  have e : xs = xs.take k ++ x :: xs.drop (k + 1) := by
    rw [← hx, List.getElem_cons_drop, List.take_append_drop]
  rw [e, List.map_append, List.nodup_append] at hn
  exact hn.2.2 x.key hm x.key (by simp) rfl
section
variable {xs : List Sel} (hn : (xs.map (·.key)).Nodup) (hput : ∀ (k : Nat) x, xs[k]? = some x → putE (buildT (xs.take k)) x.leaf = 0 ∨ (putE (buildT (xs.take k)) x.leaf = 1 ∧ x.v.length = 0 ∧ x.s = 0))
include hput
theorem build_step (k : Nat) (x : Sel) (hx : xs[k]? = some x) : buildT (xs.take (k + 1)) = if x.nil then buildT (xs.take k) else putT (buildT (xs.take k)) x.leaf := by
  rw [buildT_take xs k x hx]
  unfold putN
  rcases hput k x hx with h | ⟨h1, h2, h3⟩
  · rw [if_pos h]
    have : ¬ x.nil := fun e => by
      have : putE (buildT (xs.take k)) x.leaf = 1 := by unfold putE; exact if_pos e
      rw [h] at this; cases this
    rw [if_neg this]
  · rw [if_neg (by rw [h1]; decide), if_pos ⟨h2, h3⟩]
include hn
theorem build_find_take (q : List Nat) : ∀ k, k ≤ xs.length → findT (buildT (xs.take k)) q = pickT (xs.take k) q := by
  intro k
  induction k with
  | zero => exact fun _ => rfl
  | succ k ih =>
    intro hk
    have hx : xs[k]? = some xs[k] := List.getElem?_eq_getElem (by omega)
    obtain ⟨x, hxe⟩ : ∃ x, x = xs[k] := ⟨_, rfl⟩
    rw [← hxe] at hx
    have ih := ih (by omega)
    rw [build_step hput k x hx, List.take_add_one, hx]
    show _ = pickT (xs.take k ++ [x]) q
    rw [pick_app]
    have hnm := nodup_at hn hx
    by_cases h0 : x.nil
    · rw [if_pos h0, ih]
      have : pickT [x] q = none := by unfold pickT; rw [if_pos h0]; rfl
      rw [this]
      cases pickT (xs.take k) q <;> rfl
    · rw [if_neg h0, put_find, ih]
      show (if x.key = q then some x.leaf else _) = _
      have e1 : pickT [x] q = if x.key = q then some x.leaf else none := by unfold pickT; rw [if_neg h0]; rfl
      rw [e1]
      by_cases hq : x.key = q
      · rw [if_pos hq, if_pos hq, pick_none (by rw [← hq]; exact hnm)]; rfl
      · rw [if_neg hq, if_neg hq]
        cases pickT (xs.take k) q <;> rfl
theorem build_find (q : List Nat) : findT (buildT xs) q = pickT xs q := by
  have := build_find_take hn hput q xs.length (Nat.le_refl _)
  rwa [List.take_length] at this
theorem build_sum_take : ∀ k, k ≤ xs.length → sumT (buildT (xs.take k)) = sumS (xs.take k) := by
  intro k
  induction k with
  | zero => exact fun _ => rfl
  | succ k ih =>
    intro hk
    have hx : xs[k]? = some xs[k] := List.getElem?_eq_getElem (by omega)
    obtain ⟨x, hxe⟩ : ∃ x, x = xs[k] := ⟨_, rfl⟩
    rw [← hxe] at hx
    have ih := ih (by omega)
    have es : sumS (xs.take (k + 1)) = sumS (xs.take k) + x.s := by
      unfold sumS
      rw [List.take_add_one, hx]
      simp
    rw [build_step hput k x hx, es]
    by_cases h0 : x.nil
    · rw [if_pos h0, ih, h0.2]; rfl
    · rw [if_neg h0]
      have hs := sum_put (buildT (xs.take k)) x.leaf
      have hf : findT (buildT (xs.take k)) x.leaf.k = none := by
        rw [build_find_take hn hput _ k (by omega)]
        exact pick_none (nodup_at hn hx)
      have hw : wasS (buildT (xs.take k)) x.leaf.k = 0 := by unfold wasS; rw [hf]
      rw [hw] at hs
      have e : x.leaf.s = x.s := rfl
      omega
end
theorem back_fits (xs : List Sel) (h : ∀ x ∈ xs, x.s < 281474976710656) : (backT xs).length ≤ xs.length ∧ sumT (backT xs) ≤ xs.length * 281474976710660 := by
  induction xs with
  | nil => exact ⟨Nat.le_refl _, by rw [List.length_nil, Nat.zero_mul]; exact Nat.le_refl _⟩
  | cons x xs ih =>
    have hx : x.s < 281474976710656 := h x List.mem_cons_self
    obtain ⟨i1, i2⟩ := ih (fun y hy => h y (List.mem_cons_of_mem _ hy))
    show (putTwo (backT xs) x).length ≤ _ ∧ sumT (putTwo (backT xs) x) ≤ _
    unfold putTwo
    have hm : (xs.length + 1) * 281474976710660 = xs.length * 281474976710660 + 281474976710660 := Nat.succ_mul _ _
    rw [List.length_cons, hm]
    generalize xs.length * 281474976710660 = M at i2
    split
    · exact ⟨by omega, by omega⟩
    · have hf : findT (putT (backT xs) x.other) x.leaf.k = some x.other := by rw [put_find]; exact if_pos rfl
      have e0 : True := trivial
      have e1 : (putT (putT (backT xs) x.other) x.leaf).length = (putT (backT xs) x.other).length := by rw [put_len, if_neg (by rw [hf]; simp)]
      have e2 := put_len_le (backT xs) x.other
      have e3 := put_sum_le (putT (backT xs) x.other) x.leaf
      have e4 := put_sum_le (backT xs) x.other
      have e5 : x.leaf.s = x.s := rfl
      have e6 : x.other.s = 3 := rfl
      exact ⟨by omega, by omega⟩
/-- both leaves fit. -/
theorem back_put (xs : List Sel) (h : ∀ x ∈ xs, x.s < 281474976710656) (hl : xs.length ≤ 200) (x : Sel) (hx : x.s < 281474976710656) (hv : x.v.length ≤ 65536) (h0 : ¬ x.nil) :
    putE (backT xs) x.other = 0 ∧ putN (backT xs) x.other = putT (backT xs) x.other ∧ putE (putT (backT xs) x.other) x.leaf = 0 ∧ putN (putT (backT xs) x.other) x.leaf = putTwo (backT xs) x := by
  obtain ⟨b1, b2⟩ := back_fits xs h
  have hm : xs.length * 281474976710660 ≤ 200 * 281474976710660 := Nat.mul_le_mul_right _ hl
  have e1 : putE (backT xs) x.other = 0 := by
    rcases put_fits (T := backT xs) (l := x.other) (by show 5 ≤ 65536; omega) (by omega) (by show _ + 3 < _; omega) with h | ⟨_, h, _⟩
    · exact h
    · cases h
  have e2 := put_len_le (backT xs) x.other
  have e4 := put_sum_le (backT xs) x.other
  have e6 : x.other.s = 3 := rfl
  have e3 : putE (putT (backT xs) x.other) x.leaf = 0 := by
    rcases put_fits (T := putT (backT xs) x.other) (l := x.leaf) hv (by omega) (by show _ + x.s < _; omega) with h | ⟨_, h1, h2⟩
    · exact h
    · exact absurd ⟨h1, h2⟩ h0
  refine ⟨e1, by unfold putN; rw [if_pos e1], e3, ?_⟩
  unfold putN putTwo
  rw [if_pos e3, if_neg h0]
theorem back_drop (xs : List Sel) (i : Nat) (x : Sel) (h : xs[i]? = some x) : backT (xs.drop i) = putTwo (backT (xs.drop (i + 1))) x := by
  obtain ⟨hlt, hx⟩ := List.getElem?_eq_some_iff.1 h
  rw [List.drop_eq_getElem_cons hlt, hx]
  rfl
/-- the two trees hold the same. -/
theorem orders_perm (m : Nat) (hm : m ≤ 200) (os : List OpT) (hA : Keyed ((buildT (someL m os)).map (·.k))) (hB : Keyed ((backT (someL m os)).map (·.k))) : (buildT (someL m os)).Perm (backT (someL m os)) :=
  same_perm hA.nodup hB.nodup fun k => by
    rw [build_find (some_nodup m os) (fun k x hk => some_fits m (by omega) os k x hk), back_find]
theorem some_small (m : Nat) (os : List OpT) : ∀ x ∈ someL m os, x.s < 281474976710656 := fun y hy => by
  obtain ⟨o', -, rfl, -⟩ := some_each m os y hy
  exact pick_small o'
theorem some_short (m : Nat) (os : List OpT) : ∀ x ∈ someL m os, x.v.length ≤ 200 := fun y hy => by
  obtain ⟨o', -, rfl, h⟩ := some_each m os y hy
  exact h
theorem orders_sum (m : Nat) (hm : m ≤ 200) (os : List OpT) (k : Nat) (hk : k ≤ (someL m os).length) : sumT (buildT ((someL m os).take k)) = sumS ((someL m os).take k) :=
  build_sum_take (some_nodup m os) (fun k x hk => some_fits m (by omega) os k x hk) k hk
theorem small_back {K s0 : List Wd} {S : Nat → Prop} {w : World} {g : Nat} (m : Nat) (hm : m ≤ 200) (os : List OpT) (h : Tr K s0 S w g (backT (someL m os))) : SmallT (backT (someL m os)) := by
  obtain ⟨b1, b2⟩ := back_fits (someL m os) (some_small m os)
  have hl := someL_len m os
  refine ⟨h.keyed, by omega, ?_, h.short, fun t ht => ?_⟩
  · have : (someL m os).length * 281474976710660 ≤ 200 * 281474976710660 := Nat.mul_le_mul_right _ (by omega)
    omega
  · have hf := find_mem h.keyed.nodup ht
    rw [back_find] at hf
    obtain ⟨x, hx, h0, rfl, hk⟩ := pick_mem hf
    exact h0
end Go.Proofs.YtcpomddkehhkkaaDoor

/- The walk of MsumOrders. -/
namespace Go.Proofs.YtcpomddkehhkkaaDoor
set_option linter.unusedVariables false
set_option linter.unusedSimpArgs false
open Go.ChangeShapes Go.WideShapes Go.ChangeAt Go.RowKit Go.Maps

theorem at_sel (b q n c k : Nat) (hk : k < n) (w : World) : (Instr.indexAt 60 (.slice (some ⟨b, q, none⟩) n c) (.int .i64 (k : Int))).run Tryd.prog w = .ok (.pointer (some ⟨b, q + k * 34, none⟩)) w := by
  have hu : Tryd.prog.underlying 60 = some (.slice (Tryd.prog.elem 60)) := by kernel_rfl
  have he : Tryd.prog.elem 60 = 63 := by kernel_rfl
  have hz : ∀ w, (sizeOf 63).run Tryd.prog w = .ok 34 w := fun w => by kernel_rfl
  rw [run_indexAt_slice w 60 ⟨b, q, none⟩ n c .i64 (k : Int) hu, if_pos ⟨by omega, by omega⟩, he, hz]
  simp only [Result.andThen, Int.toNat_natCast, Addr.add_mid]
theorem sel_range {w : World} {b o : Nat} {x : Sel} (h : w.rangeAt b o x.cells) : w.rangeAt b o (bcells x.key) ∧ w.cell? ⟨b, o + 32, none⟩ = some (.slice x.a x.v.length x.c) ∧ w.cell? ⟨b, o + 33, none⟩ = some (.int .u64 (x.s : Int)) := by
  obtain ⟨q1, q2⟩ := sel_get x.h.1
  refine ⟨fun j u hu => h j u ?_, h 32 _ q1, h 33 _ q2⟩
  rw [Sel.cells, List.getElem?_append_left (List.getElem?_eq_some_iff.1 hu).1]
  exact hu
/-- the law's world: both trees, the gathered leaves, the last step. -/
structure OrdW (K s0 : List Wd) (w : World) (lo hi : Nat) (W : World) (ga gb : Nat) (TA TB : List Lf) (A : Option Addr) (n : Nat) (xs : List Sel) (Bm : Nat) (o : OpT) : Prop where
  a : Tr K s0 (fun j => lo ≤ j ∧ j < hi) W ga TA
  b : Tr K s0 (fun j => hi ≤ j) W gb TB
  row : 0 < n → ∃ b q, A = some ⟨b, q, none⟩ ∧ b < lo ∧ ∀ (i : Nat) x, xs[i]? = some x → W.rangeAt b (q + i * 34) x.cells
  more : Has W Bm 71 o.cells.toArray
  bel : Below w.heap.size w W
  low : w.heap.size ≤ lo
  bm : Bm < lo
  mid : lo ≤ hi
  top : hi ≤ W.heap.size
section
variable {K s0 : List Wd} {w W W' : World} {lo hi ga gb n Bm : Nat} {TA TB TB' : List Lf} {A : Option Addr} {xs : List Sel} {o : OpT}
theorem OrdW.stepB (h : OrdW K s0 w lo hi W ga gb TA TB A n xs Bm o) (hk : Kept (fun j => hi ≤ j) W W') (hb : Tr K s0 (fun j => hi ≤ j) W' gb TB') : OrdW K s0 w lo hi W' ga gb TA TB' A n xs Bm o := by
  refine ⟨h.a.kept hk (fun k _ h1 h2 => by have := h1.2; have h2' : hi ≤ k := h2; omega), hb, fun hn => ?_, h.more.kept hk (fun h2 => by have h2' : hi ≤ Bm := h2; have := h.bm; have := h.mid; omega), h.bel.trans (hk.below h.bel.size (fun j h2 => by have h2' : hi ≤ j := h2; have := h.low; have := h.mid; omega)), h.low, h.bm, h.mid, Nat.le_trans h.top hk.size⟩
  obtain ⟨b, q, e, h1, h2⟩ := h.row hn
  exact ⟨b, q, e, h1, fun i x hx => rangeAt_kept (h2 i x hx) hk (fun h3 => by have h3' : hi ≤ b := h3; have := h.mid; omega)⟩
theorem OrdW.stepA (h : OrdW K s0 w lo hi W ga gb TA TB A n xs Bm o) (hk : Kept (fun j => lo ≤ j ∧ j < hi) W W') (ha : Tr K s0 (fun j => lo ≤ j ∧ j < hi) W' ga TA) : OrdW K s0 w lo hi W' ga gb TA TB A n xs Bm o := by
  refine ⟨ha, h.b.kept hk (fun k _ h1 h2 => by have h1' : hi ≤ k := h1; have := h2.2; omega), fun hn => ?_, h.more.kept hk (fun h2 => by have := h2.1; have := h.bm; omega), h.bel.trans (hk.below h.bel.size (fun j h2 => by have := h2.1; have := h.low; omega)), h.low, h.bm, h.mid, Nat.le_trans h.top hk.size⟩
  obtain ⟨b, q, e, h1, h2⟩ := h.row hn
  exact ⟨b, q, e, h1, fun i x hx => rangeAt_kept (h2 i x hx) hk (fun h3 => by have := h3.1; omega)⟩
theorem OrdW.below (h : OrdW K s0 w lo hi W ga gb TA TB A n xs Bm o) (hb : Below W.heap.size W W') : OrdW K s0 w lo hi W' ga gb TA TB A n xs Bm o := by
  refine ⟨h.a.quiet hb, h.b.quiet hb, fun hn => ?_, h.more.below hb h.more.lt, h.bel.trans (hb.mono h.bel.size), h.low, h.bm, h.mid, Nat.le_trans h.top hb.size⟩
  obtain ⟨b, q, e, h1, h2⟩ := h.row hn
  exact ⟨b, q, e, h1, fun i x hx => rangeAt_kept (h2 i x hx) (Kept.of_below (S := fun _ => False) hb) (fun h => h)⟩
theorem OrdW.sAt {sb sq j : Nat} {x : Sel} {KX : List Value} {xa : Option Addr} {xn xc xs1 so : Nat} (h : OrdW K s0 w lo hi W ga gb TA TB (some ⟨sb, sq, none⟩) n xs Bm o) (hx : xs[j]? = some x ∧ 0 < n) (he : KX = bcells x.key ∧ xa = x.a ∧ xn = x.v.length ∧ xc = x.c ∧ xs1 = x.s ∧ so = sq + j * 34) :
    W.rangeAt sb so KX ∧ W.cell? ⟨sb, so + 32, none⟩ = some (.slice xa xn xc) ∧ W.cell? ⟨sb, so + 33, none⟩ = some (.int .u64 (xs1 : Int)) := by
  obtain ⟨rfl, rfl, rfl, rfl, rfl, rfl⟩ := he
  obtain ⟨b, q, e, h1, h2⟩ := h.row hx.2
  injection e with e
  injection e with e1 e2 _
  subst e1; subst e2
  exact sel_range (h2 j x hx.1)
/-- Put into the second tree. -/
theorem OrdW.put (h : OrdW K s0 w lo hi W ga gb TA TB A n xs Bm o) (hl8 : s0.length = 8) (l : Lf) (hk : IsHash l.k) (v : Value) (hv : Bytes W W.heap.size v l.v) (hs : l.s < 18446744073709551616) (hlen : l.v.length ≤ 1000000) :
    Calls Tryd.prog 33 #[.pointer (some ⟨gb, 0, none⟩), arr l.k, leafV v l.s] W fun e W' => e = .returned (.int .i64 (putE TB l)) ∧ OrdW K s0 w lo hi W' ga gb TA (putN TB l) A n xs Bm o :=
  (tr_put h.b hl8 (fun k hk => by have := h.top; omega) l hk v hv hs hlen).mono fun e W' ⟨h1, h2, h3⟩ => ⟨h1, h.stepB h3 h2⟩
theorem OrdW.drop (h : OrdW K s0 w lo hi W ga gb TA TB A n xs Bm o) (hl8 : s0.length = 8) (k : List Nat) (hk : IsHash k) :
    Calls Tryd.prog 34 #[.pointer (some ⟨gb, 0, none⟩), arr k] W fun e W' => e = .returned (.bool (findT TB k).isSome) ∧ OrdW K s0 w lo hi W' ga gb TA (dropT TB k) A n xs Bm o :=
  (tr_drop h.b hl8 k hk).mono fun e W' ⟨h1, h2, h3⟩ => ⟨h1, h.stepB h3 h2⟩
theorem OrdW.get (h : OrdW K s0 w lo hi W ga gb TA TB A n xs Bm o) (k : List Nat) (hk : IsHash k) :
    Calls Tryd.prog 35 #[.pointer (some ⟨gb, 0, none⟩), arr k] W fun e W' => ∃ a c, e = .returned (.tuple #[.agg #[.slice a (valT TB k).length c, .int .u64 (wasS TB k : Int)], .bool (findT TB k).isSome]) ∧ OrdW K s0 w lo hi W' ga gb TA TB A n xs Bm o :=
  (tr_get h.b k hk).mono fun e W' ⟨v', h1, h2, h3⟩ => by
    obtain ⟨a, c, rfl, -⟩ := h2
    exact ⟨a, c, h1, h.below h3⟩
theorem OrdW.rootA (h : OrdW K s0 w lo hi W ga gb TA TB A n xs Bm o) (hT : Tabs K s0 w) : Calls Tryd.prog 26 #[.pointer (some ⟨ga, 0, none⟩)] W fun e W' => e = .returned (.agg (ndV (partNd K s0 256 TA)).toArray) ∧ OrdW K s0 w lo hi W' ga gb TA TB A n xs Bm o :=
  (tr_root h.a (hT.below h.bel hT.low) (by have h1 := hT.low; have h2 := h.a.at; have h3 := h2.1; have := h.low; omega)).mono fun e W' ⟨h1, h2, h3⟩ => ⟨h1, h.stepA h3 h2⟩
theorem OrdW.rootB (h : OrdW K s0 w lo hi W ga gb TA TB A n xs Bm o) (hT : Tabs K s0 w) : Calls Tryd.prog 26 #[.pointer (some ⟨gb, 0, none⟩)] W fun e W' => e = .returned (.agg (ndV (partNd K s0 256 TB)).toArray) ∧ OrdW K s0 w lo hi W' ga gb TA TB A n xs Bm o :=
  (tr_root h.b (hT.below h.bel hT.low) (by have h1 := hT.low; have h2 : hi ≤ gb := h.b.at; have := h.low; have := h.mid; omega)).mono fun e W' ⟨h1, h2, h3⟩ => ⟨h1, h.stepB h3 h2⟩
end
/-- the letters of another leaf. -/
def othC : List Value := [.int .u8 111, .int .u8 116, .int .u8 104, .int .u8 101, .int .u8 114]
theorem oth_bytes (W : World) : Bytes (W.alloc (.cells #[.int .u8 111, .int .u8 116, .int .u8 104, .int .u8 101, .int .u8 114] 5 (5, 6))) (W.alloc (.cells #[.int .u8 111, .int .u8 116, .int .u8 104, .int .u8 101, .int .u8 114] 5 (5, 6))).heap.size (.slice (some ⟨W.heap.size, 0, none⟩) 5 5) otherB :=
  ⟨_, _, rfl, Nat.le_refl _, by decide, fun _ => ⟨W.heap.size, 0, rfl, by simp, fun i hi => by
    unfold World.cell?
    rw [heap_alloc_new]
    match i, hi with
    | 0, _ => rfl
    | 1, _ => rfl
    | 2, _ => rfl
    | 3, _ => rfl
    | 4, _ => rfl⟩⟩
theorem sum_grow (xs : List Sel) (k : Nat) (x : Sel) (h : xs[k]? = some x) : sumS (xs.take (k + 1)) = sumS (xs.take k) + x.s := by
  unfold sumS
  rw [List.take_add_one, h]
  simp
set_option maxRecDepth 100000 in
set_option maxHeartbeats 8000000 in
theorem orders_walk (K s0 : List Wd) (w : World) (hT : Tabs K s0 w) (A : Option Addr) (n c : Nat) (os : List OpT) (hos : OpsAt w A n os) (o : OpT) (ho : o.ok w) :
    Calls Tryd.prog 7 #[.slice A n c, .agg o.cells.toArray] w fun e w' => e = .returned (.bool true) ∧ Below w.heap.size w w' := by
  obtain ⟨CO, hCO⟩ : ∃ C, C = o.cells.toArray := ⟨_, rfl⟩
  rw [← hCO]
  have hb3 := Has.new w 71 CO
  have hbel := (Below.refl w.heap.size w).alloc (Nat.le_refl _) (.cells CO 71)
  have hsz : (w.alloc (.cells CO 71)).heap.size = w.heap.size + 1 := by simp
  have HT := Lib.hid hT
  have HLOW := Lib.hid hT.low
  have HOS := Lib.hid hos
  have HO := Lib.hid ho
  have HB3 := Lib.hid hb3
  have HBEL := Lib.hid hbel
  have HSZ := Lib.hid hsz
  have ECO := Lib.hid hCO
  clear hT hos ho hb3 hbel hsz hCO
  go_enter Tryd.func7, Tryd.ntmps7
  go_upto_region 1 with (fail)
  generalize w.alloc (.cells CO 71) = W1 at HB3 HBEL HSZ ⊢
  obtain ⟨Bm, hBm⟩ : ∃ B, B = w.heap.size := ⟨_, rfl⟩
  rw [← hBm] at HB3
  rw [← hBm]
  have EB := Lib.hid hBm
  clear hBm
  go_wp2_with fail
  refine (headT_is K s0 W1 (HT.out.below HBEL.out HLOW.out)).mono ?_
  rintro _ w2 ⟨rfl, hb2⟩
  have HBE2 := Lib.hid (HBEL.out.trans (hb2.mono HBEL.out.size))
  have HM2 := Lib.hid (HB3.out.below hb2 HB3.out.lt)
  have HSZ2 := Lib.hid hb2.size
  have hsome := some_is w2 A n c os (HOS.out.below HBE2.out) 6 (by decide)
  change Calls Tryd.prog 27 #[.slice A n c, .int .i64 6] w2 _ at hsome
  have HSOME := Lib.hid hsome
  clear hb2 hsome HB3
  go_wp2_with fail
  refine HSOME.out.mono ?_
  rintro _ w3 ⟨v', rfl, hgot⟩
  have hgot0 := hgot
  obtain ⟨⟨oa, on, oc, rfl⟩, -, -⟩ := hgot0
  have hsels := hgot.sels (some_take_ok (HOS.out.below HBE2.out) 6) (by have := someL_len 6 os; omega)
  have htree := tree_is K s0 HT.out.len w3 oa on oc (someL 6 os) hsels (fun k x hk => some_fits 6 (by decide) os k x hk)
  have HTREE := Lib.hid htree
  have HSELS := Lib.hid hsels
  have HM3 := Lib.hid (HM2.out.below hgot.2.2 HM2.out.lt)
  have HBE3 := Lib.hid (HBE2.out.trans (hgot.2.2.mono HBE2.out.size))
  have HSZ3 := Lib.hid hgot.2.2.size
  clear hgot hsels htree HSOME HM2
  go_wp2_with fail
  refine HTREE.out.mono ?_
  rintro _ w4 ⟨ga, rfl, htr, hb4, hg⟩
  have hnew := newT_is K s0 (fun j => w4.heap.size ≤ j) w4 (fun _ h => h)
  have HNEW := Lib.hid hnew
  have HTRA := Lib.hid htr
  have HB4 := Lib.hid hb4
  have HGA := Lib.hid hg
  clear hnew htr hb4 hg HTREE
  go_wp2_with fail
  refine HNEW.out.mono ?_
  rintro _ w5 ⟨gb, rfl, htb, hb5, hgb⟩
  have hxl := HSELS.out.len
  have hx6 := someL_len 6 os
  have hord : OrdW K s0 w w3.heap.size w4.heap.size w5 ga gb (buildT (someL 6 os)) [] oa on (someL 6 os) Bm o := by
    refine ⟨(HTRA.out.zone (S' := fun j => w3.heap.size ≤ j ∧ j < w4.heap.size) (fun j h1 h2 => ⟨h2, h1⟩)).quiet hb5, htb, fun hn => ?_, ?_, (HBE3.out.trans (HB4.out.mono HBE3.out.size)).trans (hb5.mono (Nat.le_trans HBE3.out.size HB4.out.size)), HBE3.out.size, by have h1 := EB.out; have h2 := HSZ.out; have h3 := HSZ2.out; have h4 := HSZ3.out; omega, HB4.out.size, hb5.size⟩
    · obtain ⟨b, q, e, hb, hr⟩ := HSELS.out.at_ hn
      exact ⟨b, q, e, hb, fun i x hx => rangeAt_kept (rangeAt_kept (hr i x hx) (Kept.of_below (S := fun _ => False) HB4.out) (fun h => h)) (Kept.of_below (S := fun _ => False) hb5) (fun h => h)⟩
    · have h1 := HM3.out
      rw [ECO.out] at h1
      exact (h1.below HB4.out h1.lt).below hb5 (by have := h1.lt; have := HB4.out.size; omega)
  obtain ⟨lo, hlo⟩ : ∃ x, x = w3.heap.size := ⟨_, rfl⟩
  obtain ⟨hi, hhi⟩ : ∃ x, x = w4.heap.size := ⟨_, rfl⟩
  rw [← hlo, ← hhi] at hord
  obtain ⟨nb, hnb⟩ : ∃ x, x = o.sel.v.length := ⟨_, rfl⟩
  obtain ⟨om, hom⟩ : ∃ x, x = o.sel.s := ⟨_, rfl⟩
  obtain ⟨oma, homa⟩ : ∃ x, x = o.sel.a := ⟨_, rfl⟩
  obtain ⟨omc, homc⟩ : ∃ x, x = o.sel.c := ⟨_, rfl⟩
  have hm33 : ∀ v, Has v Bm 71 o.cells.toArray → v.cell? ⟨Bm, 33, none⟩ = some (.slice oma nb omc) ∧ v.cell? ⟨Bm, 34, none⟩ = some (.int .u64 (om : Int)) := fun v h => by
    obtain ⟨q1, q2⟩ := op_get HO.out.key.1
    rw [hnb, hom, homa, homc]
    exact ⟨h.cell_is (by rw [List.getElem?_toArray]; exact q1), h.cell_is (by rw [List.getElem?_toArray]; exact q2)⟩
  have hs33 := hm33 _ hord.more
  obtain ⟨hs33a, hs33b⟩ := hs33
  have hxs6 : ∀ x ∈ someL 6 os, x.ok w3 := HSELS.out.ok
  obtain ⟨xs, hxs⟩ : ∃ x, x = someL 6 os := ⟨_, rfl⟩
  have HORD := Lib.hid hord
  have HM33 := Lib.hid hm33
  have EN := Lib.hid hnb
  have EOM := Lib.hid hom
  have EOA := Lib.hid homa
  have EOC := Lib.hid homc
  have EXS := Lib.hid hxs
  have ELO := Lib.hid hlo
  have EHI := Lib.hid hhi
  have HXL := Lib.hid (show xs.length = on by rw [hxs]; exact hxl)
  have HX6 := Lib.hid (show on ≤ 6 by omega)
  have HXOK := Lib.hid (show ∀ x ∈ xs, x.ok w3 by rw [hxs]; exact hxs6)
  have HXOW := Lib.hid (show ∀ x ∈ xs, x.ok w by rw [hxs]; exact some_take_ok HOS.out 6)
  have HW35 := Lib.hid (HB4.out.trans (hb5.mono HB4.out.size))
  clear hord hm33 hnb hom homa homc hlo hhi htb hb5 hgb hxl hx6 hxs6 HTRA HB4 HNEW HM3 HBE2 HBE3
  by_cases hlong : 200 < nb
  · have hlong' : (200 : Int) < (nb : Int) := by omega
    go_wp2
    go_ret
    exact ⟨rfl, HORD.out.bel⟩
  have hlong' : ¬ (200 : Int) < (nb : Int) := by omega
  have HLONG := Lib.hid hlong
  have hw1 : wrap64 ((on : Int) - 1) = (on : Int) - 1 := by have := HX6.out; unfold wrap64; omega
  clear hlong
  go_wp2_with fail
  go_loopw [8] (fun v wr => ∃ i : Int, v = .int .i64 i ∧ -1 ≤ i ∧ i < (on : Int) ∧ OrdW K s0 w lo hi wr ga gb (buildT (someL 6 os)) (backT (xs.drop (i + 1).toNat)) oa on xs Bm o) (fun v _ => (intOf v + 1).toNat)
  case atStart =>
    refine ⟨(on : Int) - 1, by go_num, by omega, by omega, ?_⟩
    have e : ((on : Int) - 1 + 1).toNat = xs.length := by rw [HXL.out]; omega
    rw [e, List.drop_length, EXS.out]
    exact HORD.out
  case round =>
    obtain ⟨i, rfl, hi1, hi2, hord⟩ := hrel
    have HO1 := Lib.hid hord
    clear hord HORD hs33a hs33b hw1
    by_cases hi0 : 0 ≤ i
    · obtain ⟨j, rfl⟩ : ∃ j : Nat, i = (j : Int) := ⟨i.toNat, by omega⟩
      have hj : j < on := by omega
      obtain ⟨x, hx⟩ : ∃ x, xs[j]? = some x := ⟨_, List.getElem?_eq_getElem (by rw [HXL.out]; exact hj)⟩
      obtain ⟨sb, sq, hA1, hsb, -⟩ := HO1.out.row (by omega)
      subst hA1
      obtain ⟨KX, hKX⟩ : ∃ L, L = bcells x.key := ⟨_, rfl⟩
      obtain ⟨xa, hxa⟩ : ∃ L, L = x.a := ⟨_, rfl⟩
      obtain ⟨xn, hxn⟩ : ∃ L, L = x.v.length := ⟨_, rfl⟩
      obtain ⟨xc, hxc⟩ : ∃ L, L = x.c := ⟨_, rfl⟩
      obtain ⟨xs1, hxs1⟩ : ∃ L, L = x.s := ⟨_, rfl⟩
      obtain ⟨so, hso⟩ : ∃ L, L = sq + j * 34 := ⟨_, rfl⟩
      have hat := at_sel sb sq on oc j hj
      rw [← hso] at hat
      have ERR := Lib.hid (show KX = bcells x.key ∧ xa = x.a ∧ xn = x.v.length ∧ xc = x.c ∧ xs1 = x.s ∧ so = sq + j * 34 from ⟨hKX, hxa, hxn, hxc, hxs1, hso⟩)
      have HX := Lib.hid (show xs[j]? = some x ∧ 0 < on from ⟨hx, by omega⟩)
      have hxok := HXOK.out x (List.mem_of_getElem? hx)
      have SZX := Lib.hid (show (Tryd.prog.info? 26).map (·.size) = some KX.length by rw [hKX, bcells_length, hxok.key.1]; kernel_rfl)
      have HXO := Lib.hid hxok
      have HSB := Lib.hid hsb
      clear hKX hxa hxn hxc hxs1 hso hx hxok hsb hi0 hi1 hi2
      obtain ⟨c0, c32, c33⟩ := HO1.out.sAt HX.out ERR.out
      have hdrop : backT (xs.drop j) = putTwo (backT (xs.drop (j + 1))) x := back_drop xs j x HX.out.1
      have e1 : ((j : Int) + 1).toNat = j + 1 := by omega
      have HO2 := Lib.hid (show OrdW K s0 w lo hi wr ga gb (buildT (someL 6 os)) (backT (xs.drop (j + 1))) (some ⟨sb, sq, none⟩) on xs Bm o by rw [← e1]; exact HO1.out)
      have HDROP := Lib.hid hdrop
      have hw2 : wrap64 ((j : Int) - 1) = (j : Int) - 1 := by have := HX6.out; unfold wrap64; omega
      clear hdrop e1 HO1
      by_cases hnil : xn = 0 ∧ xs1 = 0
      · obtain ⟨h0, h1⟩ := hnil
        have h0' : (xn : Int) = 0 := by omega
        have h1' : (xs1 : Int) = 0 := by omega
        have HNIL := Lib.hid (show x.nil from ⟨by rw [← ERR.out.2.2.1]; exact h0, by rw [← ERR.out.2.2.2.2.1]; exact h1⟩)
        clear h0 h1
        go_wp2
        go_roundw
        case rel =>
          refine ⟨(j : Int) - 1, by go_num, by omega, by omega, ?_⟩
          have e : ((j : Int) - 1 + 1).toNat = j := by omega
          have e2 : putTwo (backT (xs.drop (j + 1))) x = backT (xs.drop (j + 1)) := by unfold putTwo; rw [if_pos HNIL.out]
          rw [e, HDROP.out, e2]
          exact HO2.out
        case measure => simp [intOf]; omega
      · have HNIL := Lib.hid (show ¬ x.nil from fun h => hnil ⟨by rw [ERR.out.2.2.1]; exact h.1, by rw [ERR.out.2.2.2.2.1]; exact h.2⟩)
        have hxm := List.mem_of_getElem? HX.out.1
        have hxs0 : ∀ y ∈ xs, y.s < 281474976710656 := by rw [EXS.out]; exact some_small 6 os
        have hxv0 : x.v.length ≤ 200 := some_short 6 os x (by rw [← EXS.out]; exact hxm)
        obtain ⟨p1, p2, p3, p4⟩ := back_put (xs.drop (j + 1)) (fun y hy => hxs0 y (List.mem_of_mem_drop hy)) (by rw [List.length_drop]; have := HX6.out; have := HXL.out; omega) x (hxs0 x hxm) (by omega) HNIL.out
        have hb6 : Below wr.heap.size wr (wr.drew.alloc (.cells #[.int .u8 111, .int .u8 116, .int .u8 104, .int .u8 101, .int .u8 114] 5)) := (Below.refl _ _).drew.alloc (Nat.le_refl _) _
        have hb7 : Below wr.heap.size wr (wr.drew.alloc (.cells #[.int .u8 111, .int .u8 116, .int .u8 104, .int .u8 101, .int .u8 114] 5 (5, 6))) := (Below.refl _ _).drew.alloc (Nat.le_refl _) _
        have hS1 := (HO2.out.below hb6).sAt HX.out ERR.out
        have ho7 := HO2.out.below hb7
        have hS2 := ho7.sAt HX.out ERR.out
        have hp1 := ho7.put HT.out.len x.other x.h (.slice (some ⟨wr.heap.size, 0, none⟩) 5 5) (oth_bytes wr.drew) (by show 3 < 18446744073709551616; decide) (by show 5 ≤ 1000000; decide)
        rw [p1, p2] at hp1
        have hp2 : ∀ v, OrdW K s0 w lo hi v ga gb (buildT (someL 6 os)) (putT (backT (xs.drop (j + 1))) x.other) (some ⟨sb, sq, none⟩) on xs Bm o → Calls Tryd.prog 33 #[.pointer (some ⟨gb, 0, none⟩), .agg KX.toArray, .agg #[.slice xa xn xc, .int .u64 (xs1 : Int)]] v fun e v' => e = .returned (.int .i64 0) ∧ OrdW K s0 w lo hi v' ga gb (buildT (someL 6 os)) (putTwo (backT (xs.drop (j + 1))) x) (some ⟨sb, sq, none⟩) on xs Bm o := fun v hv => by
          have hbx := ((HXOW.out x hxm).bytes.alive hv.bel hv.bel.size)
          have hq := hv.put HT.out.len x.leaf x.h (.slice x.a x.v.length x.c) hbx (HXOW.out x hxm).s (by show x.v.length ≤ _; omega)
          rw [p3, p4] at hq
          obtain ⟨r1, r2, r3, r4, r5, -⟩ := ERR.out
          rw [r1, r2, r3, r4, r5]
          exact hq
        have hp1' : Calls Tryd.prog 33 #[.pointer (some ⟨gb, 0, none⟩), .agg KX.toArray, .agg #[.slice (some ⟨wr.heap.size, 0, none⟩) 5 5, .int .u64 3]] (wr.drew.alloc (.cells #[.int .u8 111, .int .u8 116, .int .u8 104, .int .u8 101, .int .u8 114] 5 (5, 6))) fun e v' => e = .returned (.int .i64 0) ∧ OrdW K s0 w lo hi v' ga gb (buildT (someL 6 os)) (putT (backT (xs.drop (j + 1))) x.other) (some ⟨sb, sq, none⟩) on xs Bm o := by
          rw [ERR.out.1]
          exact hp1
        have hcv : (convert 22 22 (.slice (some ⟨wr.heap.size, 0, none⟩) 5 5)).run Tryd.prog ((wr.alloc (.cells #[.int .u8 111, .int .u8 116, .int .u8 104, .int .u8 101, .int .u8 114] 5)).drew) = .ok (.slice (some ⟨wr.heap.size, 0, none⟩) 5 5) ((wr.alloc (.cells #[.int .u8 111, .int .u8 116, .int .u8 104, .int .u8 101, .int .u8 114] 5 (5, 6))).drew) := Lib.run_convert_bytes_const wr.drew 22 5 #[.int .u8 111, .int .u8 116, .int .u8 104, .int .u8 101, .int .u8 114] 5 5 Tryd.underlying22 Tryd.underlying5
        have hS0 := HO2.out.sAt HX.out ERR.out
        have HPUT1 := Lib.hid hp1'
        have HPUT2 := Lib.hid hp2
        have HNX := Lib.hid hnil
        clear hxm hxs0 hxv0 p1 p2 p3 p4 hb6 hb7 ho7 hp1 hp1' hp2 hnil
        rcases (by have := HNX.out; omega : ¬ xn = 0 ∨ (xn = 0 ∧ ¬ xs1 = 0)) with h0 | ⟨h0, h1⟩
        · have h0' : ¬ (xn : Int) = 0 := by omega
          clear h0
          go_upto_region 12 with (fail)
          clear h0'
          refine wp_region_noPanic ?_
          refine wp_region_held_drew (S := (fun v => v.rangeAt sb so KX ∧ v.cell? ⟨sb, so + 32, none⟩ = some (.slice xa xn xc) ∧ v.cell? ⟨sb, so + 33, none⟩ = some (.int .u64 (xs1 : Int)))) (by kernel_rfl) hS0 (fun hH0 => ?_)
          refine wpAnyH_take (i := 0) (v := ((.pointer (some ⟨gb, 0, none⟩)))) rfl (by kernel_rfl) (by kernel_rfl) (by kernel_rfl) (fun _ _ _ h => h) (Or.inl ⟨by kernel_rfl, by intro w' hS; obtain ⟨e0, e1, e2⟩ := hS; go_simp⟩) hH0 ?_
          simp only [Act.put, List.getElem_toArray, List.getElem_cons_zero, List.getElem_cons_succ, List.setIfInBounds_toArray, List.set_cons_zero, List.set_cons_succ]
          refine wpAnyH_take (i := 1) (v := ((.slice (some ⟨sb, sq, none⟩) on oc))) rfl (by kernel_rfl) (by kernel_rfl) (by kernel_rfl) (fun _ _ _ h => h) (Or.inl ⟨by kernel_rfl, by intro w' hS; obtain ⟨e0, e1, e2⟩ := hS; go_simp⟩) hH0 ?_
          simp only [Act.put, List.getElem_toArray, List.getElem_cons_zero, List.getElem_cons_succ, List.setIfInBounds_toArray, List.set_cons_zero, List.set_cons_succ]
          refine wpAnyH_take (i := 2) (v := ((.int .i64 (j : Int)))) rfl (by kernel_rfl) (by kernel_rfl) (by kernel_rfl) (fun _ _ _ h => h) (Or.inl ⟨by kernel_rfl, by intro w' hS; obtain ⟨e0, e1, e2⟩ := hS; go_simp⟩) hH0 ?_
          simp only [Act.put, List.getElem_toArray, List.getElem_cons_zero, List.getElem_cons_succ, List.setIfInBounds_toArray, List.set_cons_zero, List.set_cons_succ]
          refine wpAnyH_take (i := 3) (v := ((.pointer (some ⟨sb, so, none⟩)))) rfl (by kernel_rfl) (by kernel_rfl) (by kernel_rfl) (fun _ _ _ h => h) (Or.inl ⟨by kernel_rfl, by intro w' hS; obtain ⟨e0, e1, e2⟩ := hS; go_simp⟩) hH0 ?_
          simp only [Act.put, List.getElem_toArray, List.getElem_cons_zero, List.getElem_cons_succ, List.setIfInBounds_toArray, List.set_cons_zero, List.set_cons_succ]
          refine wpAnyH_take (i := 4) (v := ((.pointer (some ⟨sb, so, none⟩)))) rfl (by kernel_rfl) (by kernel_rfl) (by kernel_rfl) (fun _ _ _ h => h) (Or.inl ⟨by kernel_rfl, by intro w' hS; obtain ⟨e0, e1, e2⟩ := hS; go_simp⟩) hH0 ?_
          simp only [Act.put, List.getElem_toArray, List.getElem_cons_zero, List.getElem_cons_succ, List.setIfInBounds_toArray, List.set_cons_zero, List.set_cons_succ]
          refine wpAnyH_take (i := 5) (v := (.agg KX.toArray)) rfl (by kernel_rfl) (by kernel_rfl) (by kernel_rfl) (fun _ _ _ h => h) (yieldsIf_load_mid (by kernel_rfl) 26 (.tmp 58) rfl sb so rfl KX _ (fun w' h => h.1) Tryd.underlying26 rfl SZX.out) hH0 ?_
          simp only [Act.put, List.getElem_toArray, List.getElem_cons_zero, List.getElem_cons_succ, List.setIfInBounds_toArray, List.set_cons_zero, List.set_cons_succ]
          refine wpAnyH_ready (rs := [6]) (by kernel_rfl) (by simp) ?_
          refine AllReadyH.cons rfl (fun K hK => ?_) AllReadyH.nil
          go_simp
          refine Shut.out hK _ _ hS1 (fun hH1 => ?_)
          clear hK K
          try simp only [Act.put, List.getElem_toArray, List.getElem_cons_zero, List.getElem_cons_succ, List.setIfInBounds_toArray, List.set_cons_zero, List.set_cons_succ]
          refine wpAnyH_ready (rs := [7]) (by kernel_rfl) (by simp) ?_
          refine AllReadyH.cons rfl (fun K hK => ?_) AllReadyH.nil
          go_simp
          refine Shut.out hK _ _ hS2 (fun hH2 => ?_)
          clear hK K
          try simp only [Act.put, List.getElem_toArray, List.getElem_cons_zero, List.getElem_cons_succ, List.setIfInBounds_toArray, List.set_cons_zero, List.set_cons_succ]
          refine wpAnyH_take (i := 8) (v := (.agg #[.slice (some ⟨wr.heap.size, 0, none⟩) 5 5, .int .u64 3])) rfl (by kernel_rfl) (by kernel_rfl) (by kernel_rfl) (fun _ _ _ h => h) (Or.inl ⟨by kernel_rfl, by intro w' hS; obtain ⟨e0, e1, e2⟩ := hS; go_simp⟩) hH2 ?_
          simp only [Act.put, List.getElem_toArray, List.getElem_cons_zero, List.getElem_cons_succ, List.setIfInBounds_toArray, List.set_cons_zero, List.set_cons_succ]
          refine wpAnyH_ready (rs := [9]) (by kernel_rfl) (by simp) ?_
          refine AllReadyH.cons rfl (fun K hK => ?_) AllReadyH.nil
          go_simp
          refine HPUT1.out.mono ?_
          rintro _ v1 ⟨rfl, ho1⟩
          have hs1 := ho1.sAt HX.out ERR.out
          refine Shut.out hK _ _ hs1 (fun hH3 => ?_)
          clear hK K
          try simp only [Act.put, List.getElem_toArray, List.getElem_cons_zero, List.getElem_cons_succ, List.setIfInBounds_toArray, List.set_cons_zero, List.set_cons_succ]
          refine wpAnyH_take (i := 10) (v := (.bool false)) rfl (by kernel_rfl) (by kernel_rfl) (by kernel_rfl) (fun _ _ _ h => h) (Or.inl ⟨by kernel_rfl, by intro w' hS; obtain ⟨e0, e1, e2⟩ := hS; go_simp⟩) hH3 ?_
          simp only [Act.put, List.getElem_toArray, List.getElem_cons_zero, List.getElem_cons_succ, List.setIfInBounds_toArray, List.set_cons_zero, List.set_cons_succ]
          refine wpAnyH_take (i := 11) (v := (.bool false)) rfl (by kernel_rfl) (by kernel_rfl) (by kernel_rfl) (fun _ _ _ h => h) (Or.inl ⟨by kernel_rfl, by intro w' hS; obtain ⟨e0, e1, e2⟩ := hS; go_simp⟩) hH3 ?_
          simp only [Act.put, List.getElem_toArray, List.getElem_cons_zero, List.getElem_cons_succ, List.setIfInBounds_toArray, List.set_cons_zero, List.set_cons_succ]
          refine wpAnyH_take (i := 12) (v := ((.pointer (some ⟨gb, 0, none⟩)))) rfl (by kernel_rfl) (by kernel_rfl) (by kernel_rfl) (fun _ _ _ h => h) (Or.inl ⟨by kernel_rfl, by intro w' hS; obtain ⟨e0, e1, e2⟩ := hS; go_simp⟩) hH3 ?_
          simp only [Act.put, List.getElem_toArray, List.getElem_cons_zero, List.getElem_cons_succ, List.setIfInBounds_toArray, List.set_cons_zero, List.set_cons_succ]
          refine wpAnyH_take (i := 13) (v := ((.slice (some ⟨sb, sq, none⟩) on oc))) rfl (by kernel_rfl) (by kernel_rfl) (by kernel_rfl) (fun _ _ _ h => h) (Or.inl ⟨by kernel_rfl, by intro w' hS; obtain ⟨e0, e1, e2⟩ := hS; go_simp⟩) hH3 ?_
          simp only [Act.put, List.getElem_toArray, List.getElem_cons_zero, List.getElem_cons_succ, List.setIfInBounds_toArray, List.set_cons_zero, List.set_cons_succ]
          refine wpAnyH_take (i := 14) (v := ((.int .i64 (j : Int)))) rfl (by kernel_rfl) (by kernel_rfl) (by kernel_rfl) (fun _ _ _ h => h) (Or.inl ⟨by kernel_rfl, by intro w' hS; obtain ⟨e0, e1, e2⟩ := hS; go_simp⟩) hH3 ?_
          simp only [Act.put, List.getElem_toArray, List.getElem_cons_zero, List.getElem_cons_succ, List.setIfInBounds_toArray, List.set_cons_zero, List.set_cons_succ]
          refine wpAnyH_take (i := 15) (v := ((.pointer (some ⟨sb, so, none⟩)))) rfl (by kernel_rfl) (by kernel_rfl) (by kernel_rfl) (fun _ _ _ h => h) (Or.inl ⟨by kernel_rfl, by intro w' hS; obtain ⟨e0, e1, e2⟩ := hS; go_simp⟩) hH3 ?_
          simp only [Act.put, List.getElem_toArray, List.getElem_cons_zero, List.getElem_cons_succ, List.setIfInBounds_toArray, List.set_cons_zero, List.set_cons_succ]
          refine wpAnyH_take (i := 16) (v := ((.pointer (some ⟨sb, so, none⟩)))) rfl (by kernel_rfl) (by kernel_rfl) (by kernel_rfl) (fun _ _ _ h => h) (Or.inl ⟨by kernel_rfl, by intro w' hS; obtain ⟨e0, e1, e2⟩ := hS; go_simp⟩) hH3 ?_
          simp only [Act.put, List.getElem_toArray, List.getElem_cons_zero, List.getElem_cons_succ, List.setIfInBounds_toArray, List.set_cons_zero, List.set_cons_succ]
          refine wpAnyH_take (i := 17) (v := (.agg KX.toArray)) rfl (by kernel_rfl) (by kernel_rfl) (by kernel_rfl) (fun _ _ _ h => h) (yieldsIf_load_mid (by kernel_rfl) 26 (.tmp 70) rfl sb so rfl KX _ (fun w' h => h.1) Tryd.underlying26 rfl SZX.out) hH3 ?_
          simp only [Act.put, List.getElem_toArray, List.getElem_cons_zero, List.getElem_cons_succ, List.setIfInBounds_toArray, List.set_cons_zero, List.set_cons_succ]
          refine wpAnyH_take (i := 18) (v := ((.slice (some ⟨sb, sq, none⟩) on oc))) rfl (by kernel_rfl) (by kernel_rfl) (by kernel_rfl) (fun _ _ _ h => h) (Or.inl ⟨by kernel_rfl, by intro w' hS; obtain ⟨e0, e1, e2⟩ := hS; go_simp⟩) hH3 ?_
          simp only [Act.put, List.getElem_toArray, List.getElem_cons_zero, List.getElem_cons_succ, List.setIfInBounds_toArray, List.set_cons_zero, List.set_cons_succ]
          refine wpAnyH_take (i := 19) (v := ((.int .i64 (j : Int)))) rfl (by kernel_rfl) (by kernel_rfl) (by kernel_rfl) (fun _ _ _ h => h) (Or.inl ⟨by kernel_rfl, by intro w' hS; obtain ⟨e0, e1, e2⟩ := hS; go_simp⟩) hH3 ?_
          simp only [Act.put, List.getElem_toArray, List.getElem_cons_zero, List.getElem_cons_succ, List.setIfInBounds_toArray, List.set_cons_zero, List.set_cons_succ]
          refine wpAnyH_take (i := 20) (v := ((.pointer (some ⟨sb, so, none⟩)))) rfl (by kernel_rfl) (by kernel_rfl) (by kernel_rfl) (fun _ _ _ h => h) (Or.inl ⟨by kernel_rfl, by intro w' hS; obtain ⟨e0, e1, e2⟩ := hS; go_simp⟩) hH3 ?_
          simp only [Act.put, List.getElem_toArray, List.getElem_cons_zero, List.getElem_cons_succ, List.setIfInBounds_toArray, List.set_cons_zero, List.set_cons_succ]
          refine wpAnyH_take (i := 21) (v := ((.pointer (some ⟨sb, so + 32, none⟩)))) rfl (by kernel_rfl) (by kernel_rfl) (by kernel_rfl) (fun _ _ _ h => h) (Or.inl ⟨by kernel_rfl, by intro w' hS; obtain ⟨e0, e1, e2⟩ := hS; go_simp⟩) hH3 ?_
          simp only [Act.put, List.getElem_toArray, List.getElem_cons_zero, List.getElem_cons_succ, List.setIfInBounds_toArray, List.set_cons_zero, List.set_cons_succ]
          refine wpAnyH_take (i := 22) (v := (.slice xa xn xc)) rfl (by kernel_rfl) (by kernel_rfl) (by kernel_rfl) (fun _ _ _ h => h) (Or.inl ⟨by kernel_rfl, by intro w' hS; obtain ⟨e0, e1, e2⟩ := hS; go_simp⟩) hH3 ?_
          simp only [Act.put, List.getElem_toArray, List.getElem_cons_zero, List.getElem_cons_succ, List.setIfInBounds_toArray, List.set_cons_zero, List.set_cons_succ]
          refine wpAnyH_take (i := 23) (v := ((.slice (some ⟨sb, sq, none⟩) on oc))) rfl (by kernel_rfl) (by kernel_rfl) (by kernel_rfl) (fun _ _ _ h => h) (Or.inl ⟨by kernel_rfl, by intro w' hS; obtain ⟨e0, e1, e2⟩ := hS; go_simp⟩) hH3 ?_
          simp only [Act.put, List.getElem_toArray, List.getElem_cons_zero, List.getElem_cons_succ, List.setIfInBounds_toArray, List.set_cons_zero, List.set_cons_succ]
          refine wpAnyH_take (i := 24) (v := ((.int .i64 (j : Int)))) rfl (by kernel_rfl) (by kernel_rfl) (by kernel_rfl) (fun _ _ _ h => h) (Or.inl ⟨by kernel_rfl, by intro w' hS; obtain ⟨e0, e1, e2⟩ := hS; go_simp⟩) hH3 ?_
          simp only [Act.put, List.getElem_toArray, List.getElem_cons_zero, List.getElem_cons_succ, List.setIfInBounds_toArray, List.set_cons_zero, List.set_cons_succ]
          refine wpAnyH_take (i := 25) (v := ((.pointer (some ⟨sb, so, none⟩)))) rfl (by kernel_rfl) (by kernel_rfl) (by kernel_rfl) (fun _ _ _ h => h) (Or.inl ⟨by kernel_rfl, by intro w' hS; obtain ⟨e0, e1, e2⟩ := hS; go_simp⟩) hH3 ?_
          simp only [Act.put, List.getElem_toArray, List.getElem_cons_zero, List.getElem_cons_succ, List.setIfInBounds_toArray, List.set_cons_zero, List.set_cons_succ]
          refine wpAnyH_take (i := 26) (v := ((.pointer (some ⟨sb, so + 33, none⟩)))) rfl (by kernel_rfl) (by kernel_rfl) (by kernel_rfl) (fun _ _ _ h => h) (Or.inl ⟨by kernel_rfl, by intro w' hS; obtain ⟨e0, e1, e2⟩ := hS; go_simp⟩) hH3 ?_
          simp only [Act.put, List.getElem_toArray, List.getElem_cons_zero, List.getElem_cons_succ, List.setIfInBounds_toArray, List.set_cons_zero, List.set_cons_succ]
          refine wpAnyH_take (i := 27) (v := (.int .u64 (xs1 : Int))) rfl (by kernel_rfl) (by kernel_rfl) (by kernel_rfl) (fun _ _ _ h => h) (Or.inl ⟨by kernel_rfl, by intro w' hS; obtain ⟨e0, e1, e2⟩ := hS; go_simp⟩) hH3 ?_
          simp only [Act.put, List.getElem_toArray, List.getElem_cons_zero, List.getElem_cons_succ, List.setIfInBounds_toArray, List.set_cons_zero, List.set_cons_succ]
          refine wpAnyH_take (i := 28) (v := (.agg #[.slice xa xn xc, .int .u64 (xs1 : Int)])) rfl (by kernel_rfl) (by kernel_rfl) (by kernel_rfl) (fun _ _ _ h => h) (Or.inl ⟨by kernel_rfl, by intro w' hS; obtain ⟨e0, e1, e2⟩ := hS; go_simp⟩) hH3 ?_
          simp only [Act.put, List.getElem_toArray, List.getElem_cons_zero, List.getElem_cons_succ, List.setIfInBounds_toArray, List.set_cons_zero, List.set_cons_succ]
          refine wpAnyH_ready (rs := [29]) (by kernel_rfl) (by simp) ?_
          refine AllReadyH.cons rfl (fun K hK => ?_) AllReadyH.nil
          go_simp
          refine (HPUT2.out _ ho1).mono ?_
          rintro _ v2 ⟨rfl, ho2⟩
          have hs2 := ho2.sAt HX.out ERR.out
          refine Shut.out hK _ _ hs2 (fun hH4 => ?_)
          clear hK K
          try simp only [Act.put, List.getElem_toArray, List.getElem_cons_zero, List.getElem_cons_succ, List.setIfInBounds_toArray, List.set_cons_zero, List.set_cons_succ]
          refine wpAnyH_take (i := 30) (v := (.bool false)) rfl (by kernel_rfl) (by kernel_rfl) (by kernel_rfl) (fun _ _ _ h => h) (Or.inl ⟨by kernel_rfl, by intro w' hS; obtain ⟨e0, e1, e2⟩ := hS; go_simp⟩) hH4 ?_
          simp only [Act.put, List.getElem_toArray, List.getElem_cons_zero, List.getElem_cons_succ, List.setIfInBounds_toArray, List.set_cons_zero, List.set_cons_succ]
          refine wpAnyH_take (i := 31) (v := (.bool false)) rfl (by kernel_rfl) (by kernel_rfl) (by kernel_rfl) (fun _ _ _ h => h) (Or.inl ⟨by kernel_rfl, by intro w' hS; obtain ⟨e0, e1, e2⟩ := hS; go_simp⟩) hH4 ?_
          simp only [Act.put, List.getElem_toArray, List.getElem_cons_zero, List.getElem_cons_succ, List.setIfInBounds_toArray, List.set_cons_zero, List.set_cons_succ]
          refine wpAnyH_done (by kernel_rfl) ?_ _
          refine NoPanic.normal ?_
          go_wp2
          go_roundw
          case rel =>
            have e : ((j : Int) - 1 + 1).toNat = j := by omega
            have hfin : ∃ i : Int, Value.int .i64 ((j : Int) - 1) = .int .i64 i ∧ -1 ≤ i ∧ i < (on : Int) ∧ OrdW K s0 w lo hi v2 ga gb (buildT (someL 6 os)) (backT (xs.drop (i + 1).toNat)) (some ⟨sb, sq, none⟩) on xs Bm o :=
              ⟨(j : Int) - 1, rfl, by omega, by omega, by rw [e, HDROP.out]; exact ho2⟩
            have hfin2 := hfin
            rw [← hw2] at hfin2
            first | exact hfin | exact hfin2 | ((repeat apply Exists.intro); exact ⟨hfin2, rfl⟩) | ((repeat apply Exists.intro); exact ⟨hfin, rfl⟩)
          case measure => simp [intOf]; omega
        · have h0' : (xn : Int) = 0 := by omega
          have h1' : ¬ (xs1 : Int) = 0 := by omega
          clear h0 h1
          go_upto_region 12 with (fail)
          clear h0' h1'
          refine wp_region_noPanic ?_
          refine wp_region_held_drew (S := (fun v => v.rangeAt sb so KX ∧ v.cell? ⟨sb, so + 32, none⟩ = some (.slice xa xn xc) ∧ v.cell? ⟨sb, so + 33, none⟩ = some (.int .u64 (xs1 : Int)))) (by kernel_rfl) hS0 (fun hH0 => ?_)
          refine wpAnyH_take (i := 0) (v := ((.pointer (some ⟨gb, 0, none⟩)))) rfl (by kernel_rfl) (by kernel_rfl) (by kernel_rfl) (fun _ _ _ h => h) (Or.inl ⟨by kernel_rfl, by intro w' hS; obtain ⟨e0, e1, e2⟩ := hS; go_simp⟩) hH0 ?_
          simp only [Act.put, List.getElem_toArray, List.getElem_cons_zero, List.getElem_cons_succ, List.setIfInBounds_toArray, List.set_cons_zero, List.set_cons_succ]
          refine wpAnyH_take (i := 1) (v := ((.slice (some ⟨sb, sq, none⟩) on oc))) rfl (by kernel_rfl) (by kernel_rfl) (by kernel_rfl) (fun _ _ _ h => h) (Or.inl ⟨by kernel_rfl, by intro w' hS; obtain ⟨e0, e1, e2⟩ := hS; go_simp⟩) hH0 ?_
          simp only [Act.put, List.getElem_toArray, List.getElem_cons_zero, List.getElem_cons_succ, List.setIfInBounds_toArray, List.set_cons_zero, List.set_cons_succ]
          refine wpAnyH_take (i := 2) (v := ((.int .i64 (j : Int)))) rfl (by kernel_rfl) (by kernel_rfl) (by kernel_rfl) (fun _ _ _ h => h) (Or.inl ⟨by kernel_rfl, by intro w' hS; obtain ⟨e0, e1, e2⟩ := hS; go_simp⟩) hH0 ?_
          simp only [Act.put, List.getElem_toArray, List.getElem_cons_zero, List.getElem_cons_succ, List.setIfInBounds_toArray, List.set_cons_zero, List.set_cons_succ]
          refine wpAnyH_take (i := 3) (v := ((.pointer (some ⟨sb, so, none⟩)))) rfl (by kernel_rfl) (by kernel_rfl) (by kernel_rfl) (fun _ _ _ h => h) (Or.inl ⟨by kernel_rfl, by intro w' hS; obtain ⟨e0, e1, e2⟩ := hS; go_simp⟩) hH0 ?_
          simp only [Act.put, List.getElem_toArray, List.getElem_cons_zero, List.getElem_cons_succ, List.setIfInBounds_toArray, List.set_cons_zero, List.set_cons_succ]
          refine wpAnyH_take (i := 4) (v := ((.pointer (some ⟨sb, so, none⟩)))) rfl (by kernel_rfl) (by kernel_rfl) (by kernel_rfl) (fun _ _ _ h => h) (Or.inl ⟨by kernel_rfl, by intro w' hS; obtain ⟨e0, e1, e2⟩ := hS; go_simp⟩) hH0 ?_
          simp only [Act.put, List.getElem_toArray, List.getElem_cons_zero, List.getElem_cons_succ, List.setIfInBounds_toArray, List.set_cons_zero, List.set_cons_succ]
          refine wpAnyH_take (i := 5) (v := (.agg KX.toArray)) rfl (by kernel_rfl) (by kernel_rfl) (by kernel_rfl) (fun _ _ _ h => h) (yieldsIf_load_mid (by kernel_rfl) 26 (.tmp 58) rfl sb so rfl KX _ (fun w' h => h.1) Tryd.underlying26 rfl SZX.out) hH0 ?_
          simp only [Act.put, List.getElem_toArray, List.getElem_cons_zero, List.getElem_cons_succ, List.setIfInBounds_toArray, List.set_cons_zero, List.set_cons_succ]
          refine wpAnyH_ready (rs := [6]) (by kernel_rfl) (by simp) ?_
          refine AllReadyH.cons rfl (fun K hK => ?_) AllReadyH.nil
          go_simp
          refine Shut.out hK _ _ hS1 (fun hH1 => ?_)
          clear hK K
          try simp only [Act.put, List.getElem_toArray, List.getElem_cons_zero, List.getElem_cons_succ, List.setIfInBounds_toArray, List.set_cons_zero, List.set_cons_succ]
          refine wpAnyH_ready (rs := [7]) (by kernel_rfl) (by simp) ?_
          refine AllReadyH.cons rfl (fun K hK => ?_) AllReadyH.nil
          go_simp
          refine Shut.out hK _ _ hS2 (fun hH2 => ?_)
          clear hK K
          try simp only [Act.put, List.getElem_toArray, List.getElem_cons_zero, List.getElem_cons_succ, List.setIfInBounds_toArray, List.set_cons_zero, List.set_cons_succ]
          refine wpAnyH_take (i := 8) (v := (.agg #[.slice (some ⟨wr.heap.size, 0, none⟩) 5 5, .int .u64 3])) rfl (by kernel_rfl) (by kernel_rfl) (by kernel_rfl) (fun _ _ _ h => h) (Or.inl ⟨by kernel_rfl, by intro w' hS; obtain ⟨e0, e1, e2⟩ := hS; go_simp⟩) hH2 ?_
          simp only [Act.put, List.getElem_toArray, List.getElem_cons_zero, List.getElem_cons_succ, List.setIfInBounds_toArray, List.set_cons_zero, List.set_cons_succ]
          refine wpAnyH_ready (rs := [9]) (by kernel_rfl) (by simp) ?_
          refine AllReadyH.cons rfl (fun K hK => ?_) AllReadyH.nil
          go_simp
          refine HPUT1.out.mono ?_
          rintro _ v1 ⟨rfl, ho1⟩
          have hs1 := ho1.sAt HX.out ERR.out
          refine Shut.out hK _ _ hs1 (fun hH3 => ?_)
          clear hK K
          try simp only [Act.put, List.getElem_toArray, List.getElem_cons_zero, List.getElem_cons_succ, List.setIfInBounds_toArray, List.set_cons_zero, List.set_cons_succ]
          refine wpAnyH_take (i := 10) (v := (.bool false)) rfl (by kernel_rfl) (by kernel_rfl) (by kernel_rfl) (fun _ _ _ h => h) (Or.inl ⟨by kernel_rfl, by intro w' hS; obtain ⟨e0, e1, e2⟩ := hS; go_simp⟩) hH3 ?_
          simp only [Act.put, List.getElem_toArray, List.getElem_cons_zero, List.getElem_cons_succ, List.setIfInBounds_toArray, List.set_cons_zero, List.set_cons_succ]
          refine wpAnyH_take (i := 11) (v := (.bool false)) rfl (by kernel_rfl) (by kernel_rfl) (by kernel_rfl) (fun _ _ _ h => h) (Or.inl ⟨by kernel_rfl, by intro w' hS; obtain ⟨e0, e1, e2⟩ := hS; go_simp⟩) hH3 ?_
          simp only [Act.put, List.getElem_toArray, List.getElem_cons_zero, List.getElem_cons_succ, List.setIfInBounds_toArray, List.set_cons_zero, List.set_cons_succ]
          refine wpAnyH_take (i := 12) (v := ((.pointer (some ⟨gb, 0, none⟩)))) rfl (by kernel_rfl) (by kernel_rfl) (by kernel_rfl) (fun _ _ _ h => h) (Or.inl ⟨by kernel_rfl, by intro w' hS; obtain ⟨e0, e1, e2⟩ := hS; go_simp⟩) hH3 ?_
          simp only [Act.put, List.getElem_toArray, List.getElem_cons_zero, List.getElem_cons_succ, List.setIfInBounds_toArray, List.set_cons_zero, List.set_cons_succ]
          refine wpAnyH_take (i := 13) (v := ((.slice (some ⟨sb, sq, none⟩) on oc))) rfl (by kernel_rfl) (by kernel_rfl) (by kernel_rfl) (fun _ _ _ h => h) (Or.inl ⟨by kernel_rfl, by intro w' hS; obtain ⟨e0, e1, e2⟩ := hS; go_simp⟩) hH3 ?_
          simp only [Act.put, List.getElem_toArray, List.getElem_cons_zero, List.getElem_cons_succ, List.setIfInBounds_toArray, List.set_cons_zero, List.set_cons_succ]
          refine wpAnyH_take (i := 14) (v := ((.int .i64 (j : Int)))) rfl (by kernel_rfl) (by kernel_rfl) (by kernel_rfl) (fun _ _ _ h => h) (Or.inl ⟨by kernel_rfl, by intro w' hS; obtain ⟨e0, e1, e2⟩ := hS; go_simp⟩) hH3 ?_
          simp only [Act.put, List.getElem_toArray, List.getElem_cons_zero, List.getElem_cons_succ, List.setIfInBounds_toArray, List.set_cons_zero, List.set_cons_succ]
          refine wpAnyH_take (i := 15) (v := ((.pointer (some ⟨sb, so, none⟩)))) rfl (by kernel_rfl) (by kernel_rfl) (by kernel_rfl) (fun _ _ _ h => h) (Or.inl ⟨by kernel_rfl, by intro w' hS; obtain ⟨e0, e1, e2⟩ := hS; go_simp⟩) hH3 ?_
          simp only [Act.put, List.getElem_toArray, List.getElem_cons_zero, List.getElem_cons_succ, List.setIfInBounds_toArray, List.set_cons_zero, List.set_cons_succ]
          refine wpAnyH_take (i := 16) (v := ((.pointer (some ⟨sb, so, none⟩)))) rfl (by kernel_rfl) (by kernel_rfl) (by kernel_rfl) (fun _ _ _ h => h) (Or.inl ⟨by kernel_rfl, by intro w' hS; obtain ⟨e0, e1, e2⟩ := hS; go_simp⟩) hH3 ?_
          simp only [Act.put, List.getElem_toArray, List.getElem_cons_zero, List.getElem_cons_succ, List.setIfInBounds_toArray, List.set_cons_zero, List.set_cons_succ]
          refine wpAnyH_take (i := 17) (v := (.agg KX.toArray)) rfl (by kernel_rfl) (by kernel_rfl) (by kernel_rfl) (fun _ _ _ h => h) (yieldsIf_load_mid (by kernel_rfl) 26 (.tmp 70) rfl sb so rfl KX _ (fun w' h => h.1) Tryd.underlying26 rfl SZX.out) hH3 ?_
          simp only [Act.put, List.getElem_toArray, List.getElem_cons_zero, List.getElem_cons_succ, List.setIfInBounds_toArray, List.set_cons_zero, List.set_cons_succ]
          refine wpAnyH_take (i := 18) (v := ((.slice (some ⟨sb, sq, none⟩) on oc))) rfl (by kernel_rfl) (by kernel_rfl) (by kernel_rfl) (fun _ _ _ h => h) (Or.inl ⟨by kernel_rfl, by intro w' hS; obtain ⟨e0, e1, e2⟩ := hS; go_simp⟩) hH3 ?_
          simp only [Act.put, List.getElem_toArray, List.getElem_cons_zero, List.getElem_cons_succ, List.setIfInBounds_toArray, List.set_cons_zero, List.set_cons_succ]
          refine wpAnyH_take (i := 19) (v := ((.int .i64 (j : Int)))) rfl (by kernel_rfl) (by kernel_rfl) (by kernel_rfl) (fun _ _ _ h => h) (Or.inl ⟨by kernel_rfl, by intro w' hS; obtain ⟨e0, e1, e2⟩ := hS; go_simp⟩) hH3 ?_
          simp only [Act.put, List.getElem_toArray, List.getElem_cons_zero, List.getElem_cons_succ, List.setIfInBounds_toArray, List.set_cons_zero, List.set_cons_succ]
          refine wpAnyH_take (i := 20) (v := ((.pointer (some ⟨sb, so, none⟩)))) rfl (by kernel_rfl) (by kernel_rfl) (by kernel_rfl) (fun _ _ _ h => h) (Or.inl ⟨by kernel_rfl, by intro w' hS; obtain ⟨e0, e1, e2⟩ := hS; go_simp⟩) hH3 ?_
          simp only [Act.put, List.getElem_toArray, List.getElem_cons_zero, List.getElem_cons_succ, List.setIfInBounds_toArray, List.set_cons_zero, List.set_cons_succ]
          refine wpAnyH_take (i := 21) (v := ((.pointer (some ⟨sb, so + 32, none⟩)))) rfl (by kernel_rfl) (by kernel_rfl) (by kernel_rfl) (fun _ _ _ h => h) (Or.inl ⟨by kernel_rfl, by intro w' hS; obtain ⟨e0, e1, e2⟩ := hS; go_simp⟩) hH3 ?_
          simp only [Act.put, List.getElem_toArray, List.getElem_cons_zero, List.getElem_cons_succ, List.setIfInBounds_toArray, List.set_cons_zero, List.set_cons_succ]
          refine wpAnyH_take (i := 22) (v := (.slice xa xn xc)) rfl (by kernel_rfl) (by kernel_rfl) (by kernel_rfl) (fun _ _ _ h => h) (Or.inl ⟨by kernel_rfl, by intro w' hS; obtain ⟨e0, e1, e2⟩ := hS; go_simp⟩) hH3 ?_
          simp only [Act.put, List.getElem_toArray, List.getElem_cons_zero, List.getElem_cons_succ, List.setIfInBounds_toArray, List.set_cons_zero, List.set_cons_succ]
          refine wpAnyH_take (i := 23) (v := ((.slice (some ⟨sb, sq, none⟩) on oc))) rfl (by kernel_rfl) (by kernel_rfl) (by kernel_rfl) (fun _ _ _ h => h) (Or.inl ⟨by kernel_rfl, by intro w' hS; obtain ⟨e0, e1, e2⟩ := hS; go_simp⟩) hH3 ?_
          simp only [Act.put, List.getElem_toArray, List.getElem_cons_zero, List.getElem_cons_succ, List.setIfInBounds_toArray, List.set_cons_zero, List.set_cons_succ]
          refine wpAnyH_take (i := 24) (v := ((.int .i64 (j : Int)))) rfl (by kernel_rfl) (by kernel_rfl) (by kernel_rfl) (fun _ _ _ h => h) (Or.inl ⟨by kernel_rfl, by intro w' hS; obtain ⟨e0, e1, e2⟩ := hS; go_simp⟩) hH3 ?_
          simp only [Act.put, List.getElem_toArray, List.getElem_cons_zero, List.getElem_cons_succ, List.setIfInBounds_toArray, List.set_cons_zero, List.set_cons_succ]
          refine wpAnyH_take (i := 25) (v := ((.pointer (some ⟨sb, so, none⟩)))) rfl (by kernel_rfl) (by kernel_rfl) (by kernel_rfl) (fun _ _ _ h => h) (Or.inl ⟨by kernel_rfl, by intro w' hS; obtain ⟨e0, e1, e2⟩ := hS; go_simp⟩) hH3 ?_
          simp only [Act.put, List.getElem_toArray, List.getElem_cons_zero, List.getElem_cons_succ, List.setIfInBounds_toArray, List.set_cons_zero, List.set_cons_succ]
          refine wpAnyH_take (i := 26) (v := ((.pointer (some ⟨sb, so + 33, none⟩)))) rfl (by kernel_rfl) (by kernel_rfl) (by kernel_rfl) (fun _ _ _ h => h) (Or.inl ⟨by kernel_rfl, by intro w' hS; obtain ⟨e0, e1, e2⟩ := hS; go_simp⟩) hH3 ?_
          simp only [Act.put, List.getElem_toArray, List.getElem_cons_zero, List.getElem_cons_succ, List.setIfInBounds_toArray, List.set_cons_zero, List.set_cons_succ]
          refine wpAnyH_take (i := 27) (v := (.int .u64 (xs1 : Int))) rfl (by kernel_rfl) (by kernel_rfl) (by kernel_rfl) (fun _ _ _ h => h) (Or.inl ⟨by kernel_rfl, by intro w' hS; obtain ⟨e0, e1, e2⟩ := hS; go_simp⟩) hH3 ?_
          simp only [Act.put, List.getElem_toArray, List.getElem_cons_zero, List.getElem_cons_succ, List.setIfInBounds_toArray, List.set_cons_zero, List.set_cons_succ]
          refine wpAnyH_take (i := 28) (v := (.agg #[.slice xa xn xc, .int .u64 (xs1 : Int)])) rfl (by kernel_rfl) (by kernel_rfl) (by kernel_rfl) (fun _ _ _ h => h) (Or.inl ⟨by kernel_rfl, by intro w' hS; obtain ⟨e0, e1, e2⟩ := hS; go_simp⟩) hH3 ?_
          simp only [Act.put, List.getElem_toArray, List.getElem_cons_zero, List.getElem_cons_succ, List.setIfInBounds_toArray, List.set_cons_zero, List.set_cons_succ]
          refine wpAnyH_ready (rs := [29]) (by kernel_rfl) (by simp) ?_
          refine AllReadyH.cons rfl (fun K hK => ?_) AllReadyH.nil
          go_simp
          refine (HPUT2.out _ ho1).mono ?_
          rintro _ v2 ⟨rfl, ho2⟩
          have hs2 := ho2.sAt HX.out ERR.out
          refine Shut.out hK _ _ hs2 (fun hH4 => ?_)
          clear hK K
          try simp only [Act.put, List.getElem_toArray, List.getElem_cons_zero, List.getElem_cons_succ, List.setIfInBounds_toArray, List.set_cons_zero, List.set_cons_succ]
          refine wpAnyH_take (i := 30) (v := (.bool false)) rfl (by kernel_rfl) (by kernel_rfl) (by kernel_rfl) (fun _ _ _ h => h) (Or.inl ⟨by kernel_rfl, by intro w' hS; obtain ⟨e0, e1, e2⟩ := hS; go_simp⟩) hH4 ?_
          simp only [Act.put, List.getElem_toArray, List.getElem_cons_zero, List.getElem_cons_succ, List.setIfInBounds_toArray, List.set_cons_zero, List.set_cons_succ]
          refine wpAnyH_take (i := 31) (v := (.bool false)) rfl (by kernel_rfl) (by kernel_rfl) (by kernel_rfl) (fun _ _ _ h => h) (Or.inl ⟨by kernel_rfl, by intro w' hS; obtain ⟨e0, e1, e2⟩ := hS; go_simp⟩) hH4 ?_
          simp only [Act.put, List.getElem_toArray, List.getElem_cons_zero, List.getElem_cons_succ, List.setIfInBounds_toArray, List.set_cons_zero, List.set_cons_succ]
          refine wpAnyH_done (by kernel_rfl) ?_ _
          refine NoPanic.normal ?_
          go_wp2
          go_roundw
          case rel =>
            have e : ((j : Int) - 1 + 1).toNat = j := by omega
            have hfin : ∃ i : Int, Value.int .i64 ((j : Int) - 1) = .int .i64 i ∧ -1 ≤ i ∧ i < (on : Int) ∧ OrdW K s0 w lo hi v2 ga gb (buildT (someL 6 os)) (backT (xs.drop (i + 1).toNat)) (some ⟨sb, sq, none⟩) on xs Bm o :=
              ⟨(j : Int) - 1, rfl, by omega, by omega, by rw [e, HDROP.out]; exact ho2⟩
            have hfin2 := hfin
            rw [← hw2] at hfin2
            first | exact hfin | exact hfin2 | ((repeat apply Exists.intro); exact ⟨hfin2, rfl⟩) | ((repeat apply Exists.intro); exact ⟨hfin, rfl⟩)
          case measure => simp [intOf]; omega
    · have EI := Lib.hid (show i = -1 by omega)
      have ho := HO1.out
      rw [show (i + 1).toNat = 0 by have := EI.out; omega, List.drop_zero] at ho
      obtain ⟨TB, hTB⟩ : ∃ T, T = backT xs := ⟨_, rfl⟩
      obtain ⟨TA, hTA⟩ : ∃ T, T = buildT (someL 6 os) := ⟨_, rfl⟩
      rw [← hTB, ← hTA] at ho
      have hsmall : SmallT TB := by
        have h := ho.b
        rw [hTB, EXS.out] at h ⊢
        exact small_back 6 (by decide) os h
      obtain ⟨KO, hKO⟩ : ∃ L, L = bcells o.sel.key := ⟨_, rfl⟩
      have hget := ho.get o.sel.key HO.out.key
      unfold arr at hget
      obtain ⟨kn, hkn⟩ : ∃ b, b = (findT TB o.sel.key).isSome := ⟨_, rfl⟩
      obtain ⟨gn, hgn⟩ : ∃ b, b = (valT TB o.sel.key).length := ⟨_, rfl⟩
      obtain ⟨gs, hgs⟩ : ∃ b, b = wasS TB o.sel.key := ⟨_, rfl⟩
      rw [← hKO, ← hkn, ← hgn, ← hgs] at hget
      have hko : wr.rangeAt Bm 1 KO := by rw [hKO]; exact op_key ho.more
      have HGET := Lib.hid hget
      have HKO := Lib.hid hko
      have EKO := Lib.hid hKO
      have EKN := Lib.hid hkn
      have ETB := Lib.hid hTB
      have ETA := Lib.hid hTA
      have HSMALL := Lib.hid hsmall
      have SZKO := Lib.hid (show (Tryd.prog.info? 27).map (·.size) = some KO.length by rw [hKO, bcells_length, HO.out.key.1]; kernel_rfl)
      clear ho hget hko hKO hkn hgn hgs hTB hTA hsmall HO1 hi1 hi2
      go_wp2_with (refine wpList_load_mid rfl 27 (.tmp 88) rfl Bm 1 rfl KO _ HKO.out Tryd.underlying27 rfl SZKO.out ?_)
      refine HGET.out.mono ?_
      rintro _ w6 ⟨ga6, gc6, rfl, ho6⟩
      have ho7 : OrdW K s0 w lo hi ((w6.alloc (.cells #[.slice none 0 0, .int .u64 0] 25)).setRow w6.heap.size #[.slice ga6 gn gc6, .int .u64 (gs : Int)]) ga gb TA TB oa on xs Bm o := by
        rw [World.setRow_alloc_new]
        exact ho6.below ((Below.refl _ _).alloc (Nat.le_refl _) _)
      have HO7 := Lib.hid ho7
      have SZ2 := Lib.hid (show (Tryd.prog.info? 25).map (·.size) = some (#[Value.slice ga6 gn gc6, .int .u64 (gs : Int)] : Array Value).size by kernel_rfl)
      have ONE2 := Lib.hid (show (#[Value.slice ga6 gn gc6, .int .u64 (gs : Int)] : Array Value).all (·.oneCell') = true by kernel_rfl)
      clear ho6 ho7 HGET HKO
      go_upto_region 15 with (refine wpList_store_row rfl 25 (.tmp 9) (.tmp 91) rfl w6.heap.size #[.slice ga6 gn gc6, .int .u64 (gs : Int)] rfl rfl 25 #[.slice none 0 0, .int .u64 0] (heap_alloc_new w6 _) SZ2.out rfl ONE2.out ?_)
      have ho8 := HO7.out
      clear HO7
      generalize (w6.alloc (.cells #[.slice none 0 0, .int .u64 0] 25)).setRow w6.heap.size #[.slice ga6 gn gc6, .int .u64 (gs : Int)] = W8 at ho8 ⊢
      generalize w6.heap.size = G6
      have HO8 := Lib.hid ho8
      obtain ⟨c33, c34⟩ := HM33.out _ ho8.more
      have hko8 : W8.rangeAt Bm 1 KO := by rw [EKO.out]; exact op_key ho8.more
      have HKO8 := Lib.hid hko8
      clear ho8 hko8
      go_cut [116] from 14 (fun c wx => c = .bool false ∧ OrdW K s0 w lo hi wx ga gb TA TB oa on xs Bm o)
      case first =>
        cases kn with
        | true =>
          go_wp2
          go_meet
          case rel => exact ⟨rfl, HO8.out⟩
        | false =>
          have hf : findT TB o.sel.key = none := by
            have h := EKN.out
            cases hf : findT TB o.sel.key with
            | none => rfl
            | some l => rw [hf] at h; cases h
          obtain ⟨sm, hsm⟩ : ∃ x : Nat, x = om % 65536 := ⟨_, rfl⟩
          have hand : bits BinOp.and .u64 (om : Int) 65535 = (sm : Int) := by rw [and_16 _ (by omega), hsm]; omega
          have hsmlt : sm < 65536 := by omega
          have hl200 : (⟨o.sel.key, o.sel.v, sm⟩ : Lf).v.length ≤ 65536 := by show o.sel.v.length ≤ _; have := HLONG.out; have := EN.out; omega
          have hl18 : (⟨o.sel.key, o.sel.v, sm⟩ : Lf).s < 1000000000000000000 := by show sm < _; omega
          have hcase := swap_put HSMALL.out hl200 hl18
          have hnewc := swap_new HSMALL.out hl200 hl18
          have hput := HO8.out.put HT.out.len ⟨o.sel.key, o.sel.v, sm⟩ HO.out.key (.slice o.sel.a o.sel.v.length o.sel.c) (HO.out.bytes.alive HO8.out.bel HO8.out.bel.size) (by show sm < _; omega) (by show o.sel.v.length ≤ _; have := HLONG.out; have := EN.out; omega)
          have hput' : Calls Tryd.prog 33 #[.pointer (some ⟨gb, 0, none⟩), .agg KO.toArray, .agg #[.slice oma nb omc, .int .u64 (sm : Int)]] W8 fun e W' => e = .returned (.int .i64 (putE TB ⟨o.sel.key, o.sel.v, sm⟩)) ∧ OrdW K s0 w lo hi W' ga gb TA (putN TB ⟨o.sel.key, o.sel.v, sm⟩) oa on xs Bm o := by
            rw [EKO.out, EOA.out, EN.out, EOC.out]
            exact hput
          have HPUT := Lib.hid hput'
          have HCASE := Lib.hid hcase
          have HNEWC := Lib.hid (fun h0 => hnewc h0 hf)
          clear hf hsm hl200 hl18 hcase hnewc hput hput' hsmlt
          go_wp2_with (refine wpList_load_midG rfl 27 (.tmp 97) rfl Bm 1 rfl KO _ HKO8.out Tryd.underlying27 rfl SZKO.out ?_)
          rcases HCASE.out with hE | ⟨hE, h1, h2, h3⟩
          · have hput2 := HPUT.out
            obtain ⟨q1, q2⟩ := HNEWC.out hE
            rw [hE] at hput2
            have HPUT2 := Lib.hid hput2
            have HQ := Lib.hid (And.intro q1 q2)
            clear hput2 q1 q2 hE HPUT HCASE HNEWC c33 c34
            refine HPUT2.out.mono ?_
            rintro _ w9 ⟨rfl, ho9⟩
            have hko9 : w9.rangeAt Bm 1 KO := by rw [EKO.out]; exact op_key ho9.more
            have hdrop := ho9.drop HT.out.len o.sel.key HO.out.key
            unfold arr at hdrop
            rw [HQ.out.1, HQ.out.2, ← EKO.out] at hdrop
            have HKO9 := Lib.hid hko9
            have HDROP := Lib.hid hdrop
            clear hko9 hdrop ho9 HPUT2
            go_wp2_with (refine wpList_load_midG rfl 27 (.tmp 112) rfl Bm 1 rfl KO _ HKO9.out Tryd.underlying27 rfl SZKO.out ?_)
            refine HDROP.out.mono ?_
            rintro _ w10 ⟨rfl, ho10⟩
            have HO10 := Lib.hid ho10
            clear ho10
            go_wp2
            go_meet
            case rel => exact ⟨rfl, HO10.out⟩
          · have hput2 := HPUT.out
            rw [hE, h3] at hput2
            have HPUT2 := Lib.hid hput2
            clear hput2 hE h1 h2 h3 HPUT HCASE HNEWC c33 c34
            refine HPUT2.out.mono ?_
            rintro _ w9 ⟨rfl, ho9⟩
            have HO10 := Lib.hid ho9
            clear ho9
            go_wp2
            go_meet
            case rel => exact ⟨rfl, HO10.out⟩
      case rest =>
        obtain ⟨w9, hw9⟩ : ∃ y, y = wc := ⟨_, rfl⟩
        subst hw9
        obtain ⟨rfl, ho9⟩ := hcut
        have HO9 := Lib.hid ho9
        clear ho9 HO8 c33 c34 HKO8
        go_wp2_with fail
        go_loopw [11, 119] (fun sv jv wy => ∃ q : Nat, jv = .int .i64 (q : Int) ∧ q ≤ on ∧ sv = .int .u64 ((sumS (xs.take q) : Nat) : Int) ∧ OrdW K s0 w lo hi wy ga gb TA TB oa on xs Bm o) (fun _ jv _ => on - (intOf jv).toNat)
        case atStart => exact ⟨0, rfl, Nat.zero_le _, rfl, HO9.out⟩
        case round =>
          obtain ⟨q, rfl, hq, rfl, hoy⟩ := hrel
          have HOY := Lib.hid hoy
          clear hoy HO9
          by_cases hq2 : q < on
          · obtain ⟨x, hx⟩ : ∃ x, xs[q]? = some x := ⟨_, List.getElem?_eq_getElem (by rw [HXL.out]; exact hq2)⟩
            obtain ⟨sb, sq, hA1, hsb, hrow⟩ := HOY.out.row (by omega)
            subst hA1
            have hry := hrow q x hx
            have hat := at_sel sb sq on oc q hq2
            obtain ⟨ZS, hzS, hzsS, hznS⟩ := zero_sel
            obtain ⟨sn, hsn⟩ : ∃ n, n = sumS (xs.take q) := ⟨_, rfl⟩
            obtain ⟨s2, hs2⟩ : ∃ n, n = sumS (xs.take (q + 1)) := ⟨_, rfl⟩
            obtain ⟨xs1, hxs1⟩ : ∃ n, n = x.s := ⟨_, rfl⟩
            have hgrow := sum_grow xs q x hx
            have hfit : sumS (xs.take (q + 1)) < 18446744073709551616 := by
              have h1 := orders_sum 6 (by decide) os (q + 1) (by rw [← EXS.out, HXL.out]; omega)
              rw [← EXS.out] at h1
              rw [← h1]
              have h2 := build_fits (xs.take (q + 1)) (fun y hy => by
                have hy' := List.mem_of_mem_take hy
                rw [EXS.out] at hy'
                exact some_small 6 os y hy')
              have h3 : (xs.take (q + 1)).length ≤ 6 := by rw [List.length_take]; have := HX6.out; have := HXL.out; omega
              have : (xs.take (q + 1)).length * 281474976710656 ≤ 6 * 281474976710656 := Nat.mul_le_mul_right _ h3
              omega
            rw [← hsn] at hgrow ⊢
            rw [← hs2] at hgrow hfit
            rw [← hxs1] at hgrow
            have hadd : IntKind.u64.wrap ((sn : Int) + (xs1 : Int)) = (s2 : Int) := by rw [IntKind.wrap_u64]; omega
            have hadd2 : ((sn : Int) + (xs1 : Int)) % 18446744073709551616 = (s2 : Int) := by omega
            have hw1 : wrap64 ((q : Int) + 1) = ((q + 1 : Nat) : Int) := by have := HX6.out; unfold wrap64; omega
            have HRY := Lib.hid hry
            have SZY := Lib.hid (show (Tryd.prog.info? 63).map (·.size) = some x.cells.length by rw [Sel.len']; kernel_rfl)
            have SZYA := Lib.hid (show (Tryd.prog.info? 63).map (·.size) = some x.cells.toArray.size by rw [List.size_toArray]; exact SZY.out)
            have HZY := Lib.hid (show ZS.size = x.cells.toArray.size by rw [hzsS, List.size_toArray, Sel.len'])
            have HONEY := Lib.hid (show x.cells.toArray.all (·.oneCell') = true from all_oneCell_toArray (Sel.one x))
            have hc33 : ((wr.alloc (.cells ZS 63)).setRow wr.heap.size x.cells.toArray).cell? ⟨wr.heap.size, 33, none⟩ = some (.int .u64 (xs1 : Int)) := by
              rw [World.setRow_alloc_new, hxs1]
              exact (Has.new wr 63 x.cells.toArray).cell_is (by rw [List.getElem?_toArray]; exact (sel_get x.h.1).2)
            have hoz : OrdW K s0 w lo hi ((wr.alloc (.cells ZS 63)).setRow wr.heap.size x.cells.toArray) ga gb TA TB (some ⟨sb, sq, none⟩) on xs Bm o := by
              rw [World.setRow_alloc_new]
              exact HOY.out.below ((Below.refl _ _).alloc (Nat.le_refl _) _)
            have HC33 := Lib.hid hc33
            have HOZ := Lib.hid hoz
            have ES2 := Lib.hid (congrArg (fun (n : Nat) => Value.int .u64 (n : Int)) hs2)
            have HQ1 := Lib.hid hw1
            have HME := Lib.hid (show q + 1 ≤ on from hq2)
            have HMS := Lib.hid (show on - (q + 1) < on - q from Nat.sub_lt_sub_left hq2 (Nat.lt_succ_self q))
            clear hrow hry hsn hs2 hxs1 hgrow hfit hc33 hoz hsb hx
            go_upto_region 21 with (first
              | (refine wpList_load_mid rfl 63 (.tmp 121) rfl sb (sq + q * 34) rfl x.cells _ HRY.out Tryd.underlying63 rfl SZY.out ?_)
              | (refine wpList_store_row rfl 63 (.tmp 13) (.tmp 122) rfl wr.heap.size x.cells.toArray rfl rfl 63 ZS (heap_alloc_new wr _) SZYA.out HZY.out HONEY.out ?_))
            have c33 := HC33.out
            have hoz := HOZ.out
            clear HC33 HOZ HRY
            generalize (wr.alloc (.cells ZS 63)).setRow wr.heap.size x.cells.toArray = W7 at c33 hoz ⊢
            generalize wr.heap.size = G7 at c33 ⊢
            have HOZ := Lib.hid hoz
            clear hoz
            simp only [Act.put]
            go_wp2
            go_roundw
            case rel => exact ⟨q + 1, by first | exact congrArg (Value.int .i64) HQ1.out | rfl, HME.out, ES2.out, HOZ.out⟩
            case measure =>
              show on - (intOf (Value.int .i64 (wrap64 ((q : Int) + 1)))).toNat < _
              rw [HQ1.out]
              exact HMS.out
          · have EQ := Lib.hid (show q = on by omega)
            have hlq : ¬ (q : Int) < (on : Int) := by omega
            have hA := HOY.out.a.keyed
            have hB := HOY.out.b.keyed
            have hperm : partNd K s0 256 TA = partNd K s0 256 TB := by
              refine part_perm K s0 256 TA TB hA (coh_top _) ?_
              rw [ETA.out, ETB.out, EXS.out]
              rw [ETA.out] at hA
              rw [ETB.out, EXS.out] at hB
              exact orders_perm 6 (by decide) os hA hB
            have hsum : sumT TA = sumS (xs.take q) := by
              have h1 := orders_sum 6 (by decide) os on (by rw [← EXS.out, HXL.out]; exact Nat.le_refl _)
              rw [← EXS.out] at h1
              rw [EQ.out, ← h1, ETA.out, ← EXS.out]
              congr 1
              rw [List.take_of_length_le (by rw [HXL.out]; exact Nat.le_refl _)]
            have hns : (partNd K s0 256 TA).s = sumS (xs.take q) := by rw [root_sum HOY.out.a, hsum]
            have hnh : IsHash (partNd K s0 256 TA).h := part_hash K s0 HT.out.len 256 TA
            have hra : ∀ v, OrdW K s0 w lo hi v ga gb TA TB oa on xs Bm o → Calls Tryd.prog 26 #[.pointer (some ⟨ga, 0, none⟩)] v fun e W' => e = .returned (.agg (ndV (partNd K s0 256 TA)).toArray) ∧ OrdW K s0 w lo hi W' ga gb TA TB oa on xs Bm o := fun v h => h.rootA HT.out
            have hrb : ∀ v, OrdW K s0 w lo hi v ga gb TA TB oa on xs Bm o → Calls Tryd.prog 26 #[.pointer (some ⟨gb, 0, none⟩)] v fun e W' => e = .returned (.agg (ndV (partNd K s0 256 TA)).toArray) ∧ OrdW K s0 w lo hi W' ga gb TA TB oa on xs Bm o := fun v h => by rw [hperm]; exact h.rootB HT.out
            obtain ⟨nT, hnT⟩ : ∃ x, x = partNd K s0 256 TA := ⟨_, rfl⟩
            rw [← hnT] at hns hnh hra hrb
            obtain ⟨sn, hsn⟩ : ∃ n, n = sumS (xs.take q) := ⟨_, rfl⟩
            rw [← hsn] at hns ⊢
            obtain ⟨LN, hLN⟩ : ∃ L, L = (ndV nT).toArray := ⟨_, rfl⟩
            rw [← hLN] at hra hrb
            have heq : ∀ W, (Op.equalIn 10000 29 (.agg LN) (.agg LN)).run Tryd.prog W = .ok true W := fun W => by rw [hLN]; exact nd_eq nT hnh W
            have hfd : ∀ W, (Instr.field 29 (.agg LN) 1).run Tryd.prog W = .ok (.int .u64 (sn : Int)) W := fun W => by
              have := nd_sum nT hnh.1 W
              rw [hns] at this
              rw [hLN]; exact this
            have HRA := Lib.hid hra
            have HRB := Lib.hid hrb
            clear hA hB hperm hsum hns hnh hra hrb hnT hsn hLN
            go_wp2_with fail
            refine (HRA.out _ HOY.out).mono ?_
            rintro _ y1 ⟨rfl, hy1⟩
            go_wp2_with fail
            refine (HRB.out _ hy1).mono ?_
            rintro _ y2 ⟨rfl, hy2⟩
            go_wp2_with fail
            refine (HRA.out _ hy2).mono ?_
            rintro _ y3 ⟨rfl, hy3⟩
            have HB3 := Lib.hid hy3.bel
            clear hy1 hy2 hy3
            go_wp2
            go_ret
            exact ⟨rfl, HB3.out⟩
end Go.Proofs.YtcpomddkehhkkaaDoor
