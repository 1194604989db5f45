/- Bytes compared: the order of two lists of bytes; bytes.Compare at two rows. -/
import Derived.Test.YtknfbccbdiidjaaGreatDoorWs
import Derived.Test.YtknfbccbdiidjaaGreatDoorRMem
import Derived.Lib.BytesEntry
import Derived.Laws.Externs
import Derived.Shelf.SlSortCmp.WholeK
import Derived.Test.YtknfbccbdiidjaaGreatDoorRSha7
namespace Go.Proofs.YtknfbccbdiidjaaGreatDoor
set_option linter.unusedVariables false
set_option linter.unusedSimpArgs false
open Go.ChangeShapes Go.WideShapes Go.ChangeAt Go.RowKit

def lexC : List Nat → List Nat → Int
 | [], [] => 0
 | [], _ :: _ => -1
 | _ :: _, [] => 1
 | a :: l, b :: m => if a < b then -1 else if b < a then 1 else lexC l m
theorem lexC_bytes : ∀ (a b : List Nat), (∀ x ∈ a, x < 256) → (∀ x ∈ b, x < 256) → Lib.compareBytes (a.map fun n => n.toUInt8) (b.map fun n => n.toUInt8) = lexC a b
 | [], [], _, _ => rfl
 | [], _ :: _, _, _ => rfl
 | _ :: _, [], _, _ => rfl
 | x :: a, y :: b, ha, hb => by
  have hx := ha x List.mem_cons_self
  have hy := hb y List.mem_cons_self
  have ih := lexC_bytes a b (fun z h => ha z (List.mem_cons_of_mem _ h)) (fun z h => hb z (List.mem_cons_of_mem _ h))
  rw [List.map_cons, List.map_cons]
  unfold Lib.compareBytes lexC
  have e : ∀ p q : Nat, p < 256 → q < 256 → (p.toUInt8 < q.toUInt8 ↔ p < q) := fun p q hp hq => by
   rw [UInt8.lt_iff_toNat_lt]
   simp only [Nat.toUInt8, UInt8.toNat_ofNat']
   omega
  simp only [e x y hx hy, e y x hy hx, ih]
theorem lexC_refl : ∀ a, lexC a a = 0
 | [] => rfl
 | x :: a => by unfold lexC; rw [if_neg (Nat.lt_irrefl x), if_neg (Nat.lt_irrefl x), lexC_refl a]
theorem lexC_swap : ∀ a b, lexC b a = - lexC a b
 | [], [] => rfl
 | [], _ :: _ => rfl
 | _ :: _, [] => rfl
 | x :: a, y :: b => by
  unfold lexC
  by_cases h1 : x < y
  · rw [if_neg (by omega), if_pos h1, if_pos h1]; rfl
  · by_cases h2 : y < x
    · rw [if_pos h2, if_neg h1, if_pos h2]
    · rw [if_neg h2, if_neg h1, if_neg h1, if_neg h2, lexC_swap a b]
theorem lexC_zero : ∀ a b, lexC a b = 0 → a = b
 | [], [], _ => rfl
 | [], _ :: _, h => by cases h
 | _ :: _, [], h => by cases h
 | x :: a, y :: b, h => by
  unfold lexC at h
  by_cases h1 : x < y
  · rw [if_pos h1] at h; cases h
  · by_cases h2 : y < x
    · rw [if_neg h1, if_pos h2] at h; cases h
    · rw [if_neg h1, if_neg h2] at h
      rw [lexC_zero a b h, show x = y by omega]
theorem lexC_trans : ∀ a b c, lexC a b < 0 → lexC b c < 0 → lexC a c < 0
 | [], [], _, h, _ => by simp [lexC] at h
 | [], _ :: _, [], _, h => by simp [lexC] at h
 | [], _ :: _, _ :: _, _, _ => by simp [lexC]
 | _ :: _, [], _, h, _ => by simp [lexC] at h
 | _ :: _, _ :: _, [], _, h => by simp [lexC] at h
 | x :: a, y :: b, z :: c, h1, h2 => by
  unfold lexC at h1 h2 ⊢
  by_cases p1 : x < y
  · by_cases q1 : y < z
    · rw [if_pos (by omega)]; decide
    · by_cases q2 : z < y
      · rw [if_neg q1, if_pos q2] at h2; exact absurd h2 (by decide)
      · rw [if_pos (by omega)]; decide
  · by_cases p2 : y < x
    · rw [if_neg p1, if_pos p2] at h1; exact absurd h1 (by decide)
    · rw [if_neg p1, if_neg p2] at h1
      obtain rfl : x = y := by omega
      by_cases q1 : x < z
      · rw [if_pos q1]; decide
      · by_cases q2 : z < x
        · rw [if_neg q1, if_pos q2] at h2; exact absurd h2 (by decide)
        · rw [if_neg q1, if_neg q2] at h2 ⊢
          exact lexC_trans a b c h1 h2

theorem bytesOf_nat (ks : List Nat) : Lib.bytesOf (ks.map fun (n : Nat) => (n : Int)) = ks.map fun n => n.toUInt8 := by
 simp [Lib.bytesOf, Function.comp_def]
theorem load_bytes {P : Program} (w : World) (b off : Nat) (ks : List Nat) (c : Nat) (hc : ∀ i, i < ks.length → w.cell? ⟨b, off + i, none⟩ = some (.int .u8 ((ks.getD i 0 : Nat) : Int))) :
  (Extern.Bytes.bytesOf (.slice (some ⟨b, off, none⟩) ks.length c)).run P w = .ok ⟨(ks.map fun n => n.toUInt8).toArray⟩ w := by
 have hl := Lib.run_loadBytesX (P := P) w (ks.map fun (n : Nat) => (n : Int)) ⟨b, off, none⟩ .empty (fun j x hj => by
  rw [List.getElem?_map] at hj
  have hjl : j < ks.length := by
   rcases Nat.lt_or_ge j ks.length with h | h
   · exact h
   · rw [List.getElem?_eq_none h] at hj; cases hj
  have e : (⟨b, off, none⟩ : Addr).add j = ⟨b, off + j, none⟩ := by unfold Addr.add; split <;> simp_all
  rw [e, hc j hjl, List.getD_eq_getElem?_getD]
  rw [List.getElem?_eq_getElem hjl] at hj ⊢
  simp only [Option.map_some, Option.some.injEq] at hj
  rw [← hj]; rfl)
 rw [List.length_map, bytesOf_nat] at hl
 show (Extern.Bytes.loadBytes _ _ _).run P w = _
 rw [hl]
 congr 1
 apply ByteArray.ext
 simp
theorem compare_run {P : Program} (w : World) (b1 o1 c1 b2 o2 c2 : Nat) (k1 k2 : List Nat) (h1 : ∀ i, i < k1.length → w.cell? ⟨b1, o1 + i, none⟩ = some (.int .u8 ((k1.getD i 0 : Nat) : Int)))
  (h2 : ∀ i, i < k2.length → w.cell? ⟨b2, o2 + i, none⟩ = some (.int .u8 ((k2.getD i 0 : Nat) : Int))) (l1 : ∀ x ∈ k1, x < 256) (l2 : ∀ x ∈ k2, x < 256) :
  (Extern.BytealgCompare.compare #[.slice (some ⟨b1, o1, none⟩) k1.length c1, .slice (some ⟨b2, o2, none⟩) k2.length c2]).run P w = .ok (.int .i64 (lexC k1 k2)) w := by
 change Sem.run P (do pure (goInt (Extern.BytealgCompare.cmp (← Extern.Bytes.bytesOf (.slice (some ⟨b1, o1, none⟩) k1.length c1)) (← Extern.Bytes.bytesOf (.slice (some ⟨b2, o2, none⟩) k2.length c2))))) w = _
 simp only [Sem.run_bind, load_bytes w b1 o1 k1 c1 h1, load_bytes w b2 o2 k2 c2 h2, Result.andThen, Sem.run_pure]
 rw [Lib.cmp_eq]
 show Result.ok (goInt (Lib.compareBytes _ _)) w = _
 rw [lexC_bytes k1 k2 l1 l2]
 rfl
theorem bytesCompare_is (w : World) (b1 o1 c1 b2 o2 c2 n1 n2 : Nat) (k1 k2 : List Nat) (e1 : k1.length = n1) (e2 : k2.length = n2) (h1 : ∀ i, i < n1 → w.cell? ⟨b1, o1 + i, none⟩ = some (.int .u8 ((k1.getD i 0 : Nat) : Int)))
  (h2 : ∀ i, i < n2 → w.cell? ⟨b2, o2 + i, none⟩ = some (.int .u8 ((k2.getD i 0 : Nat) : Int))) (l1 : ∀ x ∈ k1, x < 256) (l2 : ∀ x ∈ k2, x < 256) :
  Calls Tryz.prog 31 #[.slice (some ⟨b1, o1, none⟩) n1 c1, .slice (some ⟨b2, o2, none⟩) n2 c2] w fun e w' => e = .returned (.int .i64 (lexC k1 k2)) ∧ w = w' := by
 have hrun : (callFunc 65 #[.slice (some ⟨b1, o1, none⟩) n1 c1, .slice (some ⟨b2, o2, none⟩) n2 c2]).run Tryz.prog w = .ok (.value (.int .i64 (lexC k1 k2))) w := by
  rw [run_callFunc_extern Tryz.func65 (by kernel_rfl) (by kernel_rfl) (by kernel_rfl) (e := Extern.BytealgCompare.compare) (by kernel_rfl)]
  subst e1 e2
  rw [compare_run w b1 o1 c1 b2 o2 c2 k1 k2 h1 h2 l1 l2]
  rfl
 obtain ⟨r, hr⟩ : ∃ r, r = lexC k1 k2 := ⟨_, rfl⟩
 rw [← hr] at hrun ⊢
 have HRUN := Lib.hid hrun
 clear hrun h1 h2 e1 e2 l1 l2 hr
 go_enter Tryz.func31, Tryz.ntmps31
 go_wp2_with (simp only [HRUN.out])
 go_ret
 exact ⟨rfl, rfl⟩
end Go.Proofs.YtknfbccbdiidjaaGreatDoor

/- A row of elements of k cells that is sorted by the library: what is asked, what comes of it, in the words for rows that are owned. -/
namespace Go.Proofs.YtknfbccbdiidjaaGreatDoor
set_option linter.unusedVariables false
set_option linter.unusedSimpArgs false
set_option linter.unusedSectionVars false
open Go.ChangeShapes Go.WideShapes Go.ChangeAt Go.RowKit Go.Sort

section
variable {α : Type} [Inhabited α] (enc : α → List Value) (k : Nat) (hk : ∀ x, (enc x).length = k) (hk0 : 0 < k)
include hk in
theorem flat_lenK (xs : List α) : (xs.flatMap enc).length = xs.length * k := by
 induction xs with
 | nil => simp
 | cons x xs ih => rw [List.flatMap_cons, List.length_append, hk, ih, List.length_cons, Nat.succ_mul, Nat.add_comm]
include hk in
theorem flat_getK (xs : List α) (i j : Nat) (x : α) (hi : xs[i]? = some x) (hj : j < k) : (xs.flatMap enc)[i * k + j]? = (enc x)[j]? := by
 induction xs generalizing i with
 | nil => simp at hi
 | cons p xs ih =>
  rw [List.flatMap_cons]
  cases i with
  | zero =>
   simp at hi; subst hi
   rw [Nat.zero_mul, Nat.zero_add, List.getElem?_append_left (by rw [hk]; exact hj)]
  | succ i =>
   rw [List.getElem?_cons_succ] at hi
   rw [List.getElem?_append_right (by rw [hk, Nat.succ_mul]; omega), hk, show (i + 1) * k + j - k = i * k + j by rw [Nat.succ_mul]; omega]
   exact ih i hi
include hk hk0 in
theorem flatK_list (xs : List α) : (flatK enc k xs.toArray).toList = xs.flatMap enc := by
 apply List.ext_getElem?
 intro t
 have hl := flat_lenK enc k hk xs
 by_cases ht : t < xs.length * k
 · have hd : t / k < xs.length := Nat.div_lt_of_lt_mul (by rw [Nat.mul_comm]; exact ht)
   have hm : t % k < k := Nat.mod_lt _ hk0
   have e : t = (t / k) * k + t % k := by rw [Nat.mul_comm]; exact (Nat.div_add_mod t k).symm
   have h1 := get_flatK enc k xs.toArray t (by simpa using ht)
   have h2 : (xs.flatMap enc)[t]? = (enc xs[t / k])[t % k]? := by
    have h5 := flat_getK enc k hk xs (t / k) (t % k) xs[t / k] (List.getElem?_eq_getElem hd) hm
    rw [← e] at h5
    exact h5
   have hsz : t < (flatK enc k xs.toArray).size := by simpa using ht
   rw [getElem!_pos _ t hsz] at h1
   rw [h2, Array.getElem?_toList, Array.getElem?_eq_getElem hsz, h1]
   have h3 : xs.toArray[t / k]! = xs[t / k] := by
    rw [getElem!_pos xs.toArray (t / k) (by simpa using hd)]
    simp
   rw [h3, List.getElem?_eq_getElem (by rw [hk]; exact hm), getElem!_pos (enc xs[t / k]) (t % k) (by rw [hk]; exact hm)]
 · rw [List.getElem?_eq_none (by simp; omega), List.getElem?_eq_none (by omega)]

variable {w : World} {g n cap : Nat} {cur : Array Value} {T : TypeId} {xs ys : List α} {os : Array Obj} {m : Nat}
include hk hk0 in
theorem holdsK_of (hb : Has w g T cur) (ht : cur.toList.take (xs.length * k) = xs.flatMap enc) : HoldsK enc k w g 0 xs.toArray := by
 intro j hj
 have hj' : j < xs.length * k := by simpa using hj
 refine ⟨?_, hb.free _⟩
 rw [hb.cell, Nat.zero_add, ← Array.getElem?_toList]
 have h1 : (cur.toList.take (xs.length * k))[j]? = (xs.flatMap enc)[j]? := by rw [ht]
 rw [List.getElem?_take_of_lt hj'] at h1
 rw [h1, ← flatK_list enc k hk hk0 xs, Array.getElem?_toList, Array.getElem?_eq_getElem hj]
 show some _ = some (id _)
 rw [getElem!_pos _ j hj]
 rfl
theorem heap_sortK (hb : Has w g T cur) (d : Array α) : Has (sortWorldK enc k w g 0 m d os) g T (putCells id 0 (flatK enc k d) cur) := by
 have hlt := hb.lt
 have h' : w.heap[g]? = some (.cells cur T (0, 0)) := hb
 unfold Has sortWorldK putRowK
 rw [heap_grow_old _ _ (by simpa using hlt)]
 simp [putRow, mapBlock, Sort.ahead, Array.getElem?_modify, h', onCells]
theorem kept_sortK (d : Array α) : Kept (· = g) w (sortWorldK enc k w g 0 m d os) := by
 refine ⟨rfl, rfl, rfl, by simp [sortWorldK, putRowK], fun j hj hne => ?_⟩
 unfold sortWorldK putRowK
 rw [heap_grow_old _ _ (by simpa using hj)]
 have : g ≠ j := fun e => hne e.symm
 simp [putRow, mapBlock, Sort.ahead, Array.getElem?_modify, this]
include hk hk0 in
theorem own_sortK (base : Nat) (hbase : base ≤ g) (hb : Has w g T cur) (h1 : n ≤ cap) (h2 : cap ≤ maxLen) (h3 : cur.size = cap * k) (hl : ys.length = n) :
   (sortWorldK enc k w g 0 m ys.toArray os).ownsRow base T k (.slice (some ⟨g, 0, none⟩) n cap) n (ys.flatMap enc) := by
 refine ⟨by rw [flat_lenK enc k hk, hl], .inr ⟨g, cap, _, rfl, hbase, heap_sortK enc k hb ys.toArray, h1, h2, by simp [putCells, h3], ?_⟩⟩
 have hle : n * k ≤ cur.size := by rw [h3]; exact Nat.mul_le_mul_right k h1
 have hf := flatK_list enc k hk hk0 ys
 have hfs : (flatK enc k ys.toArray).size = n * k := by simp [hl]
 rw [← hf]
 generalize flatK enc k ys.toArray = F at hfs
 apply List.ext_getElem?
 intro j
 by_cases hj : j < n * k
 · rw [List.getElem?_take_of_lt hj, Array.getElem?_toList, Array.getElem?_toList]
   simp [putCells, hj, hfs, Array.getElem?_eq_getElem, show j < cur.size by omega]
 · rw [List.getElem?_eq_none (by simp; omega), List.getElem?_eq_none (by simp; omega)]
end
end Go.Proofs.YtknfbccbdiidjaaGreatDoor
/- Trees of amounts at keys: what stands for a part of a tree, in plain lists. -/
namespace Go.Proofs.YtknfbccbdiidjaaGreatDoor
set_option linter.unusedVariables false
set_option linter.unusedSimpArgs false
open Go.ChangeShapes Go.WideShapes Go.ChangeAt Go.RowKit

structure Nd where
 h : List Nat
 s : Nat
def leafNd (K s0 : List Wd) (v : List Nat) (s : Nat) : Nd := ⟨digest K s0 (v ++ eight s), s⟩
def brNd (K s0 : List Wd) (a b : Nd) : Nd := ⟨digest K s0 (a.h ++ eight a.s ++ (b.h ++ eight b.s)), a.s + b.s⟩
def emptyNd (K s0 : List Wd) : Nat → Nd
 | 0 => leafNd K s0 [] 0
 | h + 1 => brNd K s0 (emptyNd K s0 h) (emptyNd K s0 h)
structure Lf where
 k : List Nat
 v : List Nat
 s : Nat
def sumT (T : List Lf) : Nat := (T.map (·.s)).sum
def side (T : List Lf) (h b : Nat) : List Lf := T.filter fun t => bitAt t.k h = b
def partNd (K s0 : List Wd) : Nat → List Lf → Nd
 | 0, [] => leafNd K s0 [] 0
 | 0, t :: _ => leafNd K s0 t.v t.s
 | h + 1, T => brNd K s0 (partNd K s0 h (side T h 0)) (partNd K s0 h (side T h 1))
theorem part_nil (K s0 : List Wd) (h : Nat) : partNd K s0 h [] = emptyNd K s0 h := by
 induction h with
 | zero => rfl
 | succ h ih => show brNd K s0 (partNd K s0 h []) (partNd K s0 h []) = _; rw [ih]; rfl
theorem empty_sum (K s0 : List Wd) (h : Nat) : (emptyNd K s0 h).s = 0 := by
 induction h with
 | zero => rfl
 | succ h ih => show (emptyNd K s0 h).s + (emptyNd K s0 h).s = 0; omega
theorem leaf_hash (K s0 : List Wd) (hl : s0.length = 8) (v : List Nat) (s : Nat) : IsHash (leafNd K s0 v s).h := digest_hash K s0 hl _
theorem br_hash (K s0 : List Wd) (hl : s0.length = 8) (a b : Nd) : IsHash (brNd K s0 a b).h := digest_hash K s0 hl _
theorem empty_hash (K s0 : List Wd) (hl : s0.length = 8) (h : Nat) : IsHash (emptyNd K s0 h).h := by
 cases h with
 | zero => exact leaf_hash K s0 hl _ _
 | succ h => exact br_hash K s0 hl _ _
theorem part_hash (K s0 : List Wd) (hl : s0.length = 8) (h : Nat) (T : List Lf) : IsHash (partNd K s0 h T).h := by
 cases h with
 | zero => cases T with
  | nil => exact leaf_hash K s0 hl _ _
  | cons t T => exact leaf_hash K s0 hl _ _
 | succ h => exact br_hash K s0 hl _ _
theorem side_two (T : List Lf) (h : Nat) : sumT (side T h 0) + sumT (side T h 1) = sumT T := by
 induction T with
 | nil => rfl
 | cons t T ih =>
  have hb := bitAt_lt t.k h
  unfold side at ih ⊢
  rcases Nat.lt_or_ge (bitAt t.k h) 1 with e | e
  · have e0 : bitAt t.k h = 0 := by omega
    rw [List.filter_cons_of_pos (by simp [e0]), List.filter_cons_of_neg (by simp [e0])]
    unfold sumT at ih ⊢
    simp only [List.map_cons, List.sum_cons]
    omega
  · have e1 : bitAt t.k h = 1 := by omega
    rw [List.filter_cons_of_neg (by simp [e1]), List.filter_cons_of_pos (by simp [e1])]
    unfold sumT at ih ⊢
    simp only [List.map_cons, List.sum_cons]
    omega
theorem side_le (T : List Lf) (h b : Nat) : sumT (side T h b) ≤ sumT T := by
 unfold side
 induction T with
 | nil => exact Nat.le_refl _
 | cons t T ih =>
  by_cases e : bitAt t.k h = b
  · rw [List.filter_cons_of_pos (by simp [e])]
    unfold sumT at ih ⊢
    simp only [List.map_cons, List.sum_cons]; omega
  · rw [List.filter_cons_of_neg (by simp [e])]
    unfold sumT at ih ⊢
    simp only [List.map_cons, List.sum_cons]; omega

theorem byte_ext {x y : Nat} (hx : x < 256) (hy : y < 256) (h : ∀ j, j < 8 → x / 2 ^ j % 2 = y / 2 ^ j % 2) : x = y := by
 have h0 := h 0 (by decide)
 have h1 := h 1 (by decide)
 have h2 := h 2 (by decide)
 have h3 := h 3 (by decide)
 have h4 := h 4 (by decide)
 have h5 := h 5 (by decide)
 have h6 := h 6 (by decide)
 have h7 := h 7 (by decide)
 simp only [Nat.reducePow] at h0 h1 h2 h3 h4 h5 h6 h7
 omega
theorem byte_above {x y r : Nat} (hx : x < 256) (hy : y < 256) (hr : r < 8) (h : ∀ j, r < j → j < 8 → x / 2 ^ j % 2 = y / 2 ^ j % 2) (h1 : x / 2 ^ r % 2 = 1) (h0 : y / 2 ^ r % 2 = 0) : y < x := by
 have g : ∀ j, j < 8 → (r < j → x / 2 ^ j % 2 = y / 2 ^ j % 2) := fun j hj hr => h j hr hj
 have g1 := g 1 (by decide)
 have g2 := g 2 (by decide)
 have g3 := g 3 (by decide)
 have g4 := g 4 (by decide)
 have g5 := g 5 (by decide)
 have g6 := g 6 (by decide)
 have g7 := g 7 (by decide)
 clear g h
 rcases (by omega : r = 0 ∨ r = 1 ∨ r = 2 ∨ r = 3 ∨ r = 4 ∨ r = 5 ∨ r = 6 ∨ r = 7) with rfl | rfl | rfl | rfl | rfl | rfl | rfl | rfl
 all_goals
  simp only [Nat.reducePow] at h0 h1 g1 g2 g3 g4 g5 g6 g7
  omega
theorem byte_of (k : List Nat) (q r : Nat) (hq : q < 32) (hr : r < 8) : k.getD q 0 / 2 ^ r % 2 = bitAt k (8 * (31 - q) + r) := by
 unfold bitAt
 rw [show 31 - (8 * (31 - q) + r) / 8 = q by omega, show (8 * (31 - q) + r) % 8 = r by omega]
theorem IsHash.byte {k : List Nat} (h : IsHash k) (i : Nat) (hi : i < 32) : k.getD i 0 < 256 := by
 rw [List.getD_eq_getElem?_getD, List.getElem?_eq_getElem (by rw [h.1]; exact hi)]
 exact h.2 _ (List.getElem_mem _)
theorem hash_ext {a b : List Nat} (ha : IsHash a) (hb : IsHash b) (h : ∀ i, i < 32 → a.getD i 0 = b.getD i 0) : a = b := by
 apply List.ext_getElem
 · rw [ha.1, hb.1]
 · intro i h1 h2
   have := h i (by rw [ha.1] at h1; exact h1)
   rwa [List.getD_eq_getElem?_getD, List.getD_eq_getElem?_getD, List.getElem?_eq_getElem h1, List.getElem?_eq_getElem h2] at this
theorem key_ext {a b : List Nat} (ha : IsHash a) (hb : IsHash b) (h : ∀ j, j < 256 → bitAt a j = bitAt b j) : a = b :=
 hash_ext ha hb fun i hi => byte_ext (ha.byte i hi) (hb.byte i hi) fun j hj => by
  rw [byte_of a i j hi hj, byte_of b i j hi hj]; exact h _ (by omega)
theorem lex_at (q : Nat) : ∀ (a b : List Nat), q < a.length → a.length = b.length → (∀ i, i < q → a.getD i 0 = b.getD i 0) → b.getD q 0 < a.getD q 0 → lexC b a < 0 := by
 induction q with
 | zero =>
  intro a b hq hl _ h
  match a, b, hl with
  | x :: a, y :: b, _ =>
   have h' : y < x := h
   unfold lexC
   rw [if_pos h']
   decide
  | [], _, _ => exact absurd hq (by simp)
 | succ q ih =>
  intro a b hq hl he h
  match a, b, hl with
  | x :: a, y :: b, hl =>
   have e : x = y := he 0 (by omega)
   subst e
   unfold lexC
   rw [if_neg (by omega), if_neg (by omega)]
   exact ih a b (by simpa using hq) (by simpa using hl) (fun i hi => he (i + 1) (by omega)) h
  | [], _, _ => exact absurd hq (by simp)
theorem lex_bit {a b : List Nat} (ha : IsHash a) (hb : IsHash b) (h : Nat) (hh : h < 256) (hab : ∀ j, h < j → j < 256 → bitAt a j = bitAt b j) (hl : lexC a b < 0) : bitAt a h ≤ bitAt b h := by
 refine Nat.le_of_not_lt fun hc => ?_
 have h1 := bitAt_lt a h
 have h2 := bitAt_lt b h
 have e1 : bitAt a h = 1 := by omega
 have e0 : bitAt b h = 0 := by omega
 have hq : 31 - h / 8 < 32 := by omega
 have ea : ∀ i, i < 31 - h / 8 → a.getD i 0 = b.getD i 0 := fun i hi => by
  refine byte_ext (ha.byte i (by omega)) (hb.byte i (by omega)) fun j hj => ?_
  rw [byte_of a i j (by omega) hj, byte_of b i j (by omega) hj]
  exact hab _ (by omega) (by omega)
 have eq : b.getD (31 - h / 8) 0 < a.getD (31 - h / 8) 0 := by
  refine byte_above (r := h % 8) (ha.byte _ hq) (hb.byte _ hq) (by omega) (fun j h1 h2 => ?_) ?_ ?_
  · rw [byte_of a _ j hq h2, byte_of b _ j hq h2]
    exact hab _ (by omega) (by omega)
  · rw [byte_of a _ _ hq (by omega), show 8 * (31 - (31 - h / 8)) + h % 8 = h by omega]; exact e1
  · rw [byte_of b _ _ hq (by omega), show 8 * (31 - (31 - h / 8)) + h % 8 = h by omega]; exact e0
 have := lex_at (31 - h / 8) a b (by rw [ha.1]; exact hq) (by rw [ha.1, hb.1]) ea eq
 rw [lexC_swap] at this
 omega

def Coh (ks : List (List Nat)) (h : Nat) : Prop := ∀ a ∈ ks, ∀ b ∈ ks, ∀ j, h ≤ j → j < 256 → bitAt a j = bitAt b j
structure Keyed (ks : List (List Nat)) : Prop where
 hash : ∀ k ∈ ks, IsHash k
 nodup : ks.Nodup
theorem coh_zero {ks : List (List Nat)} (hk : Keyed ks) (hc : Coh ks 0) : ks.length ≤ 1 := by
 match ks, hk, hc with
 | [], _, _ => exact Nat.zero_le _
 | [a], _, _ => exact Nat.le_refl _
 | a :: b :: ks, hk, hc =>
  have e := key_ext (hk.hash a (by simp)) (hk.hash b (by simp)) fun j hj => hc a (by simp) b (by simp) j (Nat.zero_le _) hj
  have := hk.nodup
  rw [e] at this
  simp at this
theorem coh_top (ks : List (List Nat)) : Coh ks 256 := fun a _ b _ j h1 h2 => absurd h2 (by omega)
theorem Coh.side {T : List Lf} {h b : Nat} (hc : Coh (T.map (·.k)) (h + 1)) : Coh ((side T h b).map (·.k)) h := fun x hx y hy j h1 h2 => by
 obtain ⟨s, hs, rfl⟩ := List.mem_map.1 hx
 obtain ⟨t, ht, rfl⟩ := List.mem_map.1 hy
 obtain ⟨hs1, hs2⟩ := List.mem_filter.1 hs
 obtain ⟨ht1, ht2⟩ := List.mem_filter.1 ht
 simp only [decide_eq_true_eq] at hs2 ht2
 rcases Nat.lt_or_ge h j with e | e
 · exact hc _ (List.mem_map.2 ⟨s, hs1, rfl⟩) _ (List.mem_map.2 ⟨t, ht1, rfl⟩) j e h2
 · obtain rfl : j = h := by omega
   rw [hs2, ht2]
theorem Keyed.sub {T : List Lf} (hk : Keyed (T.map (·.k))) (p : Lf → Bool) : Keyed ((T.filter p).map (·.k)) :=
 ⟨fun k h => by
   obtain ⟨t, ht, rfl⟩ := List.mem_map.1 h
   exact hk.hash _ (List.mem_map.2 ⟨t, (List.mem_filter.1 ht).1, rfl⟩),
  (List.Nodup.sublist (List.Sublist.map _ List.filter_sublist) hk.nodup)⟩
theorem part_sum (K s0 : List Wd) : ∀ (h : Nat) (T : List Lf), Keyed (T.map (·.k)) → Coh (T.map (·.k)) h → (partNd K s0 h T).s = sumT T := by
 intro h
 induction h with
 | zero =>
  intro T hk hc
  have := coh_zero hk hc
  match T, this with
  | [], _ => rfl
  | [t], _ => show t.s = sumT [t]; simp [sumT]
  | _ :: _ :: _, h => simp at h
 | succ h ih =>
  intro T hk hc
  show (partNd K s0 h (side T h 0)).s + (partNd K s0 h (side T h 1)).s = sumT T
  rw [ih (side T h 0) (hk.sub _) hc.side, ih (side T h 1) (hk.sub _) hc.side, side_two]
theorem perm_sum {T U : List Lf} (h : T.Perm U) : sumT T = sumT U := by
 unfold sumT
 exact (h.map _).sum_nat
theorem part_perm (K s0 : List Wd) : ∀ (h : Nat) (T U : List Lf), Keyed (T.map (·.k)) → Coh (T.map (·.k)) h → T.Perm U → partNd K s0 h T = partNd K s0 h U := by
 intro h
 induction h with
 | zero =>
  intro T U hk hc hp
  have := coh_zero hk hc
  match T, this, hp with
  | [], _, hp => rw [List.nil_perm.1 hp]
  | [t], _, hp => rw [List.singleton_perm.1 hp]
  | _ :: _ :: _, h, _ => simp at h
 | succ h ih =>
  intro T U hk hc hp
  show brNd K s0 (partNd K s0 h (side T h 0)) (partNd K s0 h (side T h 1)) = brNd K s0 (partNd K s0 h (side U h 0)) (partNd K s0 h (side U h 1))
  rw [ih (side T h 0) (side U h 0) (hk.sub _) hc.side (hp.filter _), ih (side T h 1) (side U h 1) (hk.sub _) hc.side (hp.filter _)]
end Go.Proofs.YtknfbccbdiidjaaGreatDoor

/- Trees of amounts at keys: sorted keys part a list as bits part a tree; what is put and dropped; what stands beside a way. -/
namespace Go.Proofs.YtknfbccbdiidjaaGreatDoor
set_option linter.unusedVariables false
set_option linter.unusedSimpArgs false
open Go.ChangeShapes Go.WideShapes Go.ChangeAt Go.RowKit

def Sorted (ks : List (List Nat)) : Prop := ks.Pairwise fun a b => lexC a b < 0
theorem sorted_mono {ks : List (List Nat)} (hs : Sorted ks) (hk : ∀ k ∈ ks, IsHash k) {h : Nat} (hh : h < 256) (hc : Coh ks (h + 1)) {i j : Nat} {a b : List Nat} (hi : ks[i]? = some a) (hj : ks[j]? = some b) (hij : i < j) : bitAt a h ≤ bitAt b h := by
 have ha := List.mem_of_getElem? hi
 have hb := List.mem_of_getElem? hj
 obtain ⟨hi1, hi2⟩ := List.getElem?_eq_some_iff.1 hi
 obtain ⟨hj1, hj2⟩ := List.getElem?_eq_some_iff.1 hj
 have := List.pairwise_iff_getElem.1 hs i j hi1 hj1 hij
 rw [hi2, hj2] at this
 exact lex_bit (hk a ha) (hk b hb) h hh (fun j h1 h2 => hc a ha b hb j h1 h2) this
theorem split_at {ks : List (List Nat)} {h i : Nat} (h0 : ∀ (j : Nat) k, j < i → ks[j]? = some k → bitAt k h = 0) (h1 : ∀ (j : Nat) k, i ≤ j → ks[j]? = some k → bitAt k h = 1) :
   (ks.filter fun k => bitAt k h = 0) = ks.take i ∧ (ks.filter fun k => bitAt k h = 1) = ks.drop i := by
 have e : ks = ks.take i ++ ks.drop i := (List.take_append_drop i ks).symm
 have a0 : ∀ k ∈ ks.take i, bitAt k h = 0 := fun k hk => by
   obtain ⟨j, hj⟩ := List.getElem?_of_mem hk
   have hlt : j < i := by
    refine Nat.lt_of_not_le fun hc => ?_
    rw [List.getElem?_eq_none (by rw [List.length_take]; omega)] at hj
    cases hj
   rw [List.getElem?_take_of_lt hlt] at hj
   exact h0 j k hlt hj
 have a1 : ∀ k ∈ ks.drop i, bitAt k h = 1 := fun k hk => by
   obtain ⟨j, hj⟩ := List.getElem?_of_mem hk
   rw [List.getElem?_drop] at hj
   exact h1 (i + j) k (by omega) hj
 constructor
 · conv => lhs; rw [e]
   rw [List.filter_append, List.filter_eq_self.2 (fun k hk => by simp [a0 k hk]), List.filter_eq_nil_iff.2 (fun k hk => by simp [a1 k hk]), List.append_nil]
 · conv => lhs; rw [e]
   rw [List.filter_append, List.filter_eq_nil_iff.2 (fun k hk => by simp [a0 k hk]), List.filter_eq_self.2 (fun k hk => by simp [a1 k hk]), List.nil_append]
theorem side_map {L : List Nat → Lf} {ks : List (List Nat)} (hL : ∀ k ∈ ks, (L k).k = k) (h b : Nat) : side (ks.map L) h b = (ks.filter fun k => bitAt k h = b).map L := by
 unfold side
 rw [List.filter_map]
 congr 1
 refine List.filter_congr fun k hk => ?_
 show decide (bitAt (L k).k h = b) = _
 rw [hL k hk]

def findT : List Lf → List Nat → Option Lf
 | [], _ => none
 | t :: T, k => if t.k = k then some t else findT T k
def putT : List Lf → Lf → List Lf
 | [], l => [l]
 | t :: T, l => if t.k = l.k then l :: T else t :: putT T l
def dropT : List Lf → List Nat → List Lf
 | [], _ => []
 | t :: T, k => if t.k = k then T else t :: dropT T k
theorem find_key {T : List Lf} {k : List Nat} {l : Lf} (h : findT T k = some l) : l.k = k ∧ l ∈ T := by
 induction T with
 | nil => cases h
 | cons t T ih =>
  unfold findT at h
  split at h
  · next e => injection h with h; subst h; exact ⟨e, by simp⟩
  · exact ⟨(ih h).1, List.mem_cons_of_mem _ (ih h).2⟩
theorem find_none {T : List Lf} {k : List Nat} (h : findT T k = none) : ∀ t ∈ T, t.k ≠ k := by
 induction T with
 | nil => intro t ht; cases ht
 | cons t T ih =>
  unfold findT at h
  split at h
  · cases h
  · next e =>
    intro u hu
    rcases List.mem_cons.1 hu with rfl | hu
    · exact e
    · exact ih h u hu
theorem find_mem {T : List Lf} (hn : (T.map (·.k)).Nodup) {t : Lf} (ht : t ∈ T) : findT T t.k = some t := by
 induction T with
 | nil => cases ht
 | cons u T ih =>
  rw [List.map_cons, List.nodup_cons] at hn
  unfold findT
  rcases List.mem_cons.1 ht with rfl | ht
  · rw [if_pos rfl]
  · rw [if_neg (fun e => hn.1 (by rw [e]; exact List.mem_map.2 ⟨t, ht, rfl⟩))]
    exact ih hn.2 ht
theorem put_new {T : List Lf} {l : Lf} (h : findT T l.k = none) : putT T l = T ++ [l] := by
 induction T with
 | nil => rfl
 | cons t T ih =>
  unfold findT at h
  split at h
  · cases h
  · next e => unfold putT; rw [if_neg e, ih h]; rfl
theorem put_keys {T : List Lf} {l o : Lf} (h : findT T l.k = some o) : (putT T l).map (·.k) = T.map (·.k) := by
 induction T with
 | nil => cases h
 | cons t T ih =>
  unfold findT at h
  unfold putT
  split at h
  · next e => rw [if_pos e]; simp [e]
  · next e => rw [if_neg e, List.map_cons, List.map_cons, ih h]
theorem put_mem {T : List Lf} {l t : Lf} (h : t ∈ putT T l) : t = l ∨ t ∈ T := by
 induction T with
 | nil => exact .inl (List.mem_singleton.1 h)
 | cons u T ih =>
  unfold putT at h
  split at h
  · rcases List.mem_cons.1 h with h | h
    · exact .inl h
    · exact .inr (List.mem_cons_of_mem _ h)
  · rcases List.mem_cons.1 h with h | h
    · exact .inr (by rw [h]; simp)
    · rcases ih h with h | h
      · exact .inl h
      · exact .inr (List.mem_cons_of_mem _ h)
theorem drop_mem {T : List Lf} {k : List Nat} {t : Lf} (h : t ∈ dropT T k) : t ∈ T := by
 induction T with
 | nil => exact h
 | cons u T ih =>
  unfold dropT at h
  split at h
  · exact List.mem_cons_of_mem _ h
  · rcases List.mem_cons.1 h with h | h
    · rw [h]; simp
    · exact List.mem_cons_of_mem _ (ih h)
theorem Keyed.put {T : List Lf} (hk : Keyed (T.map (·.k))) {l : Lf} (hl : IsHash l.k) : Keyed ((putT T l).map (·.k)) := by
 cases h : findT T l.k with
 | none =>
  rw [put_new h, List.map_append]
  refine ⟨fun k hm => ?_, ?_⟩
  · rcases List.mem_append.1 hm with hm | hm
    · exact hk.hash k hm
    · rw [List.mem_singleton.1 hm]; exact hl
  · refine List.nodup_append.2 ⟨hk.nodup, by simp, fun a ha b hb e => ?_⟩
    rw [List.mem_singleton.1 hb] at e
    obtain ⟨t, ht, he⟩ := List.mem_map.1 ha
    exact find_none h t ht (he.trans e)
 | some o => rw [put_keys h]; exact hk
theorem drop_sub (T : List Lf) (k : List Nat) : (dropT T k).Sublist T := by
 induction T with
 | nil => exact List.Sublist.refl _
 | cons t T ih =>
  unfold dropT
  split
  · exact List.sublist_cons_self t T
  · exact ih.cons_cons t
theorem Keyed.drop {T : List Lf} (hk : Keyed (T.map (·.k))) (k : List Nat) : Keyed ((dropT T k).map (·.k)) :=
 ⟨fun x hx => by
   obtain ⟨t, ht, rfl⟩ := List.mem_map.1 hx
   exact hk.hash _ (List.mem_map.2 ⟨t, drop_mem ht, rfl⟩),
  List.Nodup.sublist ((drop_sub T k).map _) hk.nodup⟩
def wasS (T : List Lf) (k : List Nat) : Nat := match findT T k with | some l => l.s | none => 0
theorem sum_put (T : List Lf) (l : Lf) : sumT (putT T l) + wasS T l.k = sumT T + l.s := by
 induction T with
 | nil => simp [putT, wasS, findT, sumT]
 | cons t T ih =>
  unfold putT wasS findT
  by_cases e : t.k = l.k
  · rw [if_pos e, if_pos e]
    unfold sumT
    simp only [List.map_cons, List.sum_cons]; omega
  · rw [if_neg e, if_neg e]
    unfold wasS at ih
    unfold sumT at ih ⊢
    simp only [List.map_cons, List.sum_cons]; omega
theorem was_le (T : List Lf) (k : List Nat) : wasS T k ≤ sumT T := by
 induction T with
 | nil => exact Nat.le_refl _
 | cons t T ih =>
  unfold wasS findT
  by_cases e : t.k = k
  · rw [if_pos e]
    unfold sumT
    simp only [List.map_cons, List.sum_cons]; omega
  · rw [if_neg e]
    unfold wasS at ih
    unfold sumT at ih ⊢
    simp only [List.map_cons, List.sum_cons]; omega
theorem sum_drop (T : List Lf) (k : List Nat) : sumT (dropT T k) + wasS T k = sumT T := by
 induction T with
 | nil => rfl
 | cons t T ih =>
  unfold dropT wasS findT
  by_cases e : t.k = k
  · rw [if_pos e, if_pos e]
    unfold sumT
    simp only [List.map_cons, List.sum_cons]; omega
  · rw [if_neg e, if_neg e]
    unfold wasS at ih
    unfold sumT at ih ⊢
    simp only [List.map_cons, List.sum_cons]; omega
theorem drop_find {T : List Lf} (hn : (T.map (·.k)).Nodup) (k k' : List Nat) : findT (dropT T k) k' = if k = k' then none else findT T k' := by
 induction T with
 | nil => unfold dropT findT; split <;> rfl
 | cons t T ih =>
  rw [List.map_cons, List.nodup_cons] at hn
  unfold dropT
  by_cases e : t.k = k
  · rw [if_pos e]
    by_cases hk : k = k'
    · rw [if_pos hk]
      cases hf : findT T k' with
      | none => rfl
      | some l =>
       exact absurd (List.mem_map.2 ⟨l, (find_key hf).2, ((find_key hf).1.trans hk.symm).trans e.symm⟩) hn.1
    · rw [if_neg hk]
      conv => rhs; unfold findT
      rw [if_neg (by rw [e]; exact hk)]
  · rw [if_neg e]
    unfold findT
    rw [ih hn.2]
    by_cases hk : k = k'
    · rw [if_neg (by rw [← hk]; exact e), if_pos hk, if_pos hk]
    · rw [if_neg hk, if_neg hk]
theorem put_len (T : List Lf) (l : Lf) : (putT T l).length = if findT T l.k = none then T.length + 1 else T.length := by
 cases h : findT T l.k with
 | none => rw [put_new h, if_pos rfl]; simp
 | some o =>
  have := congrArg List.length (put_keys h)
  rw [List.length_map, List.length_map] at this
  rw [if_neg (by simp), this]
end Go.Proofs.YtknfbccbdiidjaaGreatDoor
