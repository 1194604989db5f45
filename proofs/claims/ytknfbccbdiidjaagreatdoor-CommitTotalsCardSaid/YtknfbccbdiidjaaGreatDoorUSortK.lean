/- Bytes compared: the order of two lists of bytes; bytes.Compare at two rows. -/
import Derived.Test.YtknfbccbdiidjaaGreatDoorWs
import Derived.Test.YtknfbccbdiidjaaGreatDoorUMem
import Derived.Lib.BytesEntry
import Derived.Laws.Externs
import Derived.Shelf.SlSortCmp.WholeK
namespace Go.Proofs.YtknfbccbdiidjaaGreatDoor
set_option linter.unusedVariables false
set_option linter.unusedSimpArgs false
open Go.ChangeShapes Go.WideShapes Go.ChangeAt Go.RowKit

def lexC : List Nat → List Nat → Int
 | [], [] => 0
 | [], _ :: _ => -1
 | _ :: _, [] => 1
 | a :: l, b :: m => if a < b then -1 else if b < a then 1 else lexC l m
theorem lexC_bytes : ∀ (a b : List Nat), (∀ x ∈ a, x < 256) → (∀ x ∈ b, x < 256) → Lib.compareBytes (a.map fun n => n.toUInt8) (b.map fun n => n.toUInt8) = lexC a b
 | [], [], _, _ => rfl
 | [], _ :: _, _, _ => rfl
 | _ :: _, [], _, _ => rfl
 | x :: a, y :: b, ha, hb => by
  have hx := ha x List.mem_cons_self
  have hy := hb y List.mem_cons_self
  have ih := lexC_bytes a b (fun z h => ha z (List.mem_cons_of_mem _ h)) (fun z h => hb z (List.mem_cons_of_mem _ h))
  rw [List.map_cons, List.map_cons]
  unfold Lib.compareBytes lexC
  have e : ∀ p q : Nat, p < 256 → q < 256 → (p.toUInt8 < q.toUInt8 ↔ p < q) := fun p q hp hq => by
   rw [UInt8.lt_iff_toNat_lt]
   simp only [Nat.toUInt8, UInt8.toNat_ofNat']
   omega
  simp only [e x y hx hy, e y x hy hx, ih]
theorem lexC_refl : ∀ a, lexC a a = 0
 | [] => rfl
 | x :: a => by unfold lexC; rw [if_neg (Nat.lt_irrefl x), if_neg (Nat.lt_irrefl x), lexC_refl a]
theorem lexC_swap : ∀ a b, lexC b a = - lexC a b
 | [], [] => rfl
 | [], _ :: _ => rfl
 | _ :: _, [] => rfl
 | x :: a, y :: b => by
  unfold lexC
  by_cases h1 : x < y
  · rw [if_neg (by omega), if_pos h1, if_pos h1]; rfl
  · by_cases h2 : y < x
    · rw [if_pos h2, if_neg h1, if_pos h2]
    · rw [if_neg h2, if_neg h1, if_neg h1, if_neg h2, lexC_swap a b]
theorem lexC_zero : ∀ a b, lexC a b = 0 → a = b
 | [], [], _ => rfl
 | [], _ :: _, h => by cases h
 | _ :: _, [], h => by cases h
 | x :: a, y :: b, h => by
  unfold lexC at h
  by_cases h1 : x < y
  · rw [if_pos h1] at h; cases h
  · by_cases h2 : y < x
    · rw [if_neg h1, if_pos h2] at h; cases h
    · rw [if_neg h1, if_neg h2] at h
      rw [lexC_zero a b h, show x = y by omega]
theorem lexC_trans : ∀ a b c, lexC a b < 0 → lexC b c < 0 → lexC a c < 0
 | [], [], _, h, _ => by simp [lexC] at h
 | [], _ :: _, [], _, h => by simp [lexC] at h
 | [], _ :: _, _ :: _, _, _ => by simp [lexC]
 | _ :: _, [], _, h, _ => by simp [lexC] at h
 | _ :: _, _ :: _, [], _, h => by simp [lexC] at h
 | x :: a, y :: b, z :: c, h1, h2 => by
  unfold lexC at h1 h2 ⊢
  by_cases p1 : x < y
  · by_cases q1 : y < z
    · rw [if_pos (by omega)]; decide
    · by_cases q2 : z < y
      · rw [if_neg q1, if_pos q2] at h2; exact absurd h2 (by decide)
      · rw [if_pos (by omega)]; decide
  · by_cases p2 : y < x
    · rw [if_neg p1, if_pos p2] at h1; exact absurd h1 (by decide)
    · rw [if_neg p1, if_neg p2] at h1
      obtain rfl : x = y := by omega
      by_cases q1 : x < z
      · rw [if_pos q1]; decide
      · by_cases q2 : z < x
        · rw [if_neg q1, if_pos q2] at h2; exact absurd h2 (by decide)
        · rw [if_neg q1, if_neg q2] at h2 ⊢
          exact lexC_trans a b c h1 h2

theorem bytesOf_nat (ks : List Nat) : Lib.bytesOf (ks.map fun (n : Nat) => (n : Int)) = ks.map fun n => n.toUInt8 := by
 simp [Lib.bytesOf, Function.comp_def]
theorem load_bytes {P : Program} (w : World) (b off : Nat) (ks : List Nat) (c : Nat) (hc : ∀ i, i < ks.length → w.cell? ⟨b, off + i, none⟩ = some (.int .u8 ((ks.getD i 0 : Nat) : Int))) :
  (Extern.Bytes.bytesOf (.slice (some ⟨b, off, none⟩) ks.length c)).run P w = .ok ⟨(ks.map fun n => n.toUInt8).toArray⟩ w := by
 have hl := Lib.run_loadBytesX (P := P) w (ks.map fun (n : Nat) => (n : Int)) ⟨b, off, none⟩ .empty (fun j x hj => by
  rw [List.getElem?_map] at hj
  have hjl : j < ks.length := by
   rcases Nat.lt_or_ge j ks.length with h | h
   · exact h
   · rw [List.getElem?_eq_none h] at hj; cases hj
  have e : (⟨b, off, none⟩ : Addr).add j = ⟨b, off + j, none⟩ := by unfold Addr.add; split <;> simp_all
  rw [e, hc j hjl, List.getD_eq_getElem?_getD]
  rw [List.getElem?_eq_getElem hjl] at hj ⊢
  simp only [Option.map_some, Option.some.injEq] at hj
  rw [← hj]; rfl)
 rw [List.length_map, bytesOf_nat] at hl
 show (Extern.Bytes.loadBytes _ _ _).run P w = _
 rw [hl]
 congr 1
 apply ByteArray.ext
 simp
theorem compare_run {P : Program} (w : World) (b1 o1 c1 b2 o2 c2 : Nat) (k1 k2 : List Nat) (h1 : ∀ i, i < k1.length → w.cell? ⟨b1, o1 + i, none⟩ = some (.int .u8 ((k1.getD i 0 : Nat) : Int)))
  (h2 : ∀ i, i < k2.length → w.cell? ⟨b2, o2 + i, none⟩ = some (.int .u8 ((k2.getD i 0 : Nat) : Int))) (l1 : ∀ x ∈ k1, x < 256) (l2 : ∀ x ∈ k2, x < 256) :
  (Extern.BytealgCompare.compare #[.slice (some ⟨b1, o1, none⟩) k1.length c1, .slice (some ⟨b2, o2, none⟩) k2.length c2]).run P w = .ok (.int .i64 (lexC k1 k2)) w := by
 change Sem.run P (do pure (goInt (Extern.BytealgCompare.cmp (← Extern.Bytes.bytesOf (.slice (some ⟨b1, o1, none⟩) k1.length c1)) (← Extern.Bytes.bytesOf (.slice (some ⟨b2, o2, none⟩) k2.length c2))))) w = _
 simp only [Sem.run_bind, load_bytes w b1 o1 k1 c1 h1, load_bytes w b2 o2 k2 c2 h2, Result.andThen, Sem.run_pure]
 rw [Lib.cmp_eq]
 show Result.ok (goInt (Lib.compareBytes _ _)) w = _
 rw [lexC_bytes k1 k2 l1 l2]
 rfl
theorem bytesCompare_is (w : World) (b1 o1 c1 b2 o2 c2 n1 n2 : Nat) (k1 k2 : List Nat) (e1 : k1.length = n1) (e2 : k2.length = n2) (h1 : ∀ i, i < n1 → w.cell? ⟨b1, o1 + i, none⟩ = some (.int .u8 ((k1.getD i 0 : Nat) : Int)))
  (h2 : ∀ i, i < n2 → w.cell? ⟨b2, o2 + i, none⟩ = some (.int .u8 ((k2.getD i 0 : Nat) : Int))) (l1 : ∀ x ∈ k1, x < 256) (l2 : ∀ x ∈ k2, x < 256) :
  Calls Tryz.prog 31 #[.slice (some ⟨b1, o1, none⟩) n1 c1, .slice (some ⟨b2, o2, none⟩) n2 c2] w fun e w' => e = .returned (.int .i64 (lexC k1 k2)) ∧ w = w' := by
 have hrun : (callFunc 65 #[.slice (some ⟨b1, o1, none⟩) n1 c1, .slice (some ⟨b2, o2, none⟩) n2 c2]).run Tryz.prog w = .ok (.value (.int .i64 (lexC k1 k2))) w := by
  rw [run_callFunc_extern Tryz.func65 (by kernel_rfl) (by kernel_rfl) (by kernel_rfl) (e := Extern.BytealgCompare.compare) (by kernel_rfl)]
  subst e1 e2
  rw [compare_run w b1 o1 c1 b2 o2 c2 k1 k2 h1 h2 l1 l2]
  rfl
 obtain ⟨r, hr⟩ : ∃ r, r = lexC k1 k2 := ⟨_, rfl⟩
 rw [← hr] at hrun ⊢
 have HRUN := Lib.hid hrun
 clear hrun h1 h2 e1 e2 l1 l2 hr
 go_enter Tryz.func31, Tryz.ntmps31
 go_wp2_with (simp only [HRUN.out])
 go_ret
 exact ⟨rfl, rfl⟩
end Go.Proofs.YtknfbccbdiidjaaGreatDoor

/- A row of elements of k cells that is sorted by the library: what is asked, what comes of it, in the words for rows that are owned. -/
namespace Go.Proofs.YtknfbccbdiidjaaGreatDoor
set_option linter.unusedVariables false
set_option linter.unusedSimpArgs false
set_option linter.unusedSectionVars false
open Go.ChangeShapes Go.WideShapes Go.ChangeAt Go.RowKit Go.Sort

section
variable {α : Type} [Inhabited α] (enc : α → List Value) (k : Nat) (hk : ∀ x, (enc x).length = k) (hk0 : 0 < k)
include hk in
theorem flat_lenK (xs : List α) : (xs.flatMap enc).length = xs.length * k := by
 induction xs with
 | nil => simp
 | cons x xs ih => rw [List.flatMap_cons, List.length_append, hk, ih, List.length_cons, Nat.succ_mul, Nat.add_comm]
include hk in
theorem flat_getK (xs : List α) (i j : Nat) (x : α) (hi : xs[i]? = some x) (hj : j < k) : (xs.flatMap enc)[i * k + j]? = (enc x)[j]? := by
 induction xs generalizing i with
 | nil => simp at hi
 | cons p xs ih =>
  rw [List.flatMap_cons]
  cases i with
  | zero =>
   simp at hi; subst hi
   rw [Nat.zero_mul, Nat.zero_add, List.getElem?_append_left (by rw [hk]; exact hj)]
  | succ i =>
   rw [List.getElem?_cons_succ] at hi
   rw [List.getElem?_append_right (by rw [hk, Nat.succ_mul]; omega), hk, show (i + 1) * k + j - k = i * k + j by rw [Nat.succ_mul]; omega]
   exact ih i hi
include hk hk0 in
theorem flatK_list (xs : List α) : (flatK enc k xs.toArray).toList = xs.flatMap enc := by
 apply List.ext_getElem?
 intro t
 have hl := flat_lenK enc k hk xs
 by_cases ht : t < xs.length * k
 · have hd : t / k < xs.length := Nat.div_lt_of_lt_mul (by rw [Nat.mul_comm]; exact ht)
   have hm : t % k < k := Nat.mod_lt _ hk0
   have e : t = (t / k) * k + t % k := by rw [Nat.mul_comm]; exact (Nat.div_add_mod t k).symm
   have h1 := get_flatK enc k xs.toArray t (by simpa using ht)
   have h2 : (xs.flatMap enc)[t]? = (enc xs[t / k])[t % k]? := by
    have h5 := flat_getK enc k hk xs (t / k) (t % k) xs[t / k] (List.getElem?_eq_getElem hd) hm
    rw [← e] at h5
    exact h5
   have hsz : t < (flatK enc k xs.toArray).size := by simpa using ht
   rw [getElem!_pos _ t hsz] at h1
   rw [h2, Array.getElem?_toList, Array.getElem?_eq_getElem hsz, h1]
   have h3 : xs.toArray[t / k]! = xs[t / k] := by
    rw [getElem!_pos xs.toArray (t / k) (by simpa using hd)]
    simp
   rw [h3, List.getElem?_eq_getElem (by rw [hk]; exact hm), getElem!_pos (enc xs[t / k]) (t % k) (by rw [hk]; exact hm)]
 · rw [List.getElem?_eq_none (by simp; omega), List.getElem?_eq_none (by omega)]

variable {w : World} {g n cap : Nat} {cur : Array Value} {T : TypeId} {xs ys : List α} {os : Array Obj} {m : Nat}
include hk hk0 in
theorem holdsK_of (hb : Has w g T cur) (ht : cur.toList.take (xs.length * k) = xs.flatMap enc) : HoldsK enc k w g 0 xs.toArray := by
 intro j hj
 have hj' : j < xs.length * k := by simpa using hj
 refine ⟨?_, hb.free _⟩
 rw [hb.cell, Nat.zero_add, ← Array.getElem?_toList]
 have h1 : (cur.toList.take (xs.length * k))[j]? = (xs.flatMap enc)[j]? := by rw [ht]
 rw [List.getElem?_take_of_lt hj'] at h1
 rw [h1, ← flatK_list enc k hk hk0 xs, Array.getElem?_toList, Array.getElem?_eq_getElem hj]
 show some _ = some (id _)
 rw [getElem!_pos _ j hj]
 rfl
theorem heap_sortK (hb : Has w g T cur) (d : Array α) : Has (sortWorldK enc k w g 0 m d os) g T (putCells id 0 (flatK enc k d) cur) := by
 have hlt := hb.lt
 have h' : w.heap[g]? = some (.cells cur T (0, 0)) := hb
 unfold Has sortWorldK putRowK
 rw [heap_grow_old _ _ (by simpa using hlt)]
 simp [putRow, mapBlock, Sort.ahead, Array.getElem?_modify, h', onCells]
theorem kept_sortK (d : Array α) : Kept (· = g) w (sortWorldK enc k w g 0 m d os) := by
 refine ⟨rfl, rfl, rfl, by simp [sortWorldK, putRowK], fun j hj hne => ?_⟩
 unfold sortWorldK putRowK
 rw [heap_grow_old _ _ (by simpa using hj)]
 have : g ≠ j := fun e => hne e.symm
 simp [putRow, mapBlock, Sort.ahead, Array.getElem?_modify, this]
include hk hk0 in
theorem own_sortK (base : Nat) (hbase : base ≤ g) (hb : Has w g T cur) (h1 : n ≤ cap) (h2 : cap ≤ maxLen) (h3 : cur.size = cap * k) (hl : ys.length = n) :
   (sortWorldK enc k w g 0 m ys.toArray os).ownsRow base T k (.slice (some ⟨g, 0, none⟩) n cap) n (ys.flatMap enc) := by
 refine ⟨by rw [flat_lenK enc k hk, hl], .inr ⟨g, cap, _, rfl, hbase, heap_sortK enc k hb ys.toArray, h1, h2, by simp [putCells, h3], ?_⟩⟩
 have hle : n * k ≤ cur.size := by rw [h3]; exact Nat.mul_le_mul_right k h1
 have hf := flatK_list enc k hk hk0 ys
 have hfs : (flatK enc k ys.toArray).size = n * k := by simp [hl]
 rw [← hf]
 generalize flatK enc k ys.toArray = F at hfs
 apply List.ext_getElem?
 intro j
 by_cases hj : j < n * k
 · rw [List.getElem?_take_of_lt hj, Array.getElem?_toList, Array.getElem?_toList]
   simp [putCells, hj, hfs, Array.getElem?_eq_getElem, show j < cur.size by omega]
 · rw [List.getElem?_eq_none (by simp; omega), List.getElem?_eq_none (by simp; omega)]
end
end Go.Proofs.YtknfbccbdiidjaaGreatDoor

