/- BookSlots: the plain law of the thirty slots. -/
import Derived.Test.YtnddejgglbdkmaaBook15
namespace Go.Proofs.Ytnddejgglbdkmaa
open Go.ChangeShapes Go.WideShapes Go.ChangeAt Go.RowKit Go.Maps

/-- a side has x, the other one y. -/
def sl (f : Int) (x y : Nat) (os : List Off) : Bk := if f = 0 then purse 0 0 x y os else purse 0 0 y x os
theorem sl_swap (f : Int) (hf : isSide f) (x y : Nat) (os : List Off) : sl f x y os = sl (1 - f) y x os := by
  rcases hf with rfl | rfl <;> rfl
theorem side_swap {f : Int} (hf : isSide f) : isSide (1 - f) := by rcases hf with rfl | rfl; exact .inr rfl; exact .inl rfl
theorem sl_facts (f : Int) (hf : isSide f) (x y : Nat) (os : List Off) : (sl f x y os).side f = [(Z32, .int .u64 (x : Int))] ∧ (sl f x y os).has f Z32 = x ∧ (sl f x y os).offers = os ∧ (sl f x y os).keep f = 0 := by
  rcases hf with rfl | rfl
  · exact ⟨rfl, by unfold Bk.has sl purse Bk.side; simp [look, numOf], rfl, rfl⟩
  · exact ⟨rfl, by unfold Bk.has sl purse Bk.side; simp [look, numOf], rfl, rfl⟩
theorem sl_put (f : Int) (hf : isSide f) (x y : Nat) (os os' : List Off) (z : Nat) : { (sl f x y os).put f [(Z32, .int .u64 (z : Int))] with offers := os' } = sl f z y os' := by
  rcases hf with rfl | rfl <;> rfl
theorem sl_ok (f : Int) (x y : Nat) (os : List Off) (hx : x < 18446744073709551616) (hy : y < 18446744073709551616) (ho : ∀ o ∈ os, o.ok) (hn : os.length ≤ 1000) : (sl f x y os).ok := by
  unfold sl; split
  · exact ⟨nums_one _ _ hx, nums_one _ _ hy, ho, hn⟩
  · exact ⟨nums_one _ _ hy, nums_one _ _ hx, ho, hn⟩
theorem coin_fair (n f : Int) (hf : isSide f) (hn : 0 ≤ n) : (coin n f 1).fair := ⟨hf, hn, (by decide : 0 < 1), (by decide : (0 : Int) ≤ 0), (by decide : (0 : Int) ≤ 1073741824)⟩

theorem slot_offer (f n : Int) (hf : isSide f) (hn : 0 ≤ n) (x y : Nat) (os : List Off) (hx : 2 ≤ x) :
    (0 ≤ findI os f n → offE (sl f x y os) (coin n f 1) = 6 ∧ offN (sl f x y os) (coin n f 1) = sl f x y os) ∧
    (findI os f n < 0 → 30 ≤ cntF os f → offE (sl f x y os) (coin n f 1) = 50 ∧ offN (sl f x y os) (coin n f 1) = sl f x y os) ∧
    (findI os f n < 0 → cntF os f < 30 → offE (sl f x y os) (coin n f 1) = 0 ∧ offN (sl f x y os) (coin n f 1) = sl f (x - 1) y (os ++ [coin n f 1])) := by
  obtain ⟨s1, s2, s3, s4⟩ := sl_facts f hf x y os
  have e0 : offE (sl f x y os) (coin n f 1) = offerE (sl f x y os) (coin n f 1) := if_pos (coin_fair n f hf hn)
  have e1 : offerE (sl f x y os) (coin n f 1) = if 0 ≤ findI os f n then 6 else if 30 ≤ cntF os f then 50 else 0 := by
    unfold offerE
    change (if 0 ≤ findI (sl f x y os).offers f n then 6 else if 30 ≤ cntF (sl f x y os).offers f then 50 else if (sl f x y os).has f Z32 < 1 ∨ (Z32 = List.replicate 32 0 ∧ (sl f x y os).has f Z32 - 1 < (sl f x y os).keep f) then 51 else 0) = _
    rw [s2, s3, s4, if_neg (c := x < 1 ∨ _) (by omega)]
  refine ⟨fun h => ?_, fun h h' => ?_, fun h h' => ?_⟩
  · have e : offE (sl f x y os) (coin n f 1) = 6 := by rw [e0, e1, if_pos h]
    exact ⟨e, by unfold offN; rw [if_neg (by rw [e]; decide)]⟩
  · have e : offE (sl f x y os) (coin n f 1) = 50 := by rw [e0, e1, if_neg (by omega), if_pos h']
    exact ⟨e, by unfold offN; rw [if_neg (by rw [e]; decide)]⟩
  · have e : offE (sl f x y os) (coin n f 1) = 0 := by rw [e0, e1, if_neg (by omega), if_neg (by omega)]
    refine ⟨e, ?_⟩
    unfold offN; rw [if_pos e]
    unfold offerB
    change { (sl f x y os).put f (setL ((sl f x y os).side f) Z32 ((sl f x y os).has f Z32 - 1)) with offers := (sl f x y os).offers ++ [coin n f 1] } = _
    rw [s1, s2, s3]
    have : setL [(Z32, .int .u64 (x : Int))] Z32 (x - 1) = [(Z32, .int .u64 ((x - 1 : Nat) : Int))] := by
      unfold setL; rw [if_neg (by omega)]; simp [putL]
    rw [this]
    exact sl_put f hf x y os _ (x - 1)

/-- the first k offers of a side. -/
def rowF (f : Int) (k : Nat) : List Off := (List.range k).map fun (i : Nat) => coin (i : Int) f 1
theorem rowF_succ (f : Int) (k : Nat) : rowF f (k + 1) = rowF f k ++ [coin (k : Int) f 1] := by unfold rowF; rw [List.range_succ, List.map_append]; rfl
theorem rowF_ok (f : Int) (k : Nat) : ∀ o ∈ rowF f k, o.ok := fun o ho => by
  obtain ⟨i, _, rfl⟩ := List.mem_map.1 ho
  exact coin_ok _ _ _ (by decide)
theorem rowF_len (f : Int) (k : Nat) : (rowF f k).length = k := by simp [rowF]
theorem factA (f : Int) (hf : isSide f) (k : Nat) (hk : k < 31) : findI (rowF f k) f k < 0 ∧ cntF (rowF f k) f = k := by
  have h0 : ∀ k, k < 31 → findI (rowF 0 k) 0 k < 0 ∧ cntF (rowF 0 k) 0 = k := by decide +kernel
  have h1 : ∀ k, k < 31 → findI (rowF 1 k) 1 k < 0 ∧ cntF (rowF 1 k) 1 = k := by decide +kernel
  rcases hf with rfl | rfl
  · exact h0 k hk
  · exact h1 k hk
theorem factB (f : Int) (hf : isSide f) (n : Nat) (hn : n < 30) : findI (rowF f 30) f n = n ∧ findI (rowF f 30) (1 - f) n < 0 ∧ cntF (rowF f 30) (1 - f) = 0 := by
  have h0 : ∀ n, n < 30 → findI (rowF 0 30) 0 (n : Nat) = (n : Nat) ∧ findI (rowF 0 30) (1 - 0) (n : Nat) < 0 ∧ cntF (rowF 0 30) (1 - 0) = 0 := by decide +kernel
  have h1 : ∀ n, n < 30 → findI (rowF 1 30) 1 (n : Nat) = (n : Nat) ∧ findI (rowF 1 30) (1 - 1) (n : Nat) < 0 ∧ cntF (rowF 1 30) (1 - 1) = 0 := by decide +kernel
  rcases hf with rfl | rfl
  · exact h0 n hn
  · exact h1 n hn
/-- both sides' offers. -/
def rowG (f : Int) (n : Nat) : List Off := rowF f 30 ++ [coin (n : Int) (1 - f) 1]
theorem factD (f : Int) (hf : isSide f) (n : Nat) (hn : n < 30) : findI (rowG f n) f n = n ∧ (rowG f n)[n]? = some (coin n f 1) ∧ findI ((rowG f n).eraseIdx n) f 30 < 0 ∧ cntF ((rowG f n).eraseIdx n) f = 29 := by
  have h0 : ∀ n, n < 30 → findI (rowG 0 n) 0 (n : Nat) = (n : Nat) ∧ findI ((rowG 0 n).eraseIdx n) 0 30 < 0 ∧ cntF ((rowG 0 n).eraseIdx n) 0 = 29 := by decide +kernel
  have h1 : ∀ n, n < 30 → findI (rowG 1 n) 1 (n : Nat) = (n : Nat) ∧ findI ((rowG 1 n).eraseIdx n) 1 30 < 0 ∧ cntF ((rowG 1 n).eraseIdx n) 1 = 29 := by decide +kernel
  have h2 : (rowG f n)[n]? = some (coin n f 1) := by
    unfold rowG rowF
    rw [List.getElem?_append_left (by simp; omega)]
    simp [hn]
  rcases hf with rfl | rfl
  · exact ⟨(h0 n hn).1, h2, (h0 n hn).2⟩
  · exact ⟨(h1 n hn).1, h2, (h1 n hn).2⟩
theorem slot_back (f : Int) (hf : isSide f) (n : Nat) (hn : n < 30) (x y : Nat) : backE (sl f x y (rowG f n)) f n = 0 ∧ backN (sl f x y (rowG f n)) f n = sl f (x + 1) y ((rowG f n).eraseIdx n) := by
  obtain ⟨s1, s2, s3, s4⟩ := sl_facts f hf x y (rowG f n)
  obtain ⟨d1, d2, _, _⟩ := factD f hf n hn
  constructor
  · unfold backE; rw [s3, d1, if_neg (by omega)]
  · unfold backN Bk.at
    rw [s3, d1, if_neg (by omega), Int.toNat_natCast, List.getD_eq_getElem?_getD, d2]
    unfold giveB
    change { (sl f x y (rowG f n)).put f (addL ((sl f x y (rowG f n)).side f) Z32 1) with offers := (sl f x y (rowG f n)).offers.eraseIdx n } = _
    rw [s1, s3]
    have : addL [(Z32, .int .u64 (x : Int))] Z32 1 = [(Z32, .int .u64 ((x + 1 : Nat) : Int))] := by simp [addL, putL, look, numOf]
    rw [this]
    exact sl_put f hf x y _ _ (x + 1)
theorem fund0 : fundE ⟨[], [], [], 0, 0⟩ 0 Z32 100 = 0 ∧ fundN ⟨[], [], [], 0, 0⟩ 0 Z32 100 = ⟨[(Z32, .int .u64 ((100 : Nat) : Int))], [], [], 0, 0⟩ := ⟨by decide +kernel, by kernel_rfl⟩
theorem fund1 : fundE ⟨[(Z32, .int .u64 ((100 : Nat) : Int))], [], [], 0, 0⟩ 1 Z32 100 = 0 ∧ fundN ⟨[(Z32, .int .u64 ((100 : Nat) : Int))], [], [], 0, 0⟩ 1 Z32 100 = purse 0 0 100 100 [] := ⟨by decide +kernel, by kernel_rfl⟩
theorem sl_start (f : Int) : purse 0 0 100 100 [] = sl f 100 100 (rowF f 0) := by unfold sl; split <;> rfl
end Go.Proofs.Ytnddejgglbdkmaa
