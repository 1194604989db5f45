/- BookNames: the plain law. -/
import Derived.Test.YtnddejgglbdkmaaDoorBook18
namespace Go.Proofs.YtnddejgglbdkmaaDoor
set_option linter.unusedVariables false
set_option linter.unusedSimpArgs false
open Go.ChangeShapes Go.WideShapes Go.ChangeAt Go.RowKit Go.Maps

def nb (la lb : List Ent) (os : List Off) : Bk := ⟨la, lb, os, 0, 0⟩
def one (x : Nat) : List Ent := [(Z32, .int .u64 (x : Int))]
def lo (n f : Int) (a : Nat) (D : List Nat) : Off := ⟨n, f, Z32, a, D, 0⟩
/-- an offer with a lock, as the walk builds it. -/
theorem lock_lit (n f : Int) (a : Nat) (D : List Nat) (hD : D.length = 32) : (lo n f a D).cells.toArray =
    List.foldl (fun (cs : Array Value) (x : Value × Nat) => cs.setIfInBounds (35 + x.snd) x.fst) (((Tryd.zeroCells32.setIfInBounds 0 (.int .i64 n)).setIfInBounds 1 (.int .i64 f)).setIfInBounds 34 (.int .u64 (a : Int))) (bcells D).zipIdx := by
  match D, hD with
  | [d0, d1, d2, d3, d4, d5, d6, d7, d8, d9, d10, d11, d12, d13, d14, d15, d16, d17, d18, d19, d20, d21, d22, d23, d24, d25, d26, d27, d28, d29, d30, d31], _ => show _ = _; kernel_rfl
theorem lo_fair (no f : Int) (a : Nat) (D : List Nat) (hf : isSide f) (hno : 0 ≤ no) (ha : 0 < a) : (lo no f a D).fair := ⟨hf, hno, ha, (by decide : (0 : Int) ≤ 0), (by decide : (0 : Int) ≤ 1073741824)⟩
theorem look_one (x : Nat) : look (one x) Z32 = some (.int .u64 (x : Int)) := by simp [one, look]
theorem num_one (x : Nat) : numOf (look (one x) Z32) = x := by rw [look_one]; simp [numOf]
theorem num_nil : numOf (look [] Z32) = 0 := rfl
theorem add_one (x y : Nat) : addL (one x) Z32 y = one (x + y) := by unfold addL; rw [num_one]; simp [one, putL]
theorem add_nil (y : Nat) : addL [] Z32 y = one y := by unfold addL; rw [num_nil, Nat.zero_add]; rfl
theorem set_one (x : Nat) : setL (one x) Z32 0 = [] := by unfold setL; rw [if_pos rfl]; simp [one, delL]

section
variable (no : Int) (hno : 0 ≤ no) (a b : Nat) (ha : 0 < a) (hb : 0 < b) (ha2 : a ≤ 65536) (hb2 : b ≤ 65536) (D : List Nat)
include ha ha2 in
theorem N1 : fundE (nb [] [] []) 0 Z32 a = 0 ∧ fundN (nb [] [] []) 0 Z32 a = nb (one a) [] [] := by
  have e : fundE (nb [] [] []) 0 Z32 a = 0 := by
    unfold fundE; rw [if_neg (by unfold isSide; omega), if_pos (by show (0 : Nat) + a < _; omega)]
  refine ⟨e, ?_⟩
  unfold fundN; rw [if_pos e]
  show nb (addL [] Z32 a) [] [] = _
  rw [add_nil]
include hb ha2 hb2 in
theorem N2 : fundE (nb (one a) [] []) 1 Z32 b = 0 ∧ fundN (nb (one a) [] []) 1 Z32 b = nb (one a) (one b) [] := by
  have e : fundE (nb (one a) [] []) 1 Z32 b = 0 := by
    unfold fundE; rw [if_neg (by unfold isSide; omega), if_pos ?_]
    show ([numOf (look (one a) Z32), numOf (look [] Z32)] ++ []).sum + b < _
    rw [num_one, num_nil]
    simp; omega
  refine ⟨e, ?_⟩
  unfold fundN; rw [if_pos e]
  show nb (one a) (addL [] Z32 b) [] = _
  rw [add_nil]
include hno ha in
theorem N3 : offE (nb (one a) (one b) []) (lo no 0 a D) = 0 ∧ offN (nb (one a) (one b) []) (lo no 0 a D) = nb [] (one b) [lo no 0 a D] := by
  have hh : (nb (one a) (one b) []).has 0 Z32 = a := num_one a
  have e : offE (nb (one a) (one b) []) (lo no 0 a D) = 0 := by
    unfold offE; rw [if_pos (lo_fair no 0 a D (.inl rfl) hno ha)]
    unfold offerE
    rw [if_neg (by show ¬ (0 : Int) ≤ -1; decide), if_neg (by show ¬ 30 ≤ 0; decide)]
    show (if (nb (one a) (one b) []).has 0 Z32 < a ∨ (Z32 = List.replicate 32 0 ∧ (nb (one a) (one b) []).has 0 Z32 - a < 0) then (51 : Int) else 0) = 0
    rw [hh, if_neg (by omega)]
  refine ⟨e, ?_⟩
  unfold offN; rw [if_pos e]
  show nb (setL (one a) Z32 ((nb (one a) (one b) []).has 0 Z32 - a)) (one b) [lo no 0 a D] = _
  rw [hh, Nat.sub_self, set_one]
include hno hb in
theorem N4 : offE (nb [] (one b) [lo no 0 a D]) (lo no 1 b D) = 0 ∧ offN (nb [] (one b) [lo no 0 a D]) (lo no 1 b D) = nb [] [] [lo no 0 a D, lo no 1 b D] := by
  have hh : (nb [] (one b) [lo no 0 a D]).has 1 Z32 = b := num_one b
  have hf : findI [lo no 0 a D] 1 no = -1 := findI_none _ _ _ (fun o ho h => by rw [List.mem_singleton.1 ho] at h; exact absurd h.1 (by show ¬ (0 : Int) = 1; decide))
  have hc : cntF [lo no 0 a D] 1 = 0 := by simp [cntF, lo]
  have e : offE (nb [] (one b) [lo no 0 a D]) (lo no 1 b D) = 0 := by
    unfold offE; rw [if_pos (lo_fair no 1 b D (.inr rfl) hno hb)]
    unfold offerE
    show (if 0 ≤ findI [lo no 0 a D] 1 no then (6 : Int) else if 30 ≤ cntF [lo no 0 a D] 1 then 50 else if (nb [] (one b) [lo no 0 a D]).has 1 Z32 < b ∨ (Z32 = List.replicate 32 0 ∧ (nb [] (one b) [lo no 0 a D]).has 1 Z32 - b < 0) then (51 : Int) else 0) = 0
    rw [hf, hc, hh, if_neg (by decide), if_neg (by decide), if_neg (by omega)]
  refine ⟨e, ?_⟩
  unfold offN; rw [if_pos e]
  show nb [] (setL (one b) Z32 ((nb [] (one b) [lo no 0 a D]).has 1 Z32 - b)) [lo no 0 a D, lo no 1 b D] = _
  rw [hh, Nat.sub_self, set_one]
theorem N5 (K s0 : List Wd) (sec : List Nat) (hD : digest K s0 sec = D) : settleE K s0 (nb [] [] [lo no 0 a D, lo no 1 b D]) 0 no sec = 0 ∧ settleN K s0 (nb [] [] [lo no 0 a D, lo no 1 b D]) 0 no sec = nb [] (one a) [lo no 1 b D] := by
  have hf : findI [lo no 0 a D, lo no 1 b D] 0 no = (0 : Nat) := findI_at _ _ _ 0 (lo no 0 a D) rfl ⟨rfl, rfl⟩ (fun j p hj => absurd hj (by omega))
  have hf' : findI (nb [] [] [lo no 0 a D, lo no 1 b D]).offers 0 no = 0 := hf
  have e : settleE K s0 (nb [] [] [lo no 0 a D, lo no 1 b D]) 0 no sec = 0 := by
    unfold settleE; rw [hf', if_neg (by decide)]
    show (if digest K s0 sec = D then (0 : Int) else 31) = 0
    rw [if_pos hD]
  refine ⟨e, ?_⟩
  unfold settleN; rw [if_pos e, hf']
  show nb [] (addL [] Z32 a) [lo no 1 b D] = _
  rw [add_nil]
theorem N67 (K s0 : List Wd) (sec : List Nat) : (settleE K s0 (nb [] (one a) [lo no 1 b D]) 0 no sec = 5 ∧ settleN K s0 (nb [] (one a) [lo no 1 b D]) 0 no sec = nb [] (one a) [lo no 1 b D]) ∧ backE (nb [] (one a) [lo no 1 b D]) 0 no = 5 ∧ backN (nb [] (one a) [lo no 1 b D]) 0 no = nb [] (one a) [lo no 1 b D] := by
  have hf : findI (nb [] (one a) [lo no 1 b D]).offers 0 no = -1 := findI_none _ _ _ (fun o ho h => by rw [List.mem_singleton.1 ho] at h; exact absurd h.1 (by show ¬ (1 : Int) = 0; decide))
  have e : settleE K s0 (nb [] (one a) [lo no 1 b D]) 0 no sec = 5 := by unfold settleE; rw [hf]; rfl
  refine ⟨⟨e, by unfold settleN; rw [e]; rfl⟩, by unfold backE; rw [hf]; rfl, by unfold backN; rw [hf]; rfl⟩
theorem N8 : (nb [] (one a) [lo no 1 b D]).has 1 Z32 = a ∧ (nb [] (one a) [lo no 1 b D]).has 0 Z32 = 0 := ⟨num_one a, num_nil⟩
theorem N9 : backE (nb [] (one a) [lo no 1 b D]) 1 no = 0 ∧ backN (nb [] (one a) [lo no 1 b D]) 1 no = nb [] (one (a + b)) [] := by
  have hf : findI (nb [] (one a) [lo no 1 b D]).offers 1 no = 0 := findI_at [lo no 1 b D] _ _ 0 (lo no 1 b D) rfl ⟨rfl, rfl⟩ (fun j p hj => absurd hj (by omega))
  refine ⟨by unfold backE; rw [hf]; rfl, ?_⟩
  unfold backN; rw [hf]
  show nb [] (addL (one a) Z32 b) [] = _
  rw [add_one]
theorem N10 : (nb [] (one (a + b)) []).has 1 Z32 = a + b := num_one _
end
theorem nb_ok (la lb : List Ent) (os : List Off) (h1 : Nums la) (h2 : Nums lb) (h3 : ∀ o ∈ os, o.ok) (h4 : os.length ≤ 1000) : (nb la lb os).ok := ⟨h1, h2, h3, h4⟩
theorem nums_nil : Nums [] := fun p hp => by cases hp
end Go.Proofs.YtnddejgglbdkmaaDoor
