/- The walks of sums.Sub, sums.Total, book.New. -/
import Derived.Test.YtcekammjpghjnaaDoorWs
import Derived.Test.YtcekammjpghjnaaDoorUMap4
import Derived.Laws.Externs
import Derived.Laws.StructEq
namespace Go.Proofs.YtcekammjpghjnaaDoor
set_option linter.unusedVariables false
set_option linter.unusedSimpArgs false
open Go.ChangeShapes Go.WideShapes Go.ChangeAt Go.RowKit Go.Maps

structure Off where
 (no frm : Int)
 id : List Nat
 am : Nat
 lock : List Nat
 til : Int
def Off.cells (o : Off) : List Value := [.int .i64 o.no, .int .i64 o.frm] ++ (bcells o.id ++ (.int .u64 (o.am : Int) :: (bcells o.lock ++ [.int .i64 o.til])))
structure Bk where
 l0 : List Ent
 l1 : List Ent
 offers : List Off
 k0 : Nat
 k1 : Nat
structure BookIs (w : World) (B g m0 m1 : Nat) (b : Bk) : Prop where
 obj : ∃ v, Has w g 71 #[.map (some m0), .map (some m1), v, .int .u64 (b.k0 : Int), .int .u64 (b.k1 : Int)] ∧ w.ownsRow B 42 68 v b.offers.length (b.offers.flatMap Off.cells)
 map0 : MapIs w m0 b.l0
 map1 : MapIs w m1 b.l1
 ne : m0 ≠ m1
 low : B ≤ g ∧ B ≤ m0 ∧ B ≤ m1

theorem new_is (w : World) (k0 k1 : Nat) : Calls Tryd.prog 5 #[.agg #[.int .u64 (k0 : Int), .int .u64 (k1 : Int)]] w fun e w' =>
   ∃ g m0 m1, e = .returned (.pointer (some ⟨g, 0, none⟩)) ∧ BookIs w' w.heap.size g m0 m1 ⟨[], [], [], k0, k1⟩ ∧ Below w.heap.size w w' := by
 have hmm := @run_makeMap Tryd.prog
 go_enter Tryd.func5, Tryd.ntmps5
 go_wp2
 go_ret
 have s1 : ∀ (x : World) o, (x.alloc o).heap.size = x.heap.size + 1 := fun x o => by simp
 have a1 : ∀ o, Below w.heap.size w (w.alloc o) := fun o => (Below.refl _ _).alloc (Nat.le_refl _) _
 have a2 : ∀ o o', Below w.heap.size w ((w.alloc o).alloc o') := fun o o' => (a1 o).alloc (by rw [s1]; omega) _
 have a3 : ∀ o o' o'', Below w.heap.size w (((w.alloc o).alloc o').alloc o'') := fun o o' o'' => (a2 o o').alloc (by rw [s1, s1]; omega) _
 have a4 : ∀ o o' o'' o''', Below w.heap.size w ((((w.alloc o).alloc o').alloc o'').alloc o''') := fun o o' o'' o''' => (a3 o o' o'').alloc (by rw [s1, s1, s1]; omega) _
 have mk : ∀ (x : World) (o : Obj), Kept (fun _ => False) x (x.alloc o) := fun x o => (Kept.refl _ _).alloc o
 refine ⟨w.heap.size + 1 + 1 + 1, w.heap.size + 1, w.heap.size + 1 + 1, rfl, ⟨⟨.slice none 0 0, ?_, World.ownsRow_nil _ _ _ _⟩, ?_, ?_, by omega, by omega⟩, a4 _ _ _ _⟩
 · have h := Has.new (((w.alloc (.cells #[.int .u64 (k0 : Int), .int .u64 (k1 : Int)] 23)).alloc (.map #[] 0)).alloc (.map #[] 0)) 71 #[.map (some (w.heap.size + 1)), .map (some (w.heap.size + 1 + 1)), .slice none 0 0, .int .u64 (k0 : Int), .int .u64 (k1 : Int)]
   rw [s1, s1, s1] at h
   exact h
 · have h := MapIs.new (w.alloc (.cells #[.int .u64 (k0 : Int), .int .u64 (k1 : Int)] 23))
   rw [s1] at h
   exact (h.kept (mk _ _) (fun h => h)).kept (mk _ _) (fun h => h)
 · have h := MapIs.new ((w.alloc (.cells #[.int .u64 (k0 : Int), .int .u64 (k1 : Int)] 23)).alloc (.map #[] 0))
   rw [s1, s1] at h
   exact h.kept (mk _ _) (fun h => h)

theorem add64_is (w : World) (a b : Nat) : (callFunc 51 #[.int .u64 (a : Int), .int .u64 (b : Int), .int .u64 0]).run Tryd.prog w =
  .ok (.value (.tuple #[.int .u64 (((a + b) % 18446744073709551616 : Nat) : Int), .int .u64 (((a + b) / 18446744073709551616 : Nat) : Int)])) w := by
 rw [run_callFunc_extern Tryd.func51 (by kernel_rfl) (by kernel_rfl) (by kernel_rfl) (e := add64Entry) (by kernel_rfl), run_add64 a b 0 (by omega) (by omega) (by omega) (by omega)]
 simp only [Result.andThen]
 congr 5 <;> omega
def sub64E : Array Value → Sem Value := fun args => do
 let (x, y, b) ← Extern.MathBitsCarry.three "Sub64" args
 pure (Extern.MathBitsCarry.pair ((x + Extern.MathBitsCarry.m64 - y - b) % Extern.MathBitsCarry.m64) (if x < y + b then 1 else 0))
theorem sub64_is (w : World) (a b : Nat) : (callFunc 54 #[.int .u64 (a : Int), .int .u64 (b : Int), .int .u64 0]).run Tryd.prog w =
  .ok (.value (.tuple #[.int .u64 (((a + 18446744073709551616 - b) % 18446744073709551616 : Nat) : Int), .int .u64 ((if a < b then 1 else 0 : Nat) : Int)])) w := by
 rw [run_callFunc_extern Tryd.func54 (by kernel_rfl) (by kernel_rfl) (by kernel_rfl) (e := sub64E) (by kernel_rfl)]
 have h : (sub64E #[.int .u64 (a : Int), .int .u64 (b : Int), .int .u64 (0 : Nat)]).run Tryd.prog w = .ok (.tuple #[.int .u64 (((a + 18446744073709551616 - b - 0) % 18446744073709551616 : Nat) : Int), .int .u64 ((if a < b + 0 then 1 else 0 : Nat) : Int)]) w := rfl
 have h2 : (sub64E #[.int .u64 (a : Int), .int .u64 (b : Int), .int .u64 0]).run Tryd.prog w = _ := h
 rw [h2]
 rfl

theorem add_fits (w : World) (a b : Nat) (h : a + b < 18446744073709551616) :
  Calls Tryd.prog 31 #[.int .u64 (a : Int), .int .u64 (b : Int)] w fun e w' => e = .returned (.tuple #[.int .u64 ((a + b : Nat) : Int), .int .i64 0]) ∧ w' = w := by
 have hadd := add64_is w a b
 rw [Nat.mod_eq_of_lt h, Nat.div_eq_of_lt h] at hadd
 obtain ⟨s, hs⟩ : ∃ s, s = a + b := ⟨_, rfl⟩
 rw [← hs] at hadd
 have HS := Lib.hid hs
 have HADD := Lib.hid hadd
 clear hadd hs h
 go_enter Tryd.func31, Tryd.ntmps31
 go_wp2_with (simp only [HADD.out])
 go_ret2
 exact ⟨by rw [HS.out]; rfl, rfl⟩
theorem add_over (w : World) (a b : Nat) (h : 18446744073709551616 ≤ a + b) (h2 : a + b < 36893488147419103232) :
  Calls Tryd.prog 31 #[.int .u64 (a : Int), .int .u64 (b : Int)] w fun e w' => e = .returned (.tuple #[.int .u64 0, .int .i64 10]) ∧ w' = w := by
 have hadd := add64_is w a b
 rw [show (a + b) / 18446744073709551616 = 1 by omega] at hadd
 obtain ⟨s, hs⟩ : ∃ s, s = (a + b) % 18446744073709551616 := ⟨_, rfl⟩
 rw [← hs] at hadd
 have HADD := Lib.hid hadd
 clear hadd hs h h2
 go_enter Tryd.func31, Tryd.ntmps31
 go_wp2_with (simp only [HADD.out])
 go_ret2
 exact ⟨rfl, rfl⟩
theorem sub_fits (w : World) (a b : Nat) (h : b ≤ a) (ha : a < 18446744073709551616) :
  Calls Tryd.prog 34 #[.int .u64 (a : Int), .int .u64 (b : Int)] w fun e w' => e = .returned (.tuple #[.int .u64 ((a - b : Nat) : Int), .int .i64 0]) ∧ w' = w := by
 have hadd := sub64_is w a b
 rw [show (a + 18446744073709551616 - b) % 18446744073709551616 = a - b by omega, if_neg (by omega)] at hadd
 obtain ⟨s, hs⟩ : ∃ s, s = a - b := ⟨_, rfl⟩
 rw [← hs] at hadd
 have HS := Lib.hid hs
 have HADD := Lib.hid hadd
 clear hadd hs h ha
 go_enter Tryd.func34, Tryd.ntmps34
 go_wp2_with (simp only [HADD.out])
 go_ret2
 exact ⟨by rw [HS.out]; rfl, rfl⟩
theorem sub_less (w : World) (a b : Nat) (h : a < b) :
  Calls Tryd.prog 34 #[.int .u64 (a : Int), .int .u64 (b : Int)] w fun e w' => e = .returned (.tuple #[.int .u64 0, .int .i64 11]) ∧ w' = w := by
 have hadd := sub64_is w a b
 rw [if_pos h] at hadd
 obtain ⟨s, hs⟩ : ∃ s, s = (a + 18446744073709551616 - b) % 18446744073709551616 := ⟨_, rfl⟩
 rw [← hs] at hadd
 have HADD := Lib.hid hadd
 clear hadd hs h
 go_enter Tryd.func34, Tryd.ntmps34
 go_wp2_with (simp only [HADD.out])
 go_ret2
 exact ⟨rfl, rfl⟩
end Go.Proofs.YtcekammjpghjnaaDoor
/- The walks of sums.Total, book.side. -/
namespace Go.Proofs.YtcekammjpghjnaaDoor
set_option linter.unusedVariables false
set_option linter.unusedSimpArgs false
open Go.ChangeShapes Go.WideShapes Go.ChangeAt Go.RowKit Go.Maps

def totalV (xs : List Nat) : Value := if xs.sum < 18446744073709551616 then .tuple #[.int .u64 (xs.sum : Int), .int .i64 0] else .tuple #[.int .u64 0, .int .i64 10]
theorem sum_take (xs : List Nat) (k : Nat) (hk : k < xs.length) : (xs.take (k + 1)).sum = (xs.take k).sum + xs.getD k 0 := by
 rw [List.take_add_one, List.sum_append, List.getElem?_eq_getElem hk]
 simp [hk]
theorem sum_take_le (xs : List Nat) (k : Nat) : (xs.take k).sum ≤ xs.sum := by
 have : xs.sum = (xs.take k).sum + (xs.drop k).sum := by rw [← List.sum_append, List.take_append_drop]
 omega

theorem total_is (w : World) (a : Option Addr) (n c : Nat) (xs : List Nat) (hn : n = xs.length) (hn2 : n ≤ 1000000) (hb : ∀ x ∈ xs, x < 18446744073709551616)
  (hc : 0 < n → ∃ g o, a = some ⟨g, o, none⟩ ∧ ∀ i, i < n → w.cell? ⟨g, o + i, none⟩ = some (.int .u64 (xs.getD i 0 : Nat))) :
  Calls Tryd.prog 50 #[.slice a n c] w fun e w' => e = .returned (totalV xs) ∧ w' = w := by
 have HN := Lib.hid hn
 have HB := Lib.hid hb
 have HC := Lib.hid hc
 clear hn hb hc
 go_enter Tryd.func50, Tryd.ntmps50
 go_wp2
 go_loopw [11, 4] (fun i s wr => ∃ k : Nat, k ≤ n ∧ i = .int .i64 k ∧ s = .int .u64 ((xs.take k).sum : Nat) ∧ (xs.take k).sum < 18446744073709551616 ∧ wr = w) (fun i _ _ => n - (intOf i).toNat)
 case atStart => exact ⟨0, by omega, rfl, by rw [List.take_zero]; rfl, by rw [List.take_zero]; decide, rfl⟩
 case round =>
  obtain ⟨k, hk, rfl, rfl, hs, rfl⟩ := hrel
  obtain ⟨s, hss⟩ : ∃ s, s = (xs.take k).sum := ⟨_, rfl⟩
  rw [← hss] at hs ⊢
  have HS := Lib.hid hss
  clear hss
  by_cases hlt : k < n
  · have hn0 : 0 < n := by omega
    obtain ⟨g, o, rfl, hcell⟩ := HC.out hn0
    have ck := hcell k hlt
    obtain ⟨x, hx⟩ : ∃ x, x = xs.getD k 0 := ⟨_, rfl⟩
    have hxl : x < 18446744073709551616 := by
      rw [hx, List.getD_eq_getElem?_getD, List.getElem?_eq_getElem (by rw [← HN.out]; exact hlt)]
      exact HB.out _ (List.getElem_mem _)
    rw [← hx] at ck
    have HX := Lib.hid hx
    clear hcell hx
    by_cases hf : s + x < 18446744073709551616
    · go_wp2_with fail
      refine (add_fits _ s x hf).mono ?_
      rintro _ _ ⟨rfl, rfl⟩
      go_wp2
      go_roundw
      case rel => exact ⟨k + 1, by omega, by go_num, by rw [sum_take xs k (by rw [← HN.out]; exact hlt), ← HX.out, ← HS.out]; rfl, by rw [sum_take xs k (by rw [← HN.out]; exact hlt), ← HX.out, ← HS.out]; exact hf, trivial⟩
      case measure => simp [intOf]; omega
    · have hbig : ¬ xs.sum < 18446744073709551616 := by
       have h1 := sum_take_le xs (k + 1)
       rw [sum_take xs k (by rw [← HN.out]; exact hlt), ← HX.out, ← HS.out] at h1
       omega
      have HBIG := Lib.hid hbig
      clear hbig
      go_wp2_with fail
      refine (add_over _ s x (by omega) (by omega)).mono ?_
      rintro _ _ ⟨rfl, rfl⟩
      go_wp2
      go_ret2
      exact ⟨by unfold totalV; rw [if_neg HBIG.out]; rfl, rfl⟩
  · have hk9 := Lib.hid (show k = n by omega)
    have hfin : Hid (totalV xs = .tuple #[.int .u64 (s : Int), .int .i64 0]) := by
      have e : s = xs.sum := by rw [HS.out, hk9.out, HN.out, List.take_length]
      unfold totalV
      show _ = _
      rw [← e, if_pos hs]
    go_wp2
    go_ret2
    exact ⟨by rw [hfin.out]; rfl, rfl⟩

theorem side_is (w : World) (n : Int) : Calls Tryd.prog 29 #[.int .i64 n] w fun e w' => e = .returned (.bool (decide (n = 0 ∨ n = 1))) ∧ w' = w := by
 by_cases h0 : n = 0
 · subst h0
   go_enter Tryd.func29, Tryd.ntmps29
   go_wp2
   go_ret
   exact ⟨rfl, rfl⟩
 · by_cases h1 : n = 1
   · subst h1
     go_enter Tryd.func29, Tryd.ntmps29
     go_wp2
     go_ret
     exact ⟨rfl, rfl⟩
   · go_enter Tryd.func29, Tryd.ntmps29
     go_wp2
     go_ret
     exact ⟨by simp [h0, h1], rfl⟩
end Go.Proofs.YtcekammjpghjnaaDoor
/- Two digests compared; offers in memory. -/
namespace Go.Proofs.YtcekammjpghjnaaDoor
set_option linter.unusedVariables false
set_option linter.unusedSimpArgs false
open Go.ChangeShapes Go.WideShapes Go.ChangeAt Go.RowKit Go.Maps

theorem hash_eq (a b : List Nat) (ha : IsHash a) (hb : IsHash b) (w : World) : (Op.equal 39 (arr a) (arr b)).run Tryd.prog w = .ok (decide (a = b)) w := by
 obtain ⟨la, hla⟩ := key_some a ha
 obtain ⟨lb, hlb⟩ := key_some b hb
 have h := run_equal_deep (P := Tryd.prog) w (m := 2) (by omega) (k := 39) (by kernel_rfl) (by rw [Tryd.underlying39]) hla hlb
 obtain ⟨r, hr, hiff⟩ := h
 have hab : la = lb ↔ a = b := ⟨fun e => by subst e; exact arr_inj (hashKey.inj hla hlb), fun e => by subst e; rw [hla] at hlb; exact Option.some.inj hlb⟩
 have e : r = decide (a = b) := by
  by_cases hc : a = b
  · rw [decide_eq_true hc]; exact hiff.2 (hab.2 hc)
  · rw [decide_eq_false hc]
    cases r with
    | false => rfl
    | true => exact absurd (hab.1 (hiff.1 rfl)) hc
 rw [hr, e]
theorem hash_eqIn (a b : List Nat) (ha : IsHash a) (hb : IsHash b) (w : World) : (Op.equalIn 10000 39 (arr a) (arr b)).run Tryd.prog w = .ok (decide (a = b)) w := hash_eq a b ha hb w

def Off.ok (o : Off) : Prop := IsHash o.id ∧ IsHash o.lock ∧ o.am < 18446744073709551616
theorem Off.length (o : Off) (h : o.ok) : o.cells.length = 68 := by
 simp [Off.cells, bcells_length, h.1.1, h.2.1.1]
theorem flat_get (os : List Off) (h : ∀ o ∈ os, o.ok) (i j : Nat) (o : Off) (hi : os[i]? = some o) (hj : j < 68) : (os.flatMap Off.cells)[68 * i + j]? = o.cells[j]? := by
 induction os generalizing i with
 | nil => simp at hi
 | cons p os ih =>
  have hp := Off.length p (h p List.mem_cons_self)
  rw [List.flatMap_cons]
  cases i with
  | zero =>
   simp at hi; subst hi
   rw [Nat.mul_zero, Nat.zero_add, List.getElem?_append_left (by omega)]
  | succ i =>
   rw [List.getElem?_cons_succ] at hi
   rw [List.getElem?_append_right (by omega), hp, show 68 * (i + 1) + j - 68 = 68 * i + j by omega]
   exact ih (fun o ho => h o (List.mem_cons_of_mem _ ho)) i hi
theorem off_range {w : World} {B : Nat} {v : Value} {os : List Off} (h : w.ownsRow B 42 68 v os.length (os.flatMap Off.cells)) (hok : ∀ o ∈ os, o.ok) {i : Nat} {o : Off} (hi : os[i]? = some o) :
  ∃ g cap, v = .slice (some ⟨g, 0, none⟩) os.length cap ∧ B ≤ g ∧ g < w.heap.size ∧ w.rangeAt g (68 * i) o.cells := by
 have hil := (List.getElem?_eq_some_iff.1 hi).1
 obtain ⟨g, cap, cur, rfl, hB, hh, h1, h2, h3, h4⟩ := own_open h (by omega)
 refine ⟨g, cap, rfl, hB, hh.lt, fun j u hu => ?_⟩
 have hj : j < 68 := by
  have := (List.getElem?_eq_some_iff.1 hu).1
  rw [Off.length o (hok o (List.mem_of_getElem? hi))] at this
  exact this
 refine hh.cell_is ?_
 rw [h4 _ (by omega), flat_get os hok i j o hi hj, hu]
end Go.Proofs.YtcekammjpghjnaaDoor
