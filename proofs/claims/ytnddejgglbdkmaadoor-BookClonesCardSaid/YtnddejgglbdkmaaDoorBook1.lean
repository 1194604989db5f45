/- The walks of sums.Sub, sums.Total, book.New. -/
import Derived.Test.YtnddejgglbdkmaaDoorMap3
import Derived.Laws.Externs
namespace Go.Proofs.YtnddejgglbdkmaaDoor
set_option linter.unusedVariables false
set_option linter.unusedSimpArgs false
open Go.ChangeShapes Go.WideShapes Go.ChangeAt Go.RowKit Go.Maps

/-- an offer. -/
structure Off where
  (no frm : Int)
  id : List Nat
  am : Nat
  lock : List Nat
  til : Int
def Off.cells (o : Off) : List Value := [.int .i64 o.no, .int .i64 o.frm] ++ (bcells o.id ++ (.int .u64 (o.am : Int) :: (bcells o.lock ++ [.int .i64 o.til])))
/-- a book. -/
structure Bk where
  l0 : List Ent
  l1 : List Ent
  offers : List Off
  k0 : Nat
  k1 : Nat
/-- a book that lies at block g, its maps at m0 and m1. -/
structure BookIs (w : World) (B g m0 m1 : Nat) (b : Bk) : Prop where
  obj : ∃ v, Has w g 77 #[.map (some m0), .map (some m1), v, .int .u64 (b.k0 : Int), .int .u64 (b.k1 : Int)] ∧ w.ownsRow B 32 68 v b.offers.length (b.offers.flatMap Off.cells)
  map0 : MapIs w m0 b.l0
  map1 : MapIs w m1 b.l1
  ne : m0 ≠ m1
  low : B ≤ g ∧ B ≤ m0 ∧ B ≤ m1

theorem new_is (w : World) (k0 k1 : Nat) : Calls Tryd.prog 9 #[.agg #[.int .u64 (k0 : Int), .int .u64 (k1 : Int)]] w fun e w' =>
    ∃ g m0 m1, e = .returned (.pointer (some ⟨g, 0, none⟩)) ∧ BookIs w' w.heap.size g m0 m1 ⟨[], [], [], k0, k1⟩ ∧ Below w.heap.size w w' := by
  have hmm := @run_makeMap Tryd.prog
  go_enter Tryd.func9, Tryd.ntmps9
  go_wp2
  go_ret
  have s1 : ∀ (x : World) o, (x.alloc o).heap.size = x.heap.size + 1 := fun x o => by simp
  have a1 : ∀ o, Below w.heap.size w (w.alloc o) := fun o => (Below.refl _ _).alloc (Nat.le_refl _) _
  have a2 : ∀ o o', Below w.heap.size w ((w.alloc o).alloc o') := fun o o' => (a1 o).alloc (by rw [s1]; omega) _
  have a3 : ∀ o o' o'', Below w.heap.size w (((w.alloc o).alloc o').alloc o'') := fun o o' o'' => (a2 o o').alloc (by rw [s1, s1]; omega) _
  have a4 : ∀ o o' o'' o''', Below w.heap.size w ((((w.alloc o).alloc o').alloc o'').alloc o''') := fun o o' o'' o''' => (a3 o o' o'').alloc (by rw [s1, s1, s1]; omega) _
  have mk : ∀ (x : World) (o : Obj), Kept (fun _ => False) x (x.alloc o) := fun x o => (Kept.refl _ _).alloc o
  refine ⟨w.heap.size + 1 + 1 + 1, w.heap.size + 1, w.heap.size + 1 + 1, rfl, ⟨⟨.slice none 0 0, ?_, World.ownsRow_nil _ _ _ _⟩, ?_, ?_, by omega, by omega⟩, a4 _ _ _ _⟩
  · have h := Has.new (((w.alloc (.cells #[.int .u64 (k0 : Int), .int .u64 (k1 : Int)] 23)).alloc (.map #[] 0)).alloc (.map #[] 0)) 77 #[.map (some (w.heap.size + 1)), .map (some (w.heap.size + 1 + 1)), .slice none 0 0, .int .u64 (k0 : Int), .int .u64 (k1 : Int)]
    rw [s1, s1, s1] at h
    exact h
  · have h := MapIs.new (w.alloc (.cells #[.int .u64 (k0 : Int), .int .u64 (k1 : Int)] 23))
    rw [s1] at h
    exact (h.kept (mk _ _) (fun h => h)).kept (mk _ _) (fun h => h)
  · have h := MapIs.new ((w.alloc (.cells #[.int .u64 (k0 : Int), .int .u64 (k1 : Int)] 23)).alloc (.map #[] 0))
    rw [s1, s1] at h
    exact h.kept (mk _ _) (fun h => h)

theorem add64_is (w : World) (a b : Nat) : (callFunc 53 #[.int .u64 (a : Int), .int .u64 (b : Int), .int .u64 0]).run Tryd.prog w =
    .ok (.value (.tuple #[.int .u64 (((a + b) % 18446744073709551616 : Nat) : Int), .int .u64 (((a + b) / 18446744073709551616 : Nat) : Int)])) w := by
  rw [run_callFunc_extern Tryd.func53 (by kernel_rfl) (by kernel_rfl) (by kernel_rfl) (e := add64Entry) (by kernel_rfl), run_add64 a b 0 (by omega) (by omega) (by omega) (by omega)]
  simp only [Result.andThen]
  congr 5 <;> omega
def sub64E : Array Value → Sem Value := fun args => do
  let (x, y, b) ← Extern.MathBitsCarry.three "Sub64" args
  pure (Extern.MathBitsCarry.pair ((x + Extern.MathBitsCarry.m64 - y - b) % Extern.MathBitsCarry.m64) (if x < y + b then 1 else 0))
theorem sub64_is (w : World) (a b : Nat) : (callFunc 54 #[.int .u64 (a : Int), .int .u64 (b : Int), .int .u64 0]).run Tryd.prog w =
    .ok (.value (.tuple #[.int .u64 (((a + 18446744073709551616 - b) % 18446744073709551616 : Nat) : Int), .int .u64 ((if a < b then 1 else 0 : Nat) : Int)])) w := by
  rw [run_callFunc_extern Tryd.func54 (by kernel_rfl) (by kernel_rfl) (by kernel_rfl) (e := sub64E) (by kernel_rfl)]
  have h : (sub64E #[.int .u64 (a : Int), .int .u64 (b : Int), .int .u64 (0 : Nat)]).run Tryd.prog w = .ok (.tuple #[.int .u64 (((a + 18446744073709551616 - b - 0) % 18446744073709551616 : Nat) : Int), .int .u64 ((if a < b + 0 then 1 else 0 : Nat) : Int)]) w := rfl
  have h2 : (sub64E #[.int .u64 (a : Int), .int .u64 (b : Int), .int .u64 0]).run Tryd.prog w = _ := h
  rw [h2]
  rfl

theorem add_fits (w : World) (a b : Nat) (h : a + b < 18446744073709551616) :
    Calls Tryd.prog 31 #[.int .u64 (a : Int), .int .u64 (b : Int)] w fun e w' => e = .returned (.tuple #[.int .u64 ((a + b : Nat) : Int), .int .i64 0]) ∧ w' = w := by
  have hadd := add64_is w a b
  rw [Nat.mod_eq_of_lt h, Nat.div_eq_of_lt h] at hadd
  obtain ⟨s, hs⟩ : ∃ s, s = a + b := ⟨_, rfl⟩
  rw [← hs] at hadd
  have HS := Lib.hid hs
  have HADD := Lib.hid hadd
  clear hadd hs h
  go_enter Tryd.func31, Tryd.ntmps31
  go_wp2_with (simp only [HADD.out])
  go_ret2
  exact ⟨by rw [HS.out]; rfl, rfl⟩
theorem add_over (w : World) (a b : Nat) (h : 18446744073709551616 ≤ a + b) (h2 : a + b < 36893488147419103232) :
    Calls Tryd.prog 31 #[.int .u64 (a : Int), .int .u64 (b : Int)] w fun e w' => e = .returned (.tuple #[.int .u64 0, .int .i64 10]) ∧ w' = w := by
  have hadd := add64_is w a b
  rw [show (a + b) / 18446744073709551616 = 1 by omega] at hadd
  obtain ⟨s, hs⟩ : ∃ s, s = (a + b) % 18446744073709551616 := ⟨_, rfl⟩
  rw [← hs] at hadd
  have HADD := Lib.hid hadd
  clear hadd hs h h2
  go_enter Tryd.func31, Tryd.ntmps31
  go_wp2_with (simp only [HADD.out])
  go_ret2
  exact ⟨rfl, rfl⟩
theorem sub_fits (w : World) (a b : Nat) (h : b ≤ a) (ha : a < 18446744073709551616) :
    Calls Tryd.prog 32 #[.int .u64 (a : Int), .int .u64 (b : Int)] w fun e w' => e = .returned (.tuple #[.int .u64 ((a - b : Nat) : Int), .int .i64 0]) ∧ w' = w := by
  have hadd := sub64_is w a b
  rw [show (a + 18446744073709551616 - b) % 18446744073709551616 = a - b by omega, if_neg (by omega)] at hadd
  obtain ⟨s, hs⟩ : ∃ s, s = a - b := ⟨_, rfl⟩
  rw [← hs] at hadd
  have HS := Lib.hid hs
  have HADD := Lib.hid hadd
  clear hadd hs h ha
  go_enter Tryd.func32, Tryd.ntmps32
  go_wp2_with (simp only [HADD.out])
  go_ret2
  exact ⟨by rw [HS.out]; rfl, rfl⟩
theorem sub_less (w : World) (a b : Nat) (h : a < b) :
    Calls Tryd.prog 32 #[.int .u64 (a : Int), .int .u64 (b : Int)] w fun e w' => e = .returned (.tuple #[.int .u64 0, .int .i64 11]) ∧ w' = w := by
  have hadd := sub64_is w a b
  rw [if_pos h] at hadd
  obtain ⟨s, hs⟩ : ∃ s, s = (a + 18446744073709551616 - b) % 18446744073709551616 := ⟨_, rfl⟩
  rw [← hs] at hadd
  have HADD := Lib.hid hadd
  clear hadd hs h
  go_enter Tryd.func32, Tryd.ntmps32
  go_wp2_with (simp only [HADD.out])
  go_ret2
  exact ⟨rfl, rfl⟩
end Go.Proofs.YtnddejgglbdkmaaDoor
