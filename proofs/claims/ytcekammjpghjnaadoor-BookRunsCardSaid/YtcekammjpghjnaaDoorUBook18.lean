/- The walks of the document's example and of BookSlots. -/
import Derived.Test.YtcekammjpghjnaaDoorWs
import Derived.Test.YtcekammjpghjnaaDoorUBook14
import Derived.Test.YtcekammjpghjnaaDoorUBook17
import Derived.Test.YtcekammjpghjnaaDoorUMem
namespace Go.Proofs.YtcekammjpghjnaaDoor
set_option linter.unusedVariables false
set_option linter.unusedSimpArgs false
open Go.ChangeShapes Go.WideShapes Go.ChangeAt Go.RowKit Go.Maps

def Z32 : List Nat := List.replicate 32 0
theorem z32_is : IsHash Z32 := zero_is
theorem zarr : arr Z32 = .agg #[.int .u8 0, .int .u8 0, .int .u8 0, .int .u8 0, .int .u8 0, .int .u8 0, .int .u8 0, .int .u8 0, .int .u8 0, .int .u8 0, .int .u8 0, .int .u8 0, .int .u8 0, .int .u8 0, .int .u8 0, .int .u8 0, .int .u8 0, .int .u8 0, .int .u8 0, .int .u8 0, .int .u8 0, .int .u8 0, .int .u8 0, .int .u8 0, .int .u8 0, .int .u8 0, .int .u8 0, .int .u8 0, .int .u8 0, .int .u8 0, .int .u8 0, .int .u8 0] := rfl
def coin (n f : Int) (a : Nat) : Off := ⟨n, f, Z32, a, Z32, 0⟩
theorem coin_lit : ∃ ZO : Array Value, (∀ w, (zeroValue 42).run Tryd.prog w = .ok (.agg ZO) w) ∧ ZO.size = 68 ∧ (∀ a : Nat, (coin 0 0 a).cells.toArray = ZO.setIfInBounds 34 (.int .u64 (a : Int))) ∧
  ∀ (n f : Int) (a : Nat), (coin n f a).cells.toArray = ((ZO.setIfInBounds 0 (.int .i64 n)).setIfInBounds 1 (.int .i64 f)).setIfInBounds 34 (.int .u64 (a : Int)) :=
 ⟨(coin 0 0 0).cells.toArray, fun w => by kernel_rfl, by kernel_rfl, fun a => rfl, fun n f a => rfl⟩
theorem coin_ok (n f : Int) (a : Nat) (h : a < 18446744073709551616) : (coin n f a).ok := ⟨z32_is, z32_is, h⟩
theorem nums_one (id : List Nat) (x : Nat) (h : x < 18446744073709551616) : Nums [(id, .int .u64 (x : Int))] := fun p hp => by
 rw [List.mem_singleton.1 hp]; exact ⟨x, rfl, h⟩

def h0 : Bk := ⟨[], [], [], 2, 2⟩
def h1 : Bk := ⟨[(Z32, .int .u64 ((10 : Nat) : Int))], [], [], 2, 2⟩
def h2 : Bk := ⟨[(Z32, .int .u64 ((2 : Nat) : Int))], [], [coin 0 0 8], 2, 2⟩
theorem h0_ok : h0.ok := ⟨fun p hp => (by cases hp), fun p hp => (by cases hp), fun o ho => (by cases ho), by decide⟩
theorem h1_ok : h1.ok := ⟨nums_one _ _ (by decide), fun p hp => (by cases hp), fun o ho => (by cases ho), by decide⟩
theorem h2_ok : h2.ok := ⟨nums_one _ _ (by decide), fun p hp => (by cases hp), fun o ho => (by rw [List.mem_singleton.1 ho]; exact coin_ok _ _ _ (by decide)), by decide⟩
theorem e01 : fundE h0 0 Z32 10 = 0 ∧ fundN h0 0 Z32 10 = h1 := ⟨by decide +kernel, by kernel_rfl⟩
theorem e11 : offE h1 (coin 0 0 9) = 51 ∧ offN h1 (coin 0 0 9) = h1 := ⟨by decide +kernel, by kernel_rfl⟩
theorem e12 : offE h1 (coin 0 0 8) = 0 ∧ offN h1 (coin 0 0 8) = h2 := ⟨by decide +kernel, by kernel_rfl⟩
theorem e22 : h2.has 0 Z32 = 2 ∧ (amounts h2 Z32).sum = 10 := ⟨by decide +kernel, by decide +kernel⟩

set_option maxRecDepth 100000 in
set_option maxHeartbeats 2000000 in
theorem head_is (w : World) : Calls Tryd.prog 4 #[] w fun e w' => e = .returned (.bool true) ∧ Below w.heap.size w w' := by
 have c0 := Lib.hid (live_new (Below.refl w.heap.size w) (Nat.le_refl _) 2 2)
 have c1 := Lib.hid (fun (g : Nat) (W : World) (h : Live w.heap.size w W g h0) => live_fund h (Nat.le_refl _) h0_ok 0 Z32 10 z32_is (by decide))
 have c2 := Lib.hid (fun (g : Nat) (W : World) (h : Live w.heap.size w W g h1) => live_offer h (Nat.le_refl _) h1_ok (coin 0 0 9) (coin_ok _ _ _ (by decide)))
 have c3 := Lib.hid (fun (g : Nat) (W : World) (h : Live w.heap.size w W g h1) => live_offer h (Nat.le_refl _) h1_ok (coin 0 0 8) (coin_ok _ _ _ (by decide)))
 have c4 := Lib.hid (fun (g : Nat) (W : World) (h : Live w.heap.size w W g h2) => live_has h (Nat.le_refl _) h2_ok 0 Z32 z32_is (.inl rfl))
 have c5 := Lib.hid (fun (g : Nat) (W : World) (h : Live w.heap.size w W g h2) => live_total h (Nat.le_refl _) h2_ok Z32 z32_is (by rw [e22.2]; decide))
 rw [e01.1, e01.2, zarr] at c1
 obtain ⟨ZO, hz, hzs, hl1, -⟩ := coin_lit
 rw [e11.1, e11.2, hl1] at c2
 rw [e12.1, e12.2, hl1] at c3
 clear hl1
 rw [e22.1, zarr] at c4
 rw [e22.2, zarr] at c5
 go_enter Tryd.func4, Tryd.ntmps4
 go_wp2_with fail
 refine c0.out.mono ?_
 rintro _ w1 ⟨g, rfl, l1⟩
 have L1 := Lib.hid l1
 clear l1
 go_wp2_with fail
 refine (c1.out _ _ L1.out).mono ?_
 rintro _ w2 ⟨rfl, l2⟩
 have L2 := Lib.hid l2
 clear l2
 go_wp2_with fail
 refine (c2.out _ _ L2.out).mono ?_
 rintro _ w3 ⟨rfl, l3⟩
 have L3 := Lib.hid l3
 clear l3
 go_wp2_with fail
 refine (c3.out _ _ L3.out).mono ?_
 rintro _ w4 ⟨rfl, l4⟩
 have L4 := Lib.hid l4
 clear l4
 go_wp2_with fail
 refine (c4.out _ _ L4.out).mono ?_
 rintro _ w5 ⟨rfl, l5⟩
 have L5 := Lib.hid l5
 clear l5
 go_wp2_with fail
 refine (c5.out _ _ L5.out).mono ?_
 rintro _ w6 ⟨rfl, l6⟩
 have L6 := Lib.hid l6
 clear l6
 go_wp2
 go_ret
 exact ⟨rfl, L6.out.below⟩
end Go.Proofs.YtcekammjpghjnaaDoor
/- Settle for a caller; an offer with a lock, as the laws build it. -/
namespace Go.Proofs.YtcekammjpghjnaaDoor
set_option linter.unusedVariables false
set_option linter.unusedSimpArgs false
open Go.ChangeShapes Go.WideShapes Go.ChangeAt Go.RowKit Go.Maps

def settleE (K s0 : List Wd) (b : Bk) (f n : Int) (sec : List Nat) : Int := if findI b.offers f n < 0 then 5 else if digest K s0 sec = (b.at (findI b.offers f n)).lock then 0 else 31
def settleN (K s0 : List Wd) (b : Bk) (f n : Int) (sec : List Nat) : Bk := if settleE K s0 b f n sec = 0 then giveB b (findI b.offers f n).toNat (1 - (b.at (findI b.offers f n)).frm) (b.at (findI b.offers f n)) else b
theorem find_cases (os : List Off) (f n : Int) : findI os f n = -1 ∨ ∃ (k : Nat) (o : Off), os[k]? = some o ∧ findI os f n = k := by
 by_cases hx : ∃ (k : Nat) (o : Off), os[k]? = some o ∧ (o.frm = f ∧ o.no = n) ∧ ∀ (j : Nat) (p : Off), j < k → os[j]? = some p → ¬ (p.frm = f ∧ p.no = n)
 · obtain ⟨k, o, hk, ho, hno⟩ := hx
   exact .inr ⟨k, o, hk, findI_at os f n k o hk ho hno⟩
 · refine .inl (findI_none os f n ?_)
   intro o ho hc
   obtain ⟨j, hj⟩ := List.getElem?_of_mem ho
   have : ∀ t : Nat, ∀ j o, j ≤ t → os[j]? = some o → ¬ (o.frm = f ∧ o.no = n) := by
    intro t
    induction t with
    | zero =>
     intro j o hj ho hc
     exact hx ⟨j, o, ho, hc, fun j' p hj' => absurd hj' (by omega)⟩
    | succ t ih =>
     intro j o hj ho hc
     exact hx ⟨j, o, ho, hc, fun j' p hj' hp => ih j' p (by omega) hp⟩
   exact this j j o (Nat.le_refl _) hj hc
section
variable {N : Nat} {w0 w : World} {g : Nat} {b : Bk}
end
end Go.Proofs.YtcekammjpghjnaaDoor
