/- Leaves of layer 7, as they come in: by value, and in a row. -/
import Derived.Test.YtniakgoefkbkhaaGreatDoorWs
import Derived.Test.YtniakgoefkbkhaaGreatDoorWLf4
import Derived.Test.YtniakgoefkbkhaaGreatDoorWOpenR
import Derived.Test.YtniakgoefkbkhaaGreatDoorWKs
import Derived.Test.YtniakgoefkbkhaaGreatDoorWLb4
namespace Go.Proofs.YtniakgoefkbkhaaGreatDoor
set_option linter.unusedVariables false
set_option linter.unusedSimpArgs false
open Go.ChangeShapes Go.WideShapes Go.ChangeAt Go.RowKit Go.Maps

section
variable {H : Type} {enc : TypeId × Value → H} {w : World} {base : Nat} {spare : Nat → Bool} {held : Bool}
set_option maxRecDepth 100000 in
theorem open_lf {m : Nat} {cs : List Value} {y : Option (DataW H × List MemPlace)} (h : DataW.trod enc Tryz.prog w base spare held m 41 cs = y) (hy : y.isSome = true) (hl : cs.length = 99) : ∃ l : LeafT, cs = l.cells ∧ l.ok := by
 obtain ⟨z, rfl⟩ := Option.isSome_iff_exists.1 hy
 obtain ⟨xs, m2, _, _, _, hn, hf⟩ := DataW.trod_struct Tryz.underlying41 h
 have hn2 : xs.length = 5 := hn
 have hsome : ∀ j, j < 5 → (xs[j]?).isSome = true := fun j hj => by rw [List.getElem?_eq_getElem (by omega)]; rfl
 obtain ⟨k0, e0, w0⟩ := hash_cut (i := 0) Tryz.underlying25 Tryz.underlying5 (by kernel_rfl) (by kernel_rfl) (hf 0 _ rfl) (hsome 0 (by decide))
 obtain ⟨a1, e1, w1⟩ := int_cut (i := 32) Tryz.underlying37 (by kernel_rfl) (hf 1 _ rfl) (hsome 1 (by decide))
 obtain ⟨k2, e2, w2⟩ := hash_cut (i := 33) Tryz.underlying25 Tryz.underlying5 (by kernel_rfl) (by kernel_rfl) (hf 2 _ rfl) (hsome 2 (by decide))
 obtain ⟨a3, e3, w3⟩ := int_cut (i := 65) Tryz.underlying3 (by kernel_rfl) (hf 3 _ rfl) (hsome 3 (by decide))
 have h4 := hf 4 _ rfl
 have hc4 : Tryz.prog.cellsOf 39 = 33 := by kernel_rfl
 obtain ⟨k4, s4, e4, w4, v4⟩ := open_node (cs := (cs.drop 66).take 33) (by rw [← hc4]; exact h4) (hsome 4 (by decide)) (by rw [List.length_take, List.length_drop]; omega)
 have q1 := bounds_u64 w1
 have q3 := bounds_i64 w3
 refine ⟨⟨k0, a1.toNat, k2, a3, ⟨k4, s4⟩⟩, ?_, ⟨w0, by show a1.toNat < _; omega, w2, by show _ ≤ a3; omega, by show a3 ≤ _; omega, w4, v4⟩⟩
 have f0 := cut_list cs 0 32
 have f1 := cut_list cs 32 1
 have f2 := cut_list cs 33 32
 have f3 := cut_list cs 65 1
 have f4 := cut_list cs 66 33
 have f5 : cs.drop 99 = [] := List.drop_eq_nil_of_le (by omega)
 simp only [Nat.reduceAdd] at f0 f1 f2 f3 f4
 rw [e4, f5, List.append_nil] at f4
 rw [e3, f4] at f3
 rw [e2, f3] at f2
 rw [e1, f2] at f1
 rw [e0, f1, List.drop_zero] at f0
 rw [f0]
 unfold LeafT.cells ndV
 rw [show ((a1.toNat : Nat) : Int) = a1 from Int.toNat_of_nonneg (by omega)]
 rfl
set_option maxRecDepth 100000 in
/-- a leaf by value. -/
theorem open_lfV {base' : Nat} {r : Reach} {v : Value} {d : DataW H} {p : List MemPlace} (hv : Value.okWide Tryz.prog w r base' 41 v) (h : DataW.Trod enc Tryz.prog w base spare held 41 v d p) : ∃ l : LeafT, v = .agg l.cells.toArray ∧ l.ok := by
 obtain ⟨cs, rfl, hs⟩ := okWide_struct Tryz.underlying41 hv
 obtain ⟨fuel, hf⟩ := h
 have hf' : DataW.trod enc Tryz.prog w base spare held fuel 41 cs.toList = some (d, p) := by simpa [Value.cells] using hf
 have hc : Tryz.prog.cellsOf 41 = 99 := by kernel_rfl
 have hl : cs.toList.length = 99 := by rw [Array.length_toList, hs, hc]
 obtain ⟨o, ho, hok⟩ := open_lf hf' rfl hl
 exact ⟨o, by rw [← ho], hok⟩
end
end Go.Proofs.YtniakgoefkbkhaaGreatDoor
/- What the three listed variables give: the tables of the digest, and the sizes of a leaf's records. -/
namespace Go.Proofs.YtniakgoefkbkhaaGreatDoor
set_option linter.unusedVariables false
set_option linter.unusedSimpArgs false
open Go.ChangeShapes Go.WideShapes Go.ChangeAt Go.RowKit

def laid3 : List (String × DataW Unit) := [("moneyer/sha.start", Rows.laid_moneyer_sha_start), ("moneyer/sha.rounds", Rows.laid_moneyer_sha_rounds), ("moneyer/leaf.sizes", Rows.laid_moneyer_leaf_sizes)]
theorem gSizes : Tryz.prog.globalNamed "moneyer/leaf.sizes" = some 0 := by kernel_rfl
theorem tSizes : (Tryz.prog.globals[0]?).map (·.type) = some 125 := by kernel_rfl
theorem door_met3 (os : Os) (args : Array Value) : laidMetH Tryz.prog laid3 ((World.doorLaid Tryz.prog 4000 os).forCall (fun _ _ => 0) ⟨#[], args, []⟩).memory :=
 laidMetH_of_parts3 (fuel := 8) (laidMet_of_run' 8 (by kernel_rfl) (by kernel_rfl)) (by kernel_rfl) (by kernel_rfl)
theorem ints_at {H : Type} {enc : TypeId × Value → H} {P : Program} {w : World} {base : Nat} {spare : Nat → Bool} {held : Bool} {T e : TypeId} {n fuel : Nat} {cs : List Value} {d : DataW H} {p : List MemPlace} (l : List Nat)
  (ht : P.underlying T = some (.array n e)) (he : P.underlying e = some (.int .i64)) (h1 : P.cellsOf e = 1) (hT : P.cellsOf T = n) (hf : DataW.trod enc P w base spare held fuel T cs = some (d, p))
  (hd : d = .agg (l.map fun (k : Nat) => .lit (.int .i64 (k : Int)))) : ∀ i, i < n → cs[i]? = some (.int .i64 ((l.getD i 0 : Nat) : Int)) := by
 obtain ⟨xs, m, _, hx, hlen, hn, hall⟩ := DataW.trod_array ht hf
 rw [hT] at hlen
 subst hd
 have e3 : (xs.map (·.1)) = l.map fun (k : Nat) => (.lit (.int .i64 (k : Int)) : DataW H) := (DataW.agg.inj (Prod.mk.inj hx).1).symm
 have hll : l.length = n := by
  have := congrArg List.length e3
  simpa [hn] using this.symm
 intro i hi
 have hE := hall i hi
 rw [h1, Nat.mul_one, List.getElem?_eq_getElem (by omega)] at hE
 obtain ⟨k, hk1, e2, hw⟩ := DataW.trod_int he hE
 rw [List.drop_eq_getElem_cons (by omega)] at hk1
 simp only [List.take_succ_cons, List.take_zero, List.cons.injEq, and_true] at hk1
 have e4 : (xs.map (·.1))[i]? = (l.map fun (k : Nat) => (.lit (.int .i64 (k : Int)) : DataW H))[i]? := by rw [e3]
 rw [List.getElem?_map, List.getElem?_map, List.getElem?_eq_getElem (by omega : i < xs.length), List.getElem?_eq_getElem (by omega : i < l.length), e2] at e4
 simp only [Option.map_some, Option.some.injEq, DataW.lit.injEq, Lit.int.injEq, true_and] at e4
 rw [List.getElem?_eq_getElem (by omega), hk1, e4, List.getD_eq_getElem?_getD, List.getElem?_eq_getElem (by omega)]
 rfl
theorem of_laid3 {W : World} (h : laidMetH Tryz.prog laid3 W) : Tabs KS SS W ∧ SzAt W := by
 rw [MakeChecks.laidMetH_plain _ _ _ (by kernel_rfl)] at h
 obtain ⟨ps, ⟨g0, t0, cs0, f0, p0, q0, hg0, ht0, hv0, hd0, ⟨g1, t1, cs1, f1, p1, q1, hg1, ht1, hv1, hd1, ⟨g2, t2, cs2, f2, p2, q2, hg2, ht2, hv2, hd2, _, _⟩, _⟩, _⟩, _, _⟩ := h
 obtain rfl := Option.some.inj (gStart.symm.trans hg0)
 obtain rfl := Option.some.inj (gRounds.symm.trans hg1)
 obtain rfl := Option.some.inj (gSizes.symm.trans hg2)
 obtain rfl := Option.some.inj (tStart.symm.trans ht0)
 obtain rfl := Option.some.inj (tRounds.symm.trans ht1)
 obtain rfl := Option.some.inj (tSizes.symm.trans ht2)
 have hsc := words_at ss8 Tryz.underlying69 Tryz.underlying68 (by kernel_rfl) (by kernel_rfl) hd0 (by rfl)
 have hkc := words_at ks64 Tryz.underlying70 Tryz.underlying68 (by kernel_rfl) (by kernel_rfl) hd1 (by rfl)
 have hzc := ints_at [32, 8, 32, 1, 40] Tryz.underlying125 Tryz.underlying3 (by kernel_rfl) (by kernel_rfl) hd2 (by rfl)
 have c0 : ∀ i, i < 8 → W.cell? ⟨1, i, none⟩ = some (.int .u32 ((SS.getD i 0).toNat : Int)) := fun i hi => by
  rw [World.var?_cell hg0 hv0 i, ss_nat i hi]; simpa using hsc i hi
 have c1 : ∀ i, i < 64 → W.cell? ⟨2, i, none⟩ = some (.int .u32 ((KS.getD i 0).toNat : Int)) := fun i hi => by
  rw [World.var?_cell hg1 hv1 i, ks_nat i hi]; simpa using hkc i hi
 have c2 : ∀ i, i < 5 → W.cell? ⟨0, i, none⟩ = some (.int .i64 (([32, 8, 32, 1, 40].getD i 0 : Nat) : Int)) := fun i hi => by
  rw [World.var?_cell hg2 hv2 i]; simpa using hzc i hi
 have a0 := World.block_lt_of_cell? W _ (c0 0 (by decide))
 have a1 := World.block_lt_of_cell? W _ (c1 0 (by decide))
 have a2 := World.block_lt_of_cell? W _ (c2 0 (by decide))
 dsimp only at a0 a1 a2
 exact ⟨⟨c1, c0, by omega, ss_len⟩, ⟨c2, a2⟩⟩
end Go.Proofs.YtniakgoefkbkhaaGreatDoor
