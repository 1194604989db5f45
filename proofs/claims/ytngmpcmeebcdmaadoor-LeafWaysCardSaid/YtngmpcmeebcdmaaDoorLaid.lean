/- What the listed variables give: the two tables of the digest hold 64 and 8 words. -/
import Derived.Test.YtngmpcmeebcdmaaDoorSha7
import Derived.LaidMore
import Derived.Stop.Joined
namespace Go.Proofs.YtngmpcmeebcdmaaDoor
set_option linter.unusedVariables false
set_option linter.unusedSimpArgs false
open Go.ChangeShapes Go.WideShapes Go.ChangeAt Go.RowKit

/-- the word in a cell. -/
def wordOf : Option Value → Wd
  | some (Value.int _ k) => BitVec.ofInt 32 k
  | _ => 0
theorem words_of {H : Type} {enc : TypeId × Value → H} {P : Program} {w : World} {base : Nat} {spare : Nat → Bool} {held : Bool} {T e : TypeId} {n fuel : Nat} {cs : List Value} {d : DataW H} {p : List MemPlace}
    (ht : P.underlying T = some (.array n e)) (he : P.underlying e = some (.int .u32)) (h1 : P.cellsOf e = 1) (hT : P.cellsOf T = n) (hf : DataW.trod enc P w base spare held fuel T cs = some (d, p)) :
    ∃ ws : List Wd, ws.length = n ∧ ∀ i, i < n → cs[i]? = some (.int .u32 ((ws.getD i 0).toNat : Int)) := by
  obtain ⟨xs, m, _, hx, hlen, hn, hall⟩ := DataW.trod_array ht hf
  rw [hT] at hlen
  have key : ∀ i, i < n → ∃ k : Wd, cs[i]? = some (.int .u32 (k.toNat : Int)) := fun i hi => by
    have := hall i hi
    rw [h1, Nat.mul_one, List.getElem?_eq_getElem (by omega)] at this
    obtain ⟨k, hk1, _, hw⟩ := DataW.trod_int he this
    rw [List.drop_eq_getElem_cons (by omega)] at hk1
    simp only [List.take_succ_cons, List.take_zero, List.cons.injEq, and_true] at hk1
    have hb : 0 ≤ k ∧ k ≤ 4294967295 := by
      exact bounds_u32 hw
    refine ⟨BitVec.ofNat 32 k.toNat, ?_⟩
    rw [List.getElem?_eq_getElem (by omega), hk1]
    congr 2
    rw [BitVec.toNat_ofNat, Nat.mod_eq_of_lt (by omega)]
    omega
  refine ⟨(List.range n).map fun i => wordOf cs[i]?, by simp, fun i hi => ?_⟩
  obtain ⟨k, hk⟩ := key i hi
  rw [hk]
  congr 3
  rw [List.getD_eq_getElem?_getD, List.getElem?_map, List.getElem?_range hi]
  simp only [Option.map_some, Option.getD_some, hk, wordOf]
  rw [BitVec.ofInt_natCast]
  simp

/-- the two listed variables. -/
def laid2 : List (String × DataW Unit) := [("moneyer/sha.start", Rows.laid_moneyer_sha_start), ("moneyer/sha.rounds", Rows.laid_moneyer_sha_rounds)]
theorem own : ownKnob Tryd.prog.godebug = none := by kernel_rfl
theorem laidOut : laidOutB Tryd.prog = true := by kernel_rfl
theorem gStart : Tryd.prog.globalNamed "moneyer/sha.start" = some 1 := by kernel_rfl
theorem gRounds : Tryd.prog.globalNamed "moneyer/sha.rounds" = some 2 := by kernel_rfl
theorem tStart : (Tryd.prog.globals[1]?).map (·.type) = some 66 := by kernel_rfl
theorem tRounds : (Tryd.prog.globals[2]?).map (·.type) = some 67 := by kernel_rfl
/-- The door's own heap meets the condition. -/
theorem door_met (os : Os) (args : Array Value) : laidMetH Tryd.prog laid2 ((World.doorLaid Tryd.prog 4000 os).forCall (fun _ _ => 0) ⟨#[], args, []⟩).memory :=
  laidMetH_of_parts3 (fuel := 8) (laidMet_of_run' 8 (by kernel_rfl) (by kernel_rfl)) (by kernel_rfl) (by kernel_rfl)
theorem of_laid {W : World} (h : laidMetH Tryd.prog laid2 W) : ∃ K s0, Tabs K s0 W := by
  rw [MakeChecks.laidMetH_plain _ _ _ (by kernel_rfl)] at h
  obtain ⟨ps, ⟨g0, t0, cs0, f0, p0, q0, hg0, ht0, hv0, hd0, ⟨g1, t1, cs1, f1, p1, q1, hg1, ht1, hv1, hd1, _, _⟩, _⟩, _, _⟩ := h
  obtain rfl := Option.some.inj (gStart.symm.trans hg0)
  obtain rfl := Option.some.inj (gRounds.symm.trans hg1)
  obtain rfl := Option.some.inj (tStart.symm.trans ht0)
  obtain rfl := Option.some.inj (tRounds.symm.trans ht1)
  obtain ⟨s0, hs, hsc⟩ := words_of Tryd.underlying66 Tryd.underlying65 (by kernel_rfl) (by kernel_rfl) hd0
  obtain ⟨K, hk, hkc⟩ := words_of Tryd.underlying67 Tryd.underlying65 (by kernel_rfl) (by kernel_rfl) hd1
  have c0 : ∀ i, i < 8 → W.cell? ⟨1, i, none⟩ = some (.int .u32 ((s0.getD i 0).toNat : Int)) := fun i hi => by
    rw [World.var?_cell hg0 hv0 i]; simpa using hsc i hi
  have c1 : ∀ i, i < 64 → W.cell? ⟨2, i, none⟩ = some (.int .u32 ((K.getD i 0).toNat : Int)) := fun i hi => by
    rw [World.var?_cell hg1 hv1 i]; simpa using hkc i hi
  refine ⟨K, s0, c1, c0, ?_, hs⟩
  have a0 := World.block_lt_of_cell? W _ (c0 0 (by decide))
  have a1 := World.block_lt_of_cell? W _ (c1 0 (by decide))
  dsimp only at a0 a1
  omega
end Go.Proofs.YtngmpcmeebcdmaaDoor
