/- Plain words and laws that all texts of the seat use: the value of an array of bytes, how it is read off an argument. -/
import Derived.Test.YtngmpcmeebcdmaaDoorRows
import Derived.WalkKit
import Derived.ProofKit
import Derived.OpenShut
import Derived.ShutString
import Derived.ChangeOld
import Derived.Below
import Derived.Outline
import Derived.RegionTactic
import Derived.WalkLawsBesides
import Derived.WalkSpells
import Derived.BigQuiet
import Derived.Deep.QuietTactic
import Derived.Deep.Slices
import Derived.Laws.ShiftsVar
import Derived.Lib.Hide
import Derived.Lib.SmallJoins
namespace Go.Proofs.YtngmpcmeebcdmaaDoor
set_option linter.unusedVariables false
set_option linter.unusedSimpArgs false
open Go.ChangeShapes Go.WideShapes Go.ChangeAt Go.RowKit

theorem ret_int {k : IntKind} {a b : Int} (h : a = b) : Ending.returned (.int k a) = .returned (.int k b) := by rw [h]
theorem ret_bool {a b : Bool} (h : a = b) : Ending.returned (.bool a) = .returned (.bool b) := by rw [h]
theorem ret_val {a b : Value} (h : a = b) : Ending.returned a = .returned b := by rw [h]

/-- the cells of an array of bytes. -/
def bcells (ks : List Nat) : List Value := ks.map fun (n : Nat) => Value.int .u8 (n : Int)
/-- the value of an array of bytes. -/
def arr (ks : List Nat) : Value := .agg (bcells ks).toArray
/-- 32 bytes. -/
def IsHash (ks : List Nat) : Prop := ks.length = 32 ∧ ∀ k ∈ ks, k < 256

theorem bcells_length (ks : List Nat) : (bcells ks).length = ks.length := by simp [bcells]
theorem bcells_get (ks : List Nat) (i : Nat) (h : i < ks.length) : (bcells ks)[i]? = some (.int .u8 (ks.getD i 0 : Nat)) := by
  simp [bcells, h]
theorem cell_bcells {w : World} {ks : List Nat} {i : Nat} {t : TypeId} (h : i < ks.length) :
    (w.alloc (.cells (bcells ks).toArray t)).cell? ⟨w.heap.size, i, none⟩ = some (.int .u8 (ks.getD i 0 : Nat)) := by
  rw [World.cell?_alloc_new]; simpa using bcells_get ks i h

/-- the byte in a cell. -/
def u8Of : Value → Nat
  | .int _ n => n.toNat
  | _ => 0

theorem bytes_of_cells (l : List Value) (hl : l.length = 32) (hk : ∀ i, i < 32 → ∃ n : Nat, l[i]? = some (Value.int .u8 (n : Int)) ∧ n < 256) :
    l = bcells (l.map u8Of) ∧ IsHash (l.map u8Of) := by
  constructor
  · apply List.ext_getElem?
    intro i
    by_cases hi : i < 32
    · obtain ⟨n, hn, _⟩ := hk i hi
      simp [bcells, hn, u8Of]
    · rw [List.getElem?_eq_none (by omega), List.getElem?_eq_none (by simp [bcells]; omega)]
  · refine ⟨by simpa using hl, fun k hkm => ?_⟩
    obtain ⟨v, hv, rfl⟩ := List.mem_map.1 hkm
    obtain ⟨i, hi, rfl⟩ := List.getElem_of_mem hv
    obtain ⟨n, hn, hlt⟩ := hk i (by omega)
    rw [List.getElem?_eq_getElem hi] at hn
    rw [Option.some.inj hn]
    simpa [u8Of] using hlt

/-- an argument of type [32]byte, whatever its name. -/
theorem open_hash {H : Type} {enc : TypeId × Value → H} {P : Program} {w : World} {base base' : Nat} {spare : Nat → Bool} {held : Bool} {t e : TypeId} {v : Value} {d : DataW H} {p : List MemPlace} {r : Reach}
    (ht : P.underlying t = some (.array 32 e)) (he : P.underlying e = some (.int .u8)) (h1 : P.cellsOf e = 1) (h32 : P.cellsOf t = 32)
    (hv : Value.okWide P w r base' t v) (h : DataW.Trod enc P w base spare held t v d p) : ∃ ks, v = arr ks ∧ IsHash ks := by
  unfold Value.okWide at hv
  rw [ht] at hv
  obtain ⟨cs, rfl, hs, _⟩ := hv
  obtain ⟨fuel, hf⟩ := h
  have hf' : DataW.trod enc P w base spare held fuel t cs.toList = some (d, p) := by simpa [Value.cells] using hf
  obtain ⟨xs, m, _, hx, hlen, hn, hall⟩ := DataW.trod_array ht hf'
  rw [h32] at hlen
  obtain ⟨e1, e2⟩ := bytes_of_cells cs.toList hlen (by
    intro i hi
    have := hall i hi
    rw [h1, Nat.mul_one, List.getElem?_eq_getElem (by omega)] at this
    obtain ⟨n, hn1, _, hw⟩ := DataW.trod_int he this
    rw [List.drop_eq_getElem_cons (by omega)] at hn1
    simp only [List.take_succ_cons, List.take_zero, List.cons.injEq, and_true] at hn1
    have hb := bounds_u8 hw
    refine ⟨n.toNat, ?_, by omega⟩
    rw [List.getElem?_eq_getElem (by omega), hn1, Int.toNat_of_nonneg hb.1])
  exact ⟨cs.toList.map u8Of, by unfold arr; rw [← e1], e2⟩
end Go.Proofs.YtngmpcmeebcdmaaDoor
