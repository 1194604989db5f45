/- Digests of 32 bytes compared; structs compared field by field. -/
import Derived.Test.YtniakgoefkbkhaaDoorWs
import Derived.Test.YtniakgoefkbkhaaDoorVMap4
import Derived.Test.YtniakgoefkbkhaaDoorVMsum3
import Derived.Deep.CutBlock
import Derived.DeepKeys
import Derived.ChangeKeysEq
import Derived.Laws.StructEq
namespace Go.Proofs.YtniakgoefkbkhaaDoor
set_option linter.unusedVariables false
set_option linter.unusedSimpArgs false
open Go.ChangeShapes Go.WideShapes Go.ChangeAt Go.RowKit Go.Maps

theorem key_top {P : Program} {t n e : TypeId} (hu : P.underlying t = some (.array n e)) {v : Value} {l : Lit} (h : keyOf P t v = some l) : v.formed P t = true ∧ ∃ L, P.keyLits (P.types.size + 1) t v.cells.toList = some L ∧ l = .string (keyBytes L) := by
 unfold keyOf at h
 rw [hu] at h
 simp only at h
 split at h
 · rename_i hf
   simp only [Option.map_eq_some_iff] at h
   obtain ⟨L, h1, h2⟩ := h
   simp only [Bool.and_eq_true] at hf
   exact ⟨hf.2, L, h1, h2.symm⟩
 · cases h
theorem part_agg {P : Program} {t n e k : TypeId} (hu : P.underlying t = some (.array n e)) (hc : P.cellsOf t = k) (zs : Array Value) (off : Nat) (w : World) : (part t zs off).run P w = .ok (.agg (zs.extract off (off + k))) w := by
 obtain ⟨i, hi⟩ := info_of_underlying hu
 subst hc
 simp [part, isAgg, run_underlying hu, run_sizeOf w hi]
theorem hash_eq_at (d : Nat) (a b : List Nat) (ha : IsHash a) (hb : IsHash b) (w : World) : (Op.equalIn (d + 2) 39 (.agg (bcells a).toArray) (.agg (bcells b).toArray)).run Tryd.prog w = .ok (decide (a = b)) w := by
 obtain ⟨la, hla⟩ := key_some a ha
 obtain ⟨lb, hlb⟩ := key_some b hb
 obtain ⟨fa, La, ka, ea⟩ := key_top Tryd.underlying39 hla
 obtain ⟨fb, Lb, kb, eb⟩ := key_top Tryd.underlying39 hlb
 obtain ⟨r, hr, hiff⟩ := run_equalIn_deep (P := Tryd.prog) d 2 39 (by kernel_rfl) w _ _ (arr a) (arr b) La Lb fa fb ka kb
 have hab : La = Lb ↔ a = b := ⟨fun e => arr_inj (hashKey.inj hla (by rw [ea, e, ← eb]; exact hlb)), fun e => by
  subst e
  rw [ka] at kb
  exact Option.some.inj kb⟩
 have e : r = decide (a = b) := by
  by_cases hc : a = b
  · rw [decide_eq_true hc]; exact hiff.2 (hab.2 hc)
  · rw [decide_eq_false hc]
    cases r with
    | false => rfl
    | true => exact absurd (hab.1 (hiff.1 rfl)) hc
 rw [← e]; exact hr
theorem eqF_any {P : Program} {d : Nat} {xs ys : Array Value} {f : Field} {fs : List Field} {w : World} {va vb : Value} {r : Bool} (hn : f.name ≠ "_") (hx : (part f.type xs f.offset).run P w = .ok va w) (hy : (part f.type ys f.offset).run P w = .ok vb w)
  (he : (Op.equalIn d f.type va vb).run P w = .ok r w) : (Op.eqFields d xs ys (f :: fs)).run P w = if r = true then (Op.eqFields d xs ys fs).run P w else .ok false w := by
 simp only [Op.eqFields, if_pos hn, Sem.run_bind, hx, hy, he, Result.andThen_ok]
 cases r <;> simp
theorem eqF_nil {P : Program} {d : Nat} {xs ys : Array Value} {w : World} : (Op.eqFields d xs ys []).run P w = .ok true w := by simp [Op.eqFields]
theorem part_int {P : Program} {t : TypeId} {k : IntKind} (hu : P.underlying t = some (.int k)) {xs : Array Value} {off : Nat} {v : Value} (hx : xs[off]? = some v) (w : World) : (part t xs off).run P w = .ok v w :=
 run_part_plain w (by unfold Program.plainKey; rw [hu]) hx
theorem extract_list (l : List Value) (i n : Nat) : l.toArray.extract i (i + n) = ((l.drop i).take n).toArray := by
 apply Array.toList_inj.1
 rw [Array.toList_extract]
 simp [List.extract]
end Go.Proofs.YtniakgoefkbkhaaDoor

/- The reference's nodes compared: one is like itself. -/
namespace Go.Proofs.YtniakgoefkbkhaaDoor
set_option linter.unusedVariables false
set_option linter.unusedSimpArgs false
open Go.ChangeShapes Go.WideShapes Go.ChangeAt Go.RowKit Go.Maps

theorem mn_fields : ∃ f0 f1, (Tryd.prog.fieldsOf 79).toList = [f0, f1] ∧ (f0.name ≠ "_" ∧ f0.type = 39 ∧ f0.offset = 0) ∧ (f1.name ≠ "_" ∧ f1.type = 22 ∧ f1.offset = 32) := by
 unfold Program.fieldsOf
 rw [Tryd.underlying79]
 exact ⟨_, _, rfl, ⟨by decide, rfl, rfl⟩, ⟨by decide, rfl, rfl⟩⟩
theorem mn_struct : Tryd.prog.underlying 79 = some (.struct (Tryd.prog.fieldsOf 79)) := by
 unfold Program.fieldsOf
 rw [Tryd.underlying79]
end Go.Proofs.YtniakgoefkbkhaaDoor

