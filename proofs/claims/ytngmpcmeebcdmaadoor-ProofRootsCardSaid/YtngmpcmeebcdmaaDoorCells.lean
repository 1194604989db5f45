/- A block of which some cells are stored anew. -/
import Derived.Test.YtngmpcmeebcdmaaDoorMem
import Derived.Deep.MidRow
import Derived.Test.YtngmpcmeebcdmaaDoorStill
namespace Go.Proofs.YtngmpcmeebcdmaaDoor
set_option linter.unusedVariables false
set_option linter.unusedSimpArgs false
open Go.ChangeShapes Go.WideShapes Go.ChangeAt Go.RowKit

theorem Has.setCells {g : Nat} {t : TypeId} : ∀ (vs : List Value) (o : Nat) (w : World) (cur : Array Value), Has w g t cur →
    ∃ cur', Has (w.setCells g o vs) g t cur' ∧ cur'.size = cur.size ∧ (∀ j, j < cur.size → cur'[j]? = if o ≤ j ∧ j < o + vs.length then vs[j - o]? else cur[j]?) ∧ Kept (fun k => k = g) w (w.setCells g o vs)
  | [], o, w, cur, h => ⟨cur, h, rfl, fun j _ => by rw [if_neg (by simp)], Kept.refl _ _⟩
  | v :: vs, o, w, cur, h => by
    obtain ⟨cur', h1, h2, h3, h4⟩ := Has.setCells vs (o + 1) _ _ (h.set o v)
    refine ⟨cur', h1, by rw [h2]; simp, fun j hj => ?_, ((Kept.refl (fun k => k = g) w).set (p := ⟨g, o, none⟩) (.inl rfl) v).trans h4⟩
    rw [h3 j (by simpa using hj)]
    by_cases e : j = o
    · subst e
      rw [if_neg (by omega), if_pos (by simp), Nat.sub_self, Array.getElem?_setIfInBounds_self_of_lt hj]
      rfl
    · by_cases e2 : o + 1 ≤ j ∧ j < o + 1 + vs.length
      · rw [if_pos e2, if_pos (by simp; omega), show j - o = (j - (o + 1)) + 1 by omega, List.getElem?_cons_succ]
      · rw [if_neg e2, if_neg (by simp only [List.length_cons]; omega), Array.getElem?_setIfInBounds_ne (by omega)]

/-- a store of a whole array or struct, as a step of a region that draws. -/
theorem step_store_mid {P : Program} {ops : Array Oper} {op : Oper} {a : Act} {w : World} {K : Act → World → Prop} {Q : Exit → Act → World → Prop} (hw : Region.wanted op (yielded ops a.tmps) = true) (ty : TypeId) (x y : Operand) (ho : op.op = .store ty x y)
    (b o : Nat) (cells : Array Value) (hx : a.eval x = .pointer (some ⟨b, o, none⟩)) (hy : a.eval y = .agg cells)
    (ht : w.there b o cells.size) (hi : (P.info? ty).map (·.size) = some cells.size) (h1 : cells.all (·.oneCell') = true)
    (h : K (a.put op.dst undef) (w.setCells b o cells.toList)) : if Region.wanted op (yielded ops a.tmps) = true then Oper.wp P op a w K Q else K (a.put op.dst undef) w := by
  rw [if_pos hw]
  exact wp_store_mid ty x y ho b o cells hx hy ht hi h1 h
theorem Has.row0 {w : World} {g : Nat} {t : TypeId} {L : List Value} (h : Has w g t L.toArray) : w.rangeAt g 0 L := fun j u hu => by
  rw [Nat.zero_add]
  exact h.cell_is (by rw [List.getElem?_toArray]; exact hu)
theorem Has.there {w : World} {g : Nat} {t : TypeId} {cs : Array Value} (h : Has w g t cs) (o n : Nat) (hn : o + n ≤ cs.size) : w.there g o n := fun j hj => ⟨by rw [h.cell, Array.getElem?_eq_getElem (by omega)]; rfl, h.free _⟩
/-- a guarded load of a whole array or struct, the guard met. -/
theorem wpList_load_midG {P : Program} {ops : Array Oper} {rest : List Oper} {op : Oper} {a : Act} {w : World} {Q : Exit → Act → World → Prop} (hw : Region.wanted op (yielded ops a.tmps) = true) (ty : TypeId) (x : Operand) (ho : op.op = .load ty x)
    (b o : Nat) (hx : a.eval x = .pointer (some ⟨b, o, none⟩)) (cs : List Value) (d : TypeDesc) (hc : w.rangeAt b o cs)
    (hu : P.underlying ty = some d) (hd : d.isRow = true) (hi : (P.info? ty).map (·.size) = some cs.length)
    (h : wpList P ops Q rest (a.put op.dst (.agg cs.toArray)) w) : wpList P ops Q (op :: rest) a w :=
  BigFrame.wpList_want hw fun _ hK => wp_load_mid ty x ho b o hx cs d hc hu hd hi (hK _ _ h)
end Go.Proofs.YtngmpcmeebcdmaaDoor
