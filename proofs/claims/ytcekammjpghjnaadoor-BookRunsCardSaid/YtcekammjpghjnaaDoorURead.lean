/- How slices of structs among the arguments are read. -/
import Derived.Test.YtcekammjpghjnaaDoorWs
import Derived.Test.YtcekammjpghjnaaDoorUMem
import Derived.Deep.Slices
namespace Go.Proofs.YtcekammjpghjnaaDoor
set_option linter.unusedVariables false
set_option linter.unusedSimpArgs false
open Go.ChangeShapes Go.WideShapes Go.ChangeAt Go.RowKit
theorem mapM_cells {w : World} {a : Addr} {k : Nat} {cs : List Value} (h : (List.range k).mapM (fun i => w.cell? (a.add i)) = some cs) : cs.length = k ∧ ∀ j, j < k → w.cell? (a.add j) = cs[j]? := by
 refine ⟨by simpa using mapM_some_length h, fun j hj => ?_⟩
 have := mapM_some_get h j j (by simp [hj])
 exact this
theorem open_rows {H : Type} {enc : TypeId × Value → H} {P : Program} {w : World} {base : Nat} {spare : Nat → Bool} {held : Bool} {t e k : Nat} {A : Option Addr} {n c : Nat} {d : DataW H} {p : List MemPlace}
   (ht : P.underlying t = some (.slice e)) (hk : P.cellsOf e = k) (hk0 : 0 < k) (h : DataW.Trod enc P w base spare held t (.slice A n c) d p) :
   n ≤ maxLen ∧ ∃ b off, (0 < n → A = some ⟨b, off, none⟩) ∧ ∀ i, i < n → ∃ cs m x, cs.length = k ∧ (∀ j, j < k → w.cell? ⟨b, off + i * k + j, none⟩ = cs[j]?) ∧ DataW.trod enc P w base spare held m e cs = some x := by
 obtain ⟨fuel, hf⟩ := h
 have hf' : DataW.trod enc P w base spare held fuel t [.slice A n c] = some (d, p) := by simpa [Value.cells] using hf
 rcases Deep.open_slice ht hf' with ⟨h1, _⟩ | ⟨a, len, cap, m, fu, D, Pl, h1, hb, hl, hm, hmm, _, hall⟩
 · simp at h1
   obtain ⟨rfl, rfl, rfl⟩ := h1
   exact ⟨by simp [maxLen], 0, 0, fun h => absurd h (by omega), fun i hi => absurd hi (by omega)⟩
 · simp at h1
   obtain ⟨rfl, rfl, rfl⟩ := h1
   rw [hk] at hall
   have hnm : n ≤ m := by rw [hmm]; split <;> omega
   have key : ∀ i, i < n → ∃ cs, cs.length = k ∧ (∀ j, j < k → w.cell? ((a.add (i * k)).add j) = cs[j]?) ∧ DataW.trod enc P w base spare held fu e cs = some (D i, Pl i) := by
     intro i hi
     obtain ⟨cs, hc, htr⟩ := hall i (by omega)
     unfold World.cells? at hc
     split at hc
     · obtain ⟨x, y⟩ := mapM_cells hc
       exact ⟨cs, x, y, htr⟩
     · cases hc
   refine ⟨by omega, a.block, a.off, fun hn => ?_, fun i hi => ?_⟩
   · obtain ⟨cs, hl1, hc1, _⟩ := key 0 hn
     have h0 := hc1 0 hk0
     have e0 : (a.add (0 * k)).add 0 = a := by simp [Addr.add]
     rw [e0, List.getElem?_eq_getElem (by omega)] at h0
     have : a.spot = none := by
       unfold World.cell? at h0
       split at h0
       · split at h0
         · cases h0
         · rename_i hs
           cases hsp : a.spot
           · rfl
           · rw [hsp] at hs; simp at hs
       · cases h0
     cases a
     simp at this
     simp [this]
   · obtain ⟨cs, hl1, hc1, htr⟩ := key i hi
     refine ⟨cs, fu, _, hl1, fun j hj => ?_, htr⟩
     rw [← hc1 j hj]
     obtain ⟨cs0, hl0, hc0, _⟩ := key 0 (by omega)
     have h0 := hc0 0 hk0
     have e0 : (a.add (0 * k)).add 0 = a := by simp [Addr.add]
     rw [e0, List.getElem?_eq_getElem (by omega)] at h0
     have : a.spot = none := by
       unfold World.cell? at h0
       split at h0
       · split at h0
         · cases h0
         · rename_i hs
           cases hsp : a.spot
           · rfl
           · rw [hsp] at hs; simp at hs
       · cases h0
     congr 1
     cases a
     simp at this
     subst this
     unfold Addr.add
     by_cases h1 : i * k = 0 <;> by_cases h2 : j = 0 <;> simp [h1, h2, Nat.add_assoc]
section
variable {H : Type} {enc : TypeId × Value → H} {P : Program} {w : World} {base : Nat} {spare : Nat → Bool} {held : Bool} {t e m : Nat} {cs : List Value} {y : Option (DataW H × List MemPlace)}
theorem take_one (cs : List Value) (i : Nat) (h : i < cs.length) : (cs.drop i).take 1 = [cs[i]] := by
 rw [List.drop_eq_getElem_cons h, List.take_succ_cons, List.take_zero]
end
end Go.Proofs.YtcekammjpghjnaaDoor

