/- What a step does to a book and to what there is; the law's arguments. -/
import Derived.Test.YtnddejgglbdkmaaDoorBook23
import Derived.Test.YtnddejgglbdkmaaDoorMap4
import Derived.Test.YtnddejgglbdkmaaDoorLaid
namespace Go.Proofs.YtnddejgglbdkmaaDoor
set_option linter.unusedVariables false
set_option linter.unusedSimpArgs false
open Go.ChangeShapes Go.WideShapes Go.ChangeAt Go.RowKit Go.Maps

def stepB (K s0 : List Wd) (b : Bk) (s : Stp) : Bk :=
  if s.K = 0 then fundN b s.side s.id s.n else if s.K = 1 then offN b (s.offer K s0) else if s.K = 2 then settleN K s0 b s.side s.no s.sec else if s.K = 3 then backN b s.side s.no else b
theorem step_tidy (K s0 : List Wd) (hl : s0.length = 8) {b : Bk} (h : Tidy b) {s : Stp} (hs : s.ok) : Tidy (stepB K s0 b s) := by
  unfold stepB
  split
  · exact fund_tidy h _ _ _
  · split
    · exact offer_tidy h _ (stp_offer_ok K s0 hl s hs)
    · split
      · exact (settle_tidy h K s0 _ _ _).1
      · split
        · exact (back_tidy h _ _).1
        · exact h
theorem step_tot (K s0 : List Wd) {b : Bk} (h : Tidy b) (s : Stp) (hk : s.K ≠ 0) (x : List Nat) : tot (stepB K s0 b s) x = tot b x := by
  unfold stepB
  rw [if_neg hk]
  split
  · exact offer_tot h _ x
  · split
    · exact (settle_tidy h K s0 _ _ _).2 x
    · split
      · exact (back_tidy h _ _).2 x
      · rfl
/-- a list of what there is of each asset. -/
structure AllIs (la : List Ent) (b : Bk) : Prop where
  nums : Nums la
  nodup : (la.map (·.1)).Nodup
  val : ∀ id, numOf (look la id) = tot b id
def stepA (la : List Ent) (b : Bk) (s : Stp) : List Ent := if s.K = 0 ∧ fundE b s.side s.id s.n = 0 then addL la s.id s.n else la
theorem step_all (K s0 : List Wd) {b : Bk} (h : Tidy b) {la : List Ent} (ha : AllIs la b) {s : Stp} : AllIs (stepA la b s) (stepB K s0 b s) := by
  unfold stepA
  by_cases hk : s.K = 0
  · have e : stepB K s0 b s = fundN b s.side s.id s.n := by unfold stepB; rw [if_pos hk]
    rw [e]
    by_cases hf : fundE b s.side s.id s.n = 0
    · rw [if_pos ⟨hk, hf⟩]
      have hlt : numOf (look la s.id) + s.n < 18446744073709551616 := by
        rcases fundE_cases b s.side s.id s.n with ⟨_, _, _, hs⟩ | he
        · rw [ha.val]; exact hs
        · exact absurd hf he
      refine ⟨fun p hp => ?_, nodup_putL ha.nodup, fun x => ?_⟩
      · rcases mem_putL p hp with e | e
        · exact ha.nums p e
        · rw [e]; exact ⟨_, rfl, hlt⟩
      · rw [num_addL, fund_tot, ha.val, ha.val]
        by_cases hx : x = s.id
        · rw [if_pos hx, if_pos ⟨hf, hx⟩, hx]
        · rw [if_neg hx, if_neg (fun e => hx e.2)]
    · rw [if_neg (fun e => hf e.2)]
      exact ⟨ha.nums, ha.nodup, fun x => by rw [fund_tot, if_neg (fun e => hf e.1), ha.val]⟩
  · rw [if_neg (fun e => hk e.1)]
    exact ⟨ha.nums, ha.nodup, fun x => by rw [step_tot K s0 h s hk, ha.val]⟩
theorem ent_look {l : List Ent} (hd : (l.map (·.1)).Nodup) {k : List Nat} {v : Value} (h : (k, v) ∈ l) : look l k = some v := by
  obtain ⟨j, hj⟩ := List.getElem?_of_mem h
  exact look_at hj hd
theorem AllIs.ent {la : List Ent} {b : Bk} (h : AllIs la b) {k : List Nat} {v : Value} (hm : (k, v) ∈ la) : v = .int .u64 (tot b k : Int) := by
  have h1 := ent_look h.nodup hm
  obtain ⟨n, hn, _⟩ := h.nums _ hm
  have hn' : v = .int .u64 (n : Int) := hn
  have h2 := h.val k
  rw [h1, hn', num_int] at h2
  rw [hn', h2]

/-- two numbers by value. -/
theorem open_two {H : Type} {enc : TypeId × Value → H} {P : Program} {w : World} {base base' : Nat} {spare : Nat → Bool} {held : Bool} {t e : TypeId} {v : Value} {d : DataW H} {p : List MemPlace} {r : Reach}
    (ht : P.underlying t = some (.array 2 e)) (he : P.underlying e = some (.int .u64)) (h1 : P.cellsOf e = 1) (h2 : P.cellsOf t = 2)
    (hv : Value.okWide P w r base' t v) (h : DataW.Trod enc P w base spare held t v d p) : ∃ a b : Nat, v = .agg #[.int .u64 (a : Int), .int .u64 (b : Int)] ∧ a < 18446744073709551616 ∧ b < 18446744073709551616 := by
  unfold Value.okWide at hv
  rw [ht] at hv
  obtain ⟨cs, rfl, hs, _⟩ := hv
  obtain ⟨fuel, hf⟩ := h
  have hf' : DataW.trod enc P w base spare held fuel t cs.toList = some (d, p) := by simpa [Value.cells] using hf
  obtain ⟨xs, m, _, hx, hlen, hn, hall⟩ := DataW.trod_array ht hf'
  rw [h2] at hlen
  have key : ∀ i, i < 2 → ∃ n : Nat, cs.toList[i]? = some (.int .u64 (n : Int)) ∧ n < 18446744073709551616 := fun i hi => by
    have := hall i hi
    rw [h1, Nat.mul_one, List.getElem?_eq_getElem (by omega)] at this
    obtain ⟨n, hn1, _, hw⟩ := DataW.trod_int he this
    rw [List.drop_eq_getElem_cons (by omega)] at hn1
    simp only [List.take_succ_cons, List.take_zero, List.cons.injEq, and_true] at hn1
    have hb := bounds_u64 hw
    refine ⟨n.toNat, ?_, by omega⟩
    rw [List.getElem?_eq_getElem (by omega), hn1, Int.toNat_of_nonneg hb.1]
  obtain ⟨a, ha, la⟩ := key 0 (by decide)
  obtain ⟨b, hb, lb⟩ := key 1 (by decide)
  refine ⟨a, b, ?_, la, lb⟩
  congr 1
  apply Array.toList_inj.1
  apply List.ext_getElem?
  intro i
  match i with
  | 0 => exact ha
  | 1 => exact hb
  | i + 2 => rw [List.getElem?_eq_none (by omega)]; rfl
theorem zero_hash : ∃ Z : Array Value, (∀ w, (zeroValue 30).run Tryd.prog w = .ok (.agg Z) w) ∧ Z.size = 32 ∧ ¬ Z = #[] := by
  have hs : (bcells Z32).toArray.size = 32 := by kernel_rfl
  exact ⟨_, fun w => by kernel_rfl, hs, fun e => by rw [e] at hs; cases hs⟩
theorem zero_step : ∃ Z : Array Value, (∀ w, (zeroValue 34).run Tryd.prog w = .ok (.agg Z) w) ∧ Z.size = 137 ∧ ¬ Z = #[] := by
  have hs : (Stp.cells ⟨0, 0, List.replicate 32 0, 0, ⟨0, 0, List.replicate 32 0, 0, List.replicate 32 0, 0⟩, 0, List.replicate 32 0, false⟩).toArray.size = 137 := by kernel_rfl
  exact ⟨_, fun w => by kernel_rfl, hs, fun e => by rw [e] at hs; cases hs⟩
end Go.Proofs.YtnddejgglbdkmaaDoor
