/- Digests of 32 bytes compared; structs compared field by field. -/
import Derived.Test.YtbhnnoejhbihhaaGreatDoorMap4
import Derived.Deep.CutBlock
import Derived.DeepKeys
import Derived.ChangeKeysEq
import Derived.Laws.StructEq
import Derived.Test.YtbhnnoejhbihhaaGreatDoorMsum3
namespace Go.Proofs.YtbhnnoejhbihhaaGreatDoor
set_option linter.unusedVariables false
set_option linter.unusedSimpArgs false
open Go.ChangeShapes Go.WideShapes Go.ChangeAt Go.RowKit Go.Maps

theorem key_top {P : Program} {t n e : TypeId} (hu : P.underlying t = some (.array n e)) {v : Value} {l : Lit} (h : keyOf P t v = some l) : v.formed P t = true ∧ ∃ L, P.keyLits (P.types.size + 1) t v.cells.toList = some L ∧ l = .string (keyBytes L) := by
  unfold keyOf at h
  rw [hu] at h
  simp only at h
  split at h
  · rename_i hf
    simp only [Option.map_eq_some_iff] at h
    obtain ⟨L, h1, h2⟩ := h
    simp only [Bool.and_eq_true] at hf
    exact ⟨hf.2, L, h1, h2.symm⟩
  · cases h
theorem part_agg {P : Program} {t n e k : TypeId} (hu : P.underlying t = some (.array n e)) (hc : P.cellsOf t = k) (zs : Array Value) (off : Nat) (w : World) : (part t zs off).run P w = .ok (.agg (zs.extract off (off + k))) w := by
  obtain ⟨i, hi⟩ := info_of_underlying hu
  subst hc
  simp [part, isAgg, run_underlying hu, run_sizeOf w hi]
theorem hashKey26 : WideMaps.KeyLaw Tryz.prog 25 := deep_law_laid laidOutM (m := 2) (by omega) (of_decide_eq_true (by kernel_rfl)) (by kernel_rfl) (by rw [Tryz.underlying25])
theorem key_some26 (ks : List Nat) (h : IsHash ks) : ∃ kl, keyOf Tryz.prog 25 (arr ks) = some kl := by
  unfold keyOf
  rw [Tryz.underlying25]
  have h1 : Tryz.prog.keyType 25 = true := by kernel_rfl
  have h2 : (arr ks).formed Tryz.prog 25 = true := by
    have hc : Tryz.prog.cellsOf 25 = 32 := by kernel_rfl
    unfold arr
    simp [Value.formed, Tryz.underlying25, hc, bcells_length, h.1]
  have h3 : ∃ ls, Tryz.prog.keyLits (Tryz.prog.types.size + 1) 25 (arr ks).cells.toList = some ls := by
    have hc : Tryz.prog.cellsOf 25 = 32 := by kernel_rfl
    have hc1 : Tryz.prog.cellsOf 5 = 1 := by kernel_rfl
    obtain ⟨d, hd⟩ : ∃ d, Tryz.prog.types.size = d + 1 := ⟨Tryz.prog.types.size - 1, by have : 0 < Tryz.prog.types.size := of_decide_eq_true (by kernel_rfl); omega⟩
    rw [hd]
    unfold Program.keyLits
    rw [Tryz.underlying25]
    have hcs : (arr ks).cells.toList = bcells ks := by simp [arr, Value.cells]
    rw [hcs]
    simp only []
    rw [if_pos (by rw [hc, bcells_length, h.1]), hc1, mapM_some _ (fun i => [Lit.int .u8 ((ks.getD i 0 : Nat) : Int)]) (List.range 32) (fun i hi => ?_)]
    · exact ⟨_, rfl⟩
    · have hi2 : i < 32 := List.mem_range.1 hi
      have hlt : ks.getD i 0 < 256 := by
        rw [List.getD_eq_getElem?_getD, List.getElem?_eq_getElem (by rw [h.1]; exact hi2)]
        exact h.2 _ (List.getElem_mem _)
      have hone : ((bcells ks).drop (i * 1)).take 1 = [.int .u8 ((ks.getD i 0 : Nat) : Int)] := by
        rw [Nat.mul_one, List.take_one, List.head?_drop, bcells_get _ _ (by rw [h.1]; exact hi2)]
        rfl
      rw [hone]
      unfold Program.keyLits
      rw [Tryz.underlying5]
      simp only []
      generalize ks.getD i 0 = n at hlt
      have m0 : IntKind.u8.min = 0 := by decide
      have m1 : IntKind.u8.max = 255 := by decide
      have hw : (Lit.int .u8 (n : Int)).wf = true := by simp [Lit.wf, m0, m1]; omega
      rw [if_pos ⟨trivial, hw⟩]
  obtain ⟨ls, h3⟩ := h3
  rw [h1, h2, h3]
  exact ⟨_, rfl⟩
theorem hash_eq26 (a b : List Nat) (ha : IsHash a) (hb : IsHash b) (w : World) : (Op.equal 25 (arr a) (arr b)).run Tryz.prog w = .ok (decide (a = b)) w := by
  obtain ⟨la, hla⟩ := key_some26 a ha
  obtain ⟨lb, hlb⟩ := key_some26 b hb
  have h := run_equal_deep (P := Tryz.prog) w (m := 2) (by omega) (k := 25) (by kernel_rfl) (by rw [Tryz.underlying25]) hla hlb
  obtain ⟨r, hr, hiff⟩ := h
  have hab : la = lb ↔ a = b := ⟨fun e => by subst e; exact arr_inj (hashKey26.inj hla hlb), fun e => by subst e; rw [hla] at hlb; exact Option.some.inj hlb⟩
  have e : r = decide (a = b) := by
    by_cases hc : a = b
    · rw [decide_eq_true hc]; exact hiff.2 (hab.2 hc)
    · rw [decide_eq_false hc]
      cases r with
      | false => rfl
      | true => exact absurd (hab.1 (hiff.1 rfl)) hc
  rw [hr, e]
theorem eq_key (a b : List Nat) (ha : IsHash a) (hb : IsHash b) (w : World) : (Op.equalIn 10000 25 (.agg (bcells a).toArray) (.agg (bcells b).toArray)).run Tryz.prog w = .ok (decide (a = b)) w := hash_eq26 a b ha hb w
theorem hash_eq26_at (d : Nat) (a b : List Nat) (ha : IsHash a) (hb : IsHash b) (w : World) : (Op.equalIn (d + 2) 25 (.agg (bcells a).toArray) (.agg (bcells b).toArray)).run Tryz.prog w = .ok (decide (a = b)) w := by
  obtain ⟨la, hla⟩ := key_some26 a ha
  obtain ⟨lb, hlb⟩ := key_some26 b hb
  obtain ⟨fa, La, ka, ea⟩ := key_top Tryz.underlying25 hla
  obtain ⟨fb, Lb, kb, eb⟩ := key_top Tryz.underlying25 hlb
  obtain ⟨r, hr, hiff⟩ := run_equalIn_deep (P := Tryz.prog) d 2 25 (by kernel_rfl) w _ _ (arr a) (arr b) La Lb fa fb ka kb
  have hab : La = Lb ↔ a = b := ⟨fun e => arr_inj (hashKey26.inj hla (by rw [ea, e, ← eb]; exact hlb)), fun e => by
    subst e
    rw [ka] at kb
    exact Option.some.inj kb⟩
  have e : r = decide (a = b) := by
    by_cases hc : a = b
    · rw [decide_eq_true hc]; exact hiff.2 (hab.2 hc)
    · rw [decide_eq_false hc]
      cases r with
      | false => rfl
      | true => exact absurd (hab.1 (hiff.1 rfl)) hc
  rw [← e]; exact hr
theorem hash_eq_at (d : Nat) (a b : List Nat) (ha : IsHash a) (hb : IsHash b) (w : World) : (Op.equalIn (d + 2) 26 (.agg (bcells a).toArray) (.agg (bcells b).toArray)).run Tryz.prog w = .ok (decide (a = b)) w := by
  obtain ⟨la, hla⟩ := key_some a ha
  obtain ⟨lb, hlb⟩ := key_some b hb
  obtain ⟨fa, La, ka, ea⟩ := key_top Tryz.underlying26 hla
  obtain ⟨fb, Lb, kb, eb⟩ := key_top Tryz.underlying26 hlb
  obtain ⟨r, hr, hiff⟩ := run_equalIn_deep (P := Tryz.prog) d 2 26 (by kernel_rfl) w _ _ (arr a) (arr b) La Lb fa fb ka kb
  have hab : La = Lb ↔ a = b := ⟨fun e => arr_inj (hashKey.inj hla (by rw [ea, e, ← eb]; exact hlb)), fun e => by
    subst e
    rw [ka] at kb
    exact Option.some.inj kb⟩
  have e : r = decide (a = b) := by
    by_cases hc : a = b
    · rw [decide_eq_true hc]; exact hiff.2 (hab.2 hc)
    · rw [decide_eq_false hc]
      cases r with
      | false => rfl
      | true => exact absurd (hab.1 (hiff.1 rfl)) hc
  rw [← e]; exact hr
theorem eqF_any {P : Program} {d : Nat} {xs ys : Array Value} {f : Field} {fs : List Field} {w : World} {va vb : Value} {r : Bool} (hn : f.name ≠ "_") (hx : (part f.type xs f.offset).run P w = .ok va w) (hy : (part f.type ys f.offset).run P w = .ok vb w)
    (he : (Op.equalIn d f.type va vb).run P w = .ok r w) : (Op.eqFields d xs ys (f :: fs)).run P w = if r = true then (Op.eqFields d xs ys fs).run P w else .ok false w := by
  simp only [Op.eqFields, if_pos hn, Sem.run_bind, hx, hy, he, Result.andThen_ok]
  cases r <;> simp
theorem eqF_nil {P : Program} {d : Nat} {xs ys : Array Value} {w : World} : (Op.eqFields d xs ys []).run P w = .ok true w := by simp [Op.eqFields]
theorem part_int {P : Program} {t : TypeId} {k : IntKind} (hu : P.underlying t = some (.int k)) {xs : Array Value} {off : Nat} {v : Value} (hx : xs[off]? = some v) (w : World) : (part t xs off).run P w = .ok v w :=
  run_part_plain w (by unfold Program.plainKey; rw [hu]) hx
theorem extract_list (l : List Value) (i n : Nat) : l.toArray.extract i (i + n) = ((l.drop i).take n).toArray := by
  apply Array.toList_inj.1
  rw [Array.toList_extract]
  simp [List.extract]
end Go.Proofs.YtbhnnoejhbihhaaGreatDoor

/- The reference's nodes compared: one is like itself. -/
namespace Go.Proofs.YtbhnnoejhbihhaaGreatDoor
set_option linter.unusedVariables false
set_option linter.unusedSimpArgs false
open Go.ChangeShapes Go.WideShapes Go.ChangeAt Go.RowKit Go.Maps

theorem rn_fields : ∃ f0 f1, (Tryz.prog.fieldsOf 36).toList = [f0, f1] ∧ (f0.name ≠ "_" ∧ f0.type = 25 ∧ f0.offset = 0) ∧ (f1.name ≠ "_" ∧ f1.type = 27 ∧ f1.offset = 32) := by
  unfold Program.fieldsOf
  rw [Tryz.underlying36]
  exact ⟨_, _, rfl, ⟨by decide, rfl, rfl⟩, ⟨by decide, rfl, rfl⟩⟩
theorem rn_struct : Tryz.prog.underlying 36 = some (.struct (Tryz.prog.fieldsOf 36)) := by
  unfold Program.fieldsOf
  rw [Tryz.underlying36]
/-- a node of the reference is like itself. -/
theorem rn_eq (h : List Nat) (s : Nat) (hx : IsHash h) (w : World) : (Op.equalIn 10000 36 (.agg (ncells h s).toArray) (.agg (ncells h s).toArray)).run Tryz.prog w = .ok true w := by
  obtain ⟨f0, f1, hf, ⟨n0, t0, o0⟩, ⟨n1, t1, o1⟩⟩ := rn_fields
  have hid : ((ncells h s).drop 0).take 32 = bcells h := by
    rw [List.drop_zero, ncells, List.take_append_of_le_length (by rw [bcells_length, hx.1]; exact Nat.le_refl _)]
    exact List.take_of_length_le (by rw [bcells_length, hx.1]; exact Nat.le_refl _)
  have ham : (ncells h s)[32]? = some (.int .u64 (s : Int)) := by
    rw [ncells, List.getElem?_append_right (by rw [bcells_length, hx.1]; exact Nat.le_refl _), bcells_length, hx.1]; rfl
  have q0 : (part f0.type (ncells h s).toArray f0.offset).run Tryz.prog w = .ok (.agg (bcells h).toArray) w := by
    rw [t0, o0, part_agg Tryz.underlying25 (k := 32) (by kernel_rfl), extract_list, hid]
  have q1 : (part f1.type (ncells h s).toArray f1.offset).run Tryz.prog w = .ok (.int .u64 (s : Int)) w := by
    rw [t1, o1]
    exact part_int Tryz.underlying27 (by rw [List.getElem?_toArray]; exact ham) w
  have e0 : (Op.equalIn 9999 f0.type (.agg (bcells h).toArray) (.agg (bcells h).toArray)).run Tryz.prog w = .ok true w := by
    rw [t0]
    have := hash_eq26_at 9997 h h hx hx w
    rw [decide_eq_true rfl] at this
    exact this
  have e1 : (Op.equalIn 9999 f1.type (.int .u64 (s : Int)) (.int .u64 (s : Int))).run Tryz.prog w = .ok true w := by
    rw [t1]
    have := run_equalIn_int (P := Tryz.prog) w 9998 27 .u64 .u64 (s : Int) (s : Int) Tryz.underlying27
    rw [this, beq_self_eq_true]
  rw [run_equalIn_struct w 9999 36 _ _ rn_struct (by kernel_rfl), hf, eqF_any n0 q0 q0 e0, if_pos rfl, eqF_any n1 q1 q1 e1, if_pos rfl, eqF_nil]
theorem mn_fields : ∃ f0 f1, (Tryz.prog.fieldsOf 29).toList = [f0, f1] ∧ (f0.name ≠ "_" ∧ f0.type = 26 ∧ f0.offset = 0) ∧ (f1.name ≠ "_" ∧ f1.type = 27 ∧ f1.offset = 32) := by
  unfold Program.fieldsOf
  rw [Tryz.underlying29]
  exact ⟨_, _, rfl, ⟨by decide, rfl, rfl⟩, ⟨by decide, rfl, rfl⟩⟩
theorem mn_struct : Tryz.prog.underlying 29 = some (.struct (Tryz.prog.fieldsOf 29)) := by
  unfold Program.fieldsOf
  rw [Tryz.underlying29]
/-- a node is like itself. -/
theorem mn_eq (h : List Nat) (s : Nat) (hx : IsHash h) (w : World) : (Op.equalIn 10000 29 (.agg (ncells h s).toArray) (.agg (ncells h s).toArray)).run Tryz.prog w = .ok true w := by
  obtain ⟨f0, f1, hf, ⟨n0, t0, o0⟩, ⟨n1, t1, o1⟩⟩ := mn_fields
  have hid : ((ncells h s).drop 0).take 32 = bcells h := by
    rw [List.drop_zero, ncells, List.take_append_of_le_length (by rw [bcells_length, hx.1]; exact Nat.le_refl _)]
    exact List.take_of_length_le (by rw [bcells_length, hx.1]; exact Nat.le_refl _)
  have ham : (ncells h s)[32]? = some (.int .u64 (s : Int)) := by
    rw [ncells, List.getElem?_append_right (by rw [bcells_length, hx.1]; exact Nat.le_refl _), bcells_length, hx.1]; rfl
  have q0 : (part f0.type (ncells h s).toArray f0.offset).run Tryz.prog w = .ok (.agg (bcells h).toArray) w := by
    rw [t0, o0, part_agg Tryz.underlying26 (k := 32) (by kernel_rfl), extract_list, hid]
  have q1 : (part f1.type (ncells h s).toArray f1.offset).run Tryz.prog w = .ok (.int .u64 (s : Int)) w := by
    rw [t1, o1]
    exact part_int Tryz.underlying27 (by rw [List.getElem?_toArray]; exact ham) w
  have e0 : (Op.equalIn 9999 f0.type (.agg (bcells h).toArray) (.agg (bcells h).toArray)).run Tryz.prog w = .ok true w := by
    rw [t0]
    have := hash_eq_at 9997 h h hx hx w
    rw [decide_eq_true rfl] at this
    exact this
  have e1 : (Op.equalIn 9999 f1.type (.int .u64 (s : Int)) (.int .u64 (s : Int))).run Tryz.prog w = .ok true w := by
    rw [t1]
    have := run_equalIn_int (P := Tryz.prog) w 9998 27 .u64 .u64 (s : Int) (s : Int) Tryz.underlying27
    rw [this, beq_self_eq_true]
  rw [run_equalIn_struct w 9999 29 _ _ mn_struct (by kernel_rfl), hf, eqF_any n0 q0 q0 e0, if_pos rfl, eqF_any n1 q1 q1 e1, if_pos rfl, eqF_nil]
end Go.Proofs.YtbhnnoejhbihhaaGreatDoor
