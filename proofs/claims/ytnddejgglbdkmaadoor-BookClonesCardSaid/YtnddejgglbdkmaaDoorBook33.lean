/- Structs compared field by field: a digest at whatever depth; a number. -/
import Derived.Test.YtnddejgglbdkmaaDoorBook3
import Derived.DeepKeys
import Derived.ChangeKeysEq
import Derived.Test.YtnddejgglbdkmaaDoorBook30
namespace Go.Proofs.YtnddejgglbdkmaaDoor
set_option linter.unusedVariables false
set_option linter.unusedSimpArgs false
open Go.ChangeShapes Go.WideShapes Go.ChangeAt Go.RowKit Go.Maps

theorem key_top {P : Program} {t n e : TypeId} (hu : P.underlying t = some (.array n e)) {v : Value} {l : Lit} (h : keyOf P t v = some l) : v.formed P t = true ∧ ∃ L, P.keyLits (P.types.size + 1) t v.cells.toList = some L ∧ l = .string (keyBytes L) := by
  unfold keyOf at h
  rw [hu] at h
  simp only at h
  split at h
  · rename_i hf
    simp only [Option.map_eq_some_iff] at h
    obtain ⟨L, h1, h2⟩ := h
    simp only [Bool.and_eq_true] at hf
    exact ⟨hf.2, L, h1, h2.symm⟩
  · cases h
theorem part_agg {P : Program} {t n e k : TypeId} (hu : P.underlying t = some (.array n e)) (hc : P.cellsOf t = k) (zs : Array Value) (off : Nat) (w : World) : (part t zs off).run P w = .ok (.agg (zs.extract off (off + k))) w := by
  obtain ⟨i, hi⟩ := info_of_underlying hu
  subst hc
  simp [part, isAgg, run_underlying hu, run_sizeOf w hi]
theorem hash_eq_at (d : Nat) (a b : List Nat) (ha : IsHash a) (hb : IsHash b) (w : World) : (Op.equalIn (d + 2) 30 (.agg (bcells a).toArray) (.agg (bcells b).toArray)).run Tryd.prog w = .ok (decide (a = b)) w := by
  obtain ⟨la, hla⟩ := key_some a ha
  obtain ⟨lb, hlb⟩ := key_some b hb
  obtain ⟨fa, La, ka, ea⟩ := key_top Tryd.underlying30 hla
  obtain ⟨fb, Lb, kb, eb⟩ := key_top Tryd.underlying30 hlb
  obtain ⟨r, hr, hiff⟩ := run_equalIn_deep (P := Tryd.prog) d 2 30 (by kernel_rfl) w _ _ (arr a) (arr b) La Lb fa fb ka kb
  have hab : La = Lb ↔ a = b := ⟨fun e => arr_inj (hashKey.inj hla (by rw [ea, e, ← eb]; exact hlb)), fun e => by
    subst e
    rw [ka] at kb
    exact Option.some.inj kb⟩
  have e : r = decide (a = b) := by
    by_cases hc : a = b
    · rw [decide_eq_true hc]; exact hiff.2 (hab.2 hc)
    · rw [decide_eq_false hc]
      cases r with
      | false => rfl
      | true => exact absurd (hab.1 (hiff.1 rfl)) hc
  rw [← e]; exact hr

theorem eqF_any {P : Program} {d : Nat} {xs ys : Array Value} {f : Field} {fs : List Field} {w : World} {va vb : Value} {r : Bool} (hn : f.name ≠ "_") (hx : (part f.type xs f.offset).run P w = .ok va w) (hy : (part f.type ys f.offset).run P w = .ok vb w)
    (he : (Op.equalIn d f.type va vb).run P w = .ok r w) : (Op.eqFields d xs ys (f :: fs)).run P w = if r = true then (Op.eqFields d xs ys fs).run P w else .ok false w := by
  simp only [Op.eqFields, if_pos hn, Sem.run_bind, hx, hy, he, Result.andThen_ok]
  cases r <;> simp
theorem eqF_nil {P : Program} {d : Nat} {xs ys : Array Value} {w : World} : (Op.eqFields d xs ys []).run P w = .ok true w := by simp [Op.eqFields]
theorem part_int {P : Program} {t : TypeId} {k : IntKind} (hu : P.underlying t = some (.int k)) {xs : Array Value} {off : Nat} {v : Value} (hx : xs[off]? = some v) (w : World) : (part t xs off).run P w = .ok v w :=
  run_part_plain w (by unfold Program.plainKey; rw [hu]) hx
theorem extract_list (l : List Value) (i n : Nat) : l.toArray.extract i (i + n) = ((l.drop i).take n).toArray := by
  apply Array.toList_inj.1
  rw [Array.toList_extract]
  simp [List.extract]
end Go.Proofs.YtnddejgglbdkmaaDoor

/- Sums and offers compared; the walk of slices.Equal at sums. -/
namespace Go.Proofs.YtnddejgglbdkmaaDoor
set_option linter.unusedVariables false
set_option linter.unusedSimpArgs false
open Go.ChangeShapes Go.WideShapes Go.ChangeAt Go.RowKit Go.Maps

theorem sum_fields : ∃ f0 f1, (Tryd.prog.fieldsOf 94).toList = [f0, f1] ∧ (f0.name ≠ "_" ∧ f0.type = 30 ∧ f0.offset = 0) ∧ (f1.name ≠ "_" ∧ f1.type = 22 ∧ f1.offset = 32) := by
  unfold Program.fieldsOf
  rw [Tryd.underlying94]
  exact ⟨_, _, rfl, ⟨by decide, rfl, rfl⟩, ⟨by decide, rfl, rfl⟩⟩
theorem off_fields : ∃ f0 f1 f2 f3 f4 f5, (Tryd.prog.fieldsOf 32).toList = [f0, f1, f2, f3, f4, f5] ∧ (f0.name ≠ "_" ∧ f0.type = 3 ∧ f0.offset = 0) ∧ (f1.name ≠ "_" ∧ f1.type = 3 ∧ f1.offset = 1) ∧ (f2.name ≠ "_" ∧ f2.type = 30 ∧ f2.offset = 2) ∧
    (f3.name ≠ "_" ∧ f3.type = 22 ∧ f3.offset = 34) ∧ (f4.name ≠ "_" ∧ f4.type = 30 ∧ f4.offset = 35) ∧ (f5.name ≠ "_" ∧ f5.type = 3 ∧ f5.offset = 67) := by
  unfold Program.fieldsOf
  rw [Tryd.underlying32]
  exact ⟨_, _, _, _, _, _, rfl, ⟨by decide, rfl, rfl⟩, ⟨by decide, rfl, rfl⟩, ⟨by decide, rfl, rfl⟩, ⟨by decide, rfl, rfl⟩, ⟨by decide, rfl, rfl⟩, ⟨by decide, rfl, rfl⟩⟩
theorem sum_struct : Tryd.prog.underlying 94 = some (.struct (Tryd.prog.fieldsOf 94)) := by
  unfold Program.fieldsOf
  rw [Tryd.underlying94]
theorem off_struct : Tryd.prog.underlying 32 = some (.struct (Tryd.prog.fieldsOf 32)) := by
  unfold Program.fieldsOf
  rw [Tryd.underlying32]
theorem part_hash {t : TypeId} (ht : t = 30) {l : List Value} {off : Nat} {k : List Nat} (h : (l.drop off).take 32 = bcells k) (w : World) : (part t l.toArray off).run Tryd.prog w = .ok (.agg (bcells k).toArray) w := by
  subst ht
  rw [part_agg Tryd.underlying30 (k := 32) (by kernel_rfl), extract_list, h]
theorem part_num {t : TypeId} {k : IntKind} {T : TypeId} (ht : t = T) (hu : Tryd.prog.underlying T = some (.int k)) {l : List Value} {off : Nat} {v : Value} (h : l[off]? = some v) (w : World) : (part t l.toArray off).run Tryd.prog w = .ok v w := by
  subst ht
  exact part_int hu (by simpa using h) w
theorem eq_hash {t : TypeId} (ht : t = 30) (d : Nat) {a b : List Nat} (ha : IsHash a) (hb : IsHash b) (w : World) : (Op.equalIn (d + 2) t (.agg (bcells a).toArray) (.agg (bcells b).toArray)).run Tryd.prog w = .ok (decide (a = b)) w := by
  subst ht
  exact hash_eq_at d a b ha hb w
theorem eq_num {t : TypeId} {k : IntKind} {T : TypeId} (ht : t = T) (hu : Tryd.prog.underlying T = some (.int k)) (d : Nat) (a b : Int) (w : World) : (Op.equalIn (d + 1) t (.int k a) (.int k b)).run Tryd.prog w = .ok (a == b) w := by
  subst ht
  exact run_equalIn_int w d t k k a b hu

theorem sum_eq (x y : HV) (w : World) : (Op.equalIn 10000 94 (.agg x.enc.toArray) (.agg y.enc.toArray)).run Tryd.prog w = .ok (decide (x.k = y.k ∧ x.n = y.n)) w := by
  obtain ⟨f0, f1, hf, ⟨n0, t0, o0⟩, ⟨n1, t1, o1⟩⟩ := sum_fields
  have hid : ∀ z : HV, (z.enc.drop 0).take 32 = bcells z.k := fun z => by
    rw [List.drop_zero, HV.enc, List.take_append_of_le_length (by rw [bcells_length, z.h.1]; exact Nat.le_refl _)]
    exact List.take_of_length_le (by rw [bcells_length, z.h.1]; exact Nat.le_refl _)
  have ham : ∀ z : HV, z.enc[32]? = some (.int .u64 (z.n : Int)) := fun z => by
    rw [HV.enc, List.getElem?_append_right (by rw [bcells_length, z.h.1]; exact Nat.le_refl _), bcells_length, z.h.1]; rfl
  have q0 := part_hash t0 (off := f0.offset) (by rw [o0]; exact hid x) w
  have q0' := part_hash t0 (off := f0.offset) (by rw [o0]; exact hid y) w
  have q1 := part_num t1 Tryd.underlying22 (off := f1.offset) (by rw [o1]; exact ham x) w
  have q1' := part_num t1 Tryd.underlying22 (off := f1.offset) (by rw [o1]; exact ham y) w
  rw [run_equalIn_struct w 9999 94 _ _ sum_struct (by kernel_rfl), hf, eqF_any n0 q0 q0' (eq_hash t0 9997 x.h y.h w), eqF_any n1 q1 q1' (eq_num t1 Tryd.underlying22 9998 _ _ w), eqF_nil]
  by_cases h1 : x.k = y.k
  · by_cases h2 : x.n = y.n
    · simp [h1, h2]
    · have h2' : ¬ ((x.n : Int) = (y.n : Int)) := fun e => h2 (by omega)
      simp [h1, h2, h2']
  · simp [h1]
instance : DecidableEq Off := fun a b => decidable_of_iff (a.no = b.no ∧ a.frm = b.frm ∧ a.id = b.id ∧ a.am = b.am ∧ a.lock = b.lock ∧ a.til = b.til) (by cases a; cases b; simp)
theorem off_eq (x y : Off) (hx : x.ok) (hy : y.ok) (w : World) : (Op.equalIn 10000 32 (.agg x.cells.toArray) (.agg y.cells.toArray)).run Tryd.prog w = .ok (decide (x = y)) w := by
  obtain ⟨f0, f1, f2, f3, f4, f5, hf, ⟨n0, t0, o0⟩, ⟨n1, t1, o1⟩, ⟨n2, t2, o2⟩, ⟨n3, t3, o3⟩, ⟨n4, t4, o4⟩, ⟨n5, t5, o5⟩⟩ := off_fields
  have split2 : ∀ z : Off, z.ok → (z.cells.drop 2).take 32 = bcells z.id ∧ (z.cells.drop 35).take 32 = bcells z.lock := fun z hz => by
    have e1 : z.cells = [Value.int .i64 z.no, .int .i64 z.frm] ++ (bcells z.id ++ (.int .u64 (z.am : Int) :: (bcells z.lock ++ [.int .i64 z.til]))) := rfl
    have e2 : z.cells = ([Value.int .i64 z.no, .int .i64 z.frm] ++ bcells z.id ++ [Value.int .u64 (z.am : Int)]) ++ (bcells z.lock ++ [.int .i64 z.til]) := by rw [e1]; simp
    constructor
    · rw [e1, List.drop_append_of_le_length (by simp)]
      show List.take 32 (bcells z.id ++ _) = _
      rw [List.take_append_of_le_length (by rw [bcells_length, hz.1.1]; exact Nat.le_refl _)]
      exact List.take_of_length_le (by rw [bcells_length, hz.1.1]; exact Nat.le_refl _)
    · have hl : ([Value.int .i64 z.no, .int .i64 z.frm] ++ bcells z.id ++ [Value.int .u64 (z.am : Int)]).length = 35 := by simp [bcells_length, hz.1.1]
      rw [e2, ← hl, List.drop_left, List.take_append_of_le_length (by rw [bcells_length, hz.2.1.1]; exact Nat.le_refl _)]
      exact List.take_of_length_le (by rw [bcells_length, hz.2.1.1]; exact Nat.le_refl _)
  obtain ⟨x0, x1, x34, x67⟩ := off_cells x hx
  obtain ⟨y0, y1, y34, y67⟩ := off_cells y hy
  obtain ⟨xi, xl⟩ := split2 x hx
  obtain ⟨yi, yl⟩ := split2 y hy
  rw [run_equalIn_struct w 9999 32 _ _ off_struct (by kernel_rfl), hf,
    eqF_any n0 (part_num t0 Tryd.underlying3 (off := f0.offset) (by rw [o0]; exact x0) w) (part_num t0 Tryd.underlying3 (off := f0.offset) (by rw [o0]; exact y0) w) (eq_num t0 Tryd.underlying3 9998 _ _ w),
    eqF_any n1 (part_num t1 Tryd.underlying3 (off := f1.offset) (by rw [o1]; exact x1) w) (part_num t1 Tryd.underlying3 (off := f1.offset) (by rw [o1]; exact y1) w) (eq_num t1 Tryd.underlying3 9998 _ _ w),
    eqF_any n2 (part_hash t2 (off := f2.offset) (by rw [o2]; exact xi) w) (part_hash t2 (off := f2.offset) (by rw [o2]; exact yi) w) (eq_hash t2 9997 hx.1 hy.1 w),
    eqF_any n3 (part_num t3 Tryd.underlying22 (off := f3.offset) (by rw [o3]; exact x34) w) (part_num t3 Tryd.underlying22 (off := f3.offset) (by rw [o3]; exact y34) w) (eq_num t3 Tryd.underlying22 9998 _ _ w),
    eqF_any n4 (part_hash t4 (off := f4.offset) (by rw [o4]; exact xl) w) (part_hash t4 (off := f4.offset) (by rw [o4]; exact yl) w) (eq_hash t4 9997 hx.2.1 hy.2.1 w),
    eqF_any n5 (part_num t5 Tryd.underlying3 (off := f5.offset) (by rw [o5]; exact x67) w) (part_num t5 Tryd.underlying3 (off := f5.offset) (by rw [o5]; exact y67) w) (eq_num t5 Tryd.underlying3 9998 _ _ w), eqF_nil]
  have hd : (x = y) ↔ (x.no = y.no ∧ x.frm = y.frm ∧ x.id = y.id ∧ x.am = y.am ∧ x.lock = y.lock ∧ x.til = y.til) := by
    cases x; cases y; simp
  have hdd : decide (x = y) = decide (x.no = y.no ∧ x.frm = y.frm ∧ x.id = y.id ∧ x.am = y.am ∧ x.lock = y.lock ∧ x.til = y.til) := by
    by_cases e : x = y
    · rw [decide_eq_true e, decide_eq_true (hd.1 e)]
    · rw [decide_eq_false e, decide_eq_false (fun e2 => e (hd.2 e2))]
  rw [hdd]
  clear hd hdd x0 x1 x34 x67 y0 y1 y34 y67 xi xl yi yl split2
  by_cases h0 : x.no = y.no
  · by_cases h1 : x.frm = y.frm
    · by_cases h2 : x.id = y.id
      · by_cases h3 : x.am = y.am
        · have h3' : (x.am : Int) = (y.am : Int) := by omega
          by_cases h4 : x.lock = y.lock
          · by_cases h5 : x.til = y.til
            · simp [h0, h1, h2, h3, h4, h5]
            · simp [h0, h1, h2, h3, h4, h5]
          · simp [h0, h1, h2, h3, h4]
        · have h3' : ¬ (x.am : Int) = (y.am : Int) := by omega
          simp [h0, h1, h2, h3, h3']
      · simp [h0, h1, h2]
    · simp [h0, h1]
  · simp [h0]
end Go.Proofs.YtnddejgglbdkmaaDoor

/- The walk of slices.Equal at sums. -/
namespace Go.Proofs.YtnddejgglbdkmaaDoor
set_option linter.unusedVariables false
set_option linter.unusedSimpArgs false
open Go.ChangeShapes Go.WideShapes Go.ChangeAt Go.RowKit Go.Maps

def HV.pair (x : HV) : List Nat × Nat := (x.k, x.n)
/-- do two lists of sums say the same? -/
def sameL (ys zs : List HV) : Bool := decide (ys.map HV.pair = zs.map HV.pair)
theorem own_slice {w : World} {B T size n : Nat} {v : Value} {xs : List Value} (h : w.ownsRow B T size v n xs) : ∃ a c, v = .slice a n c := by
  rcases h.2 with ⟨rfl, e⟩ | ⟨g', cap, cur, rfl, _⟩
  · exact ⟨none, 0, by rw [e]⟩
  · exact ⟨_, _, rfl⟩
theorem own_range {w : World} {B n : Nat} {v : Value} {xs : List HV} (h : w.ownsRow B 94 33 v n (xs.flatMap HV.enc)) (hn : xs.length = n) (h0 : 0 < n) :
    ∃ g c, v = .slice (some ⟨g, 0, none⟩) n c ∧ n ≤ c ∧ ∀ k x, xs[k]? = some x → w.rangeAt g (k * 33) x.enc := by
  obtain ⟨g, cap, cur, rfl, _, hh, h1, h2, h3, h4⟩ := own_open h h0
  refine ⟨g, cap, rfl, h1, fun k x hk j u hu => ?_⟩
  have hkl := (List.getElem?_eq_some_iff.1 hk).1
  have hj := (List.getElem?_eq_some_iff.1 hu).1
  rw [x.len] at hj
  refine hh.cell_is ?_
  rw [h4 _ (by omega), flat_getK HV.enc 33 HV.len xs k j x hk hj]
  exact hu

set_option maxRecDepth 100000 in
set_option maxHeartbeats 4000000 in
theorem equal_is (w : World) (B1 B2 : Nat) (v1 v2 : Value) (ys zs : List HV) (h1 : w.ownsRow B1 94 33 v1 ys.length (ys.flatMap HV.enc)) (h2 : w.ownsRow B2 94 33 v2 zs.length (zs.flatMap HV.enc)) (l1 : ys.length ≤ 1000000) (l2 : zs.length ≤ 1000000) :
    Calls Tryd.prog 39 #[v1, v2] w fun e w' => e = .returned (.bool (sameL ys zs)) ∧ Below w.heap.size w w' := by
  obtain ⟨a1, c1, rfl⟩ := own_slice h1
  obtain ⟨a2, c2, rfl⟩ := own_slice h2
  obtain ⟨n, hn⟩ : ∃ n, n = ys.length := ⟨_, rfl⟩
  obtain ⟨n2, hn2⟩ : ∃ n, n = zs.length := ⟨_, rfl⟩
  rw [← hn] at h1 l1 ⊢
  rw [← hn2] at h2 l2 ⊢
  have hbw := Below.refl w.heap.size w
  have HBW := Lib.hid hbw
  clear hbw
  by_cases hne : n = n2
  · subst hne
    by_cases h0 : n = 0
    · have hs : sameL ys zs = true := by
        have e1 : ys = [] := List.eq_nil_of_length_eq_zero (by omega)
        have e2 : zs = [] := List.eq_nil_of_length_eq_zero (by omega)
        rw [e1, e2]; rfl
      rw [hs]
      subst h0
      clear h1 h2 hn hn2 hs
      go_enter Tryd.func39, Tryd.ntmps39
      go_wp2
      refine wp_loop_rounds 1 ?_
      rw [rounds_succ]
      go_wp2
      go_ret
      exact ⟨rfl, HBW.out⟩
    · obtain ⟨g1, c1', e1, hc1, hr1⟩ := own_range h1 hn.symm (by omega)
      obtain ⟨g2, c2', e2, hc2, hr2⟩ := own_range h2 hn2.symm (by omega)
      injection e1 with e1 _ e1'
      injection e2 with e2 _ e2'
      subst e1 e2 e1' e2'
      have HR1 := Lib.hid hr1
      have HR2 := Lib.hid hr2
      have HN := Lib.hid hn
      have HN2 := Lib.hid hn2
      clear h1 h2 hn hn2 hr1 hr2 h0
      go_enter Tryd.func39, Tryd.ntmps39
      go_wp2
      go_loopw [13] (fun i wr => ∃ k : Nat, i = .int .i64 (k : Int) ∧ k ≤ n ∧ (ys.take k).map HV.pair = (zs.take k).map HV.pair ∧ Below w.heap.size w wr) (fun i _ => n - (intOf i).toNat)
      case atStart => exact ⟨0, rfl, Nat.zero_le _, rfl, HBW.out⟩
      case round =>
        obtain ⟨k, rfl, hk, hsame, hbel⟩ := hrel
        have HSM := Lib.hid hsame
        have HBL := Lib.hid hbel
        clear hsame hbel
        by_cases hlt : k < n
        · obtain ⟨x, hx⟩ : ∃ x, ys[k]? = some x := ⟨_, List.getElem?_eq_getElem (by have := HN.out; omega)⟩
          obtain ⟨y, hy⟩ : ∃ y, zs[k]? = some y := ⟨_, List.getElem?_eq_getElem (by have := HN2.out; omega)⟩
          have rx : wr.drew.rangeAt g1 (k * 33) x.enc := rangeAt_kept (HR1.out k x hx) (Kept.of_below (S := fun _ => False) HBL.out.drew) (fun h => h)
          have ry : wr.drew.rangeAt g2 (k * 33) y.enc := rangeAt_kept (HR2.out k y hy) (Kept.of_below (S := fun _ => False) HBL.out.drew) (fun h => h)
          have szx : (Tryd.prog.info? 94).map (·.size) = some x.enc.length := by rw [x.len]; kernel_rfl
          have szy : (Tryd.prog.info? 94).map (·.size) = some y.enc.length := by rw [y.len]; kernel_rfl
          have hneq : ∀ W : World, (binOp .neq 94 (.agg x.enc.toArray) (.agg y.enc.toArray)).run Tryd.prog W = .ok (.bool (!decide (x.k = y.k ∧ x.n = y.n))) W := fun W => by
            rw [run_neq_struct, sum_eq]; rfl
          have hstep : (x.k = y.k ∧ x.n = y.n) → (ys.take (k + 1)).map HV.pair = (zs.take (k + 1)).map HV.pair := fun e => by
            rw [List.take_add_one, List.take_add_one, hx, hy, List.map_append, List.map_append, HSM.out]
            simp [HV.pair, e.1, e.2]
          have hdiff : ¬ (x.k = y.k ∧ x.n = y.n) → sameL ys zs = false := fun e => by
            unfold sameL
            refine decide_eq_false fun e2 => e ?_
            have h3 : (ys.map HV.pair)[k]? = (zs.map HV.pair)[k]? := by rw [e2]
            rw [List.getElem?_map, List.getElem?_map, hx, hy] at h3
            simp only [Option.map_some, Option.some.injEq, HV.pair, Prod.mk.injEq] at h3
            exact h3
          have HST := Lib.hid hstep
          have HDF := Lib.hid hdiff
          have hk0 : (0 : Int) ≤ (k : Int) := by omega
          have hk1 : (k : Int) < (n : Int) := by omega
          have hk2 : ((k : Int)).toNat = k := by omega
          clear hstep hdiff
          have hbr : ∃ r : Bool, r = !decide (x.k = y.k ∧ x.n = y.n) := ⟨_, rfl⟩
          obtain ⟨r, hr⟩ := hbr
          rw [← hr] at hneq
          have HRR := Lib.hid hr
          obtain ⟨LX, hLX⟩ : ∃ L, L = x.enc := ⟨_, rfl⟩
          obtain ⟨LY, hLY⟩ : ∃ L, L = y.enc := ⟨_, rfl⟩
          rw [← hLX] at rx szx hneq
          rw [← hLY] at ry szy hneq
          clear hr hx hy hLX hLY
          go_upto_region 6 with (fail)
          refine wp_region_noPanic ?_
          refine wp_region_held_drew (S := fun w' => w'.rangeAt g1 (k * 33) LX ∧ w'.rangeAt g2 (k * 33) LY) (by kernel_rfl) ⟨rx, ry⟩ (fun hH0 => ?_)
          refine wpAnyH_take (i := 0) (v := (.slice (some ⟨g1, 0, none⟩) n c1)) rfl (by kernel_rfl) (by kernel_rfl) (by kernel_rfl) (fun _ _ _ h => h) (Or.inl ⟨by kernel_rfl, by intro w' hS; go_simp⟩) hH0 ?_
          simp only [Act.put, List.getElem_toArray, List.getElem_cons_zero, List.getElem_cons_succ, List.setIfInBounds_toArray, List.set_cons_zero, List.set_cons_succ]
          refine wpAnyH_take (i := 1) (v := (.int .i64 (k : Int))) rfl (by kernel_rfl) (by kernel_rfl) (by kernel_rfl) (fun _ _ _ h => h) (Or.inl ⟨by kernel_rfl, by intro w' hS; go_simp⟩) hH0 ?_
          simp only [Act.put, List.getElem_toArray, List.getElem_cons_zero, List.getElem_cons_succ, List.setIfInBounds_toArray, List.set_cons_zero, List.set_cons_succ]
          refine wpAnyH_take (i := 2) (v := (.pointer (some ⟨g1, k * 33, none⟩))) rfl (by kernel_rfl) (by kernel_rfl) (by kernel_rfl) (fun _ _ _ h => h) (Or.inl ⟨by kernel_rfl, by intro w' hS; go_simp⟩) hH0 ?_
          simp only [Act.put, List.getElem_toArray, List.getElem_cons_zero, List.getElem_cons_succ, List.setIfInBounds_toArray, List.set_cons_zero, List.set_cons_succ]
          refine wpAnyH_take (i := 3) (v := (.agg LX.toArray)) rfl (by kernel_rfl) (by kernel_rfl) (by kernel_rfl) (fun _ _ _ h => h) (yieldsIf_load_mid (by kernel_rfl) 94 (.tmp 18) rfl g1 (k * 33) rfl LX _ (fun w' h => h.1) Tryd.underlying94 rfl szx) hH0 ?_
          simp only [Act.put, List.getElem_toArray, List.getElem_cons_zero, List.getElem_cons_succ, List.setIfInBounds_toArray, List.set_cons_zero, List.set_cons_succ]
          refine wpAnyH_take (i := 4) (v := (.slice (some ⟨g2, 0, none⟩) n c2)) rfl (by kernel_rfl) (by kernel_rfl) (by kernel_rfl) (fun _ _ _ h => h) (Or.inl ⟨by kernel_rfl, by intro w' hS; go_simp⟩) hH0 ?_
          simp only [Act.put, List.getElem_toArray, List.getElem_cons_zero, List.getElem_cons_succ, List.setIfInBounds_toArray, List.set_cons_zero, List.set_cons_succ]
          refine wpAnyH_take (i := 5) (v := (.int .i64 (k : Int))) rfl (by kernel_rfl) (by kernel_rfl) (by kernel_rfl) (fun _ _ _ h => h) (Or.inl ⟨by kernel_rfl, by intro w' hS; go_simp⟩) hH0 ?_
          simp only [Act.put, List.getElem_toArray, List.getElem_cons_zero, List.getElem_cons_succ, List.setIfInBounds_toArray, List.set_cons_zero, List.set_cons_succ]
          refine wpAnyH_take (i := 6) (v := (.pointer (some ⟨g2, k * 33, none⟩))) rfl (by kernel_rfl) (by kernel_rfl) (by kernel_rfl) (fun _ _ _ h => h) (Or.inl ⟨by kernel_rfl, by intro w' hS; go_simp⟩) hH0 ?_
          simp only [Act.put, List.getElem_toArray, List.getElem_cons_zero, List.getElem_cons_succ, List.setIfInBounds_toArray, List.set_cons_zero, List.set_cons_succ]
          refine wpAnyH_take (i := 7) (v := (.agg LY.toArray)) rfl (by kernel_rfl) (by kernel_rfl) (by kernel_rfl) (fun _ _ _ h => h) (yieldsIf_load_mid (by kernel_rfl) 94 (.tmp 22) rfl g2 (k * 33) rfl LY _ (fun w' h => h.2) Tryd.underlying94 rfl szy) hH0 ?_
          simp only [Act.put, List.getElem_toArray, List.getElem_cons_zero, List.getElem_cons_succ, List.setIfInBounds_toArray, List.set_cons_zero, List.set_cons_succ]
          refine wpAnyH_take (i := 8) (v := (.bool r)) rfl (by kernel_rfl) (by kernel_rfl) (by kernel_rfl) (fun _ _ _ h => h) (Or.inl ⟨by kernel_rfl, by intro w' hS; go_simp⟩) hH0 ?_
          simp only [Act.put, List.getElem_toArray, List.getElem_cons_zero, List.getElem_cons_succ, List.setIfInBounds_toArray, List.set_cons_zero, List.set_cons_succ]
          refine wpAnyH_done (by kernel_rfl) ?_ _
          refine NoPanic.normal ?_
          clear hneq szx szy rx ry
          cases r with
          | false =>
            have he : x.k = y.k ∧ x.n = y.n := by
              have := HRR.out
              simpa using this
            have hst := HST.out he
            have HST2 := Lib.hid hst
            clear hst he
            go_wp2
            go_roundw
            case rel => exact ⟨k + 1, by go_num, by omega, HST2.out, HBL.out.drew⟩
            case measure => simp [intOf]; omega
          | true =>
            have he : ¬ (x.k = y.k ∧ x.n = y.n) := fun e => by
              have := HRR.out
              rw [decide_eq_true e] at this
              cases this
            have hst := HDF.out he
            have HST2 := Lib.hid hst
            clear hst he
            go_wp2
            go_ret
            exact ⟨ret_bool HST2.out.symm, HBL.out.drew⟩
        · have hkn : k = n := by omega
          subst hkn
          have hs : sameL ys zs = true := by
            unfold sameL
            refine decide_eq_true ?_
            have := HSM.out
            rw [List.take_of_length_le (by rw [HN.out]; exact Nat.le_refl _), List.take_of_length_le (by rw [HN2.out]; exact Nat.le_refl _)] at this
            exact this
          have HS := Lib.hid hs
          clear hs hlt
          go_wp2
          go_ret
          exact ⟨ret_bool HS.out.symm, HBL.out⟩
  · have hs : sameL ys zs = false := by
      unfold sameL
      refine decide_eq_false fun e => hne ?_
      have := congrArg List.length e
      simpa [hn, hn2] using this
    rw [hs]
    have hnei : ¬ (n : Int) = (n2 : Int) := by omega
    clear h1 h2 hn hn2 hs
    go_enter Tryd.func39, Tryd.ntmps39
    go_wp2
    go_ret
    exact ⟨rfl, HBW.out⟩
end Go.Proofs.YtnddejgglbdkmaaDoor

/- Sums of two lists are the same just where the lists hold the same. -/
namespace Go.Proofs.YtnddejgglbdkmaaDoor
set_option linter.unusedVariables false
set_option linter.unusedSimpArgs false
open Go.ChangeShapes Go.WideShapes Go.ChangeAt Go.RowKit Go.Maps

theorem lexC_asymm {a b : List Nat} (h : lexC a b < 0) : ¬ lexC b a < 0 := by
  have := lexC_swap a b
  omega
theorem pair_cmp {a b : HV} (h : a.pair = b.pair) : a.k = b.k := congrArg Prod.fst h
theorem rise_unique : ∀ ys zs : List HV, Rising ys → Rising zs → (∀ p, p ∈ ys.map HV.pair ↔ p ∈ zs.map HV.pair) → ys.map HV.pair = zs.map HV.pair
  | [], [], _, _, _ => rfl
  | [], z :: zs, _, _, h => by
    have := (h z.pair).2 (by simp)
    simp at this
  | y :: ys, [], _, _, h => by
    have := (h y.pair).1 (by simp)
    simp at this
  | y :: ys, z :: zs, hy, hz, h => by
    have hy' := List.pairwise_cons.1 hy
    have hz' := List.pairwise_cons.1 hz
    have hyz : y.pair = z.pair := by
      have h1 := (h y.pair).1 (by simp)
      have h2 := (h z.pair).2 (by simp)
      rw [List.map_cons] at h1 h2
      rcases List.mem_cons.1 h1 with e | e
      · exact e
      · rcases List.mem_cons.1 h2 with e' | e'
        · exact e'.symm
        · obtain ⟨z1, hz1, e1⟩ := List.mem_map.1 e
          obtain ⟨y1, hy1, e2⟩ := List.mem_map.1 e'
          have a1 := hz'.1 z1 hz1
          have a2 := hy'.1 y1 hy1
          rw [pair_cmp e1] at a1
          rw [pair_cmp e2] at a2
          exact absurd a2 (lexC_asymm a1)
    rw [List.map_cons, List.map_cons, hyz]
    congr 1
    refine rise_unique ys zs hy'.2 hz'.2 fun p => ?_
    have hno : ∀ (t : HV) (ts : List HV), (∀ u ∈ ts, lexC t.k u.k < 0) → t.pair ∉ ts.map HV.pair := fun t ts ht hm => by
      obtain ⟨u, hu, e⟩ := List.mem_map.1 hm
      have := ht u hu
      rw [pair_cmp e, lexC_refl] at this
      exact absurd this (by decide)
    have hp := h p
    rw [List.map_cons, List.map_cons, List.mem_cons, List.mem_cons] at hp
    constructor
    · intro hm
      rcases hp.1 (.inr hm) with e | e
      · rw [e, ← hyz] at hm; exact absurd hm (hno y ys hy'.1)
      · exact e
    · intro hm
      rcases hp.2 (.inr hm) with e | e
      · rw [e, hyz] at hm; exact absurd hm (hno z zs hz'.1)
      · exact e
theorem num_cast {n m : Nat} (h : (Value.int .u64 (n : Int)) = .int .u64 (m : Int)) : n = m := by
  injection h with _ h
  omega
theorem IsSums.mem {l : List Ent} {ys : List HV} (h : IsSums l ys) (hd : (l.map (·.1)).Nodup) (hn : Nums l) (k : List Nat) (n : Nat) : (k, n) ∈ ys.map HV.pair ↔ look l k = some (.int .u64 (n : Int)) := by
  constructor
  · intro hm
    obtain ⟨x, hx, e⟩ := List.mem_map.1 hm
    have e1 : x.k = k := congrArg Prod.fst e
    have e2 : x.n = n := congrArg Prod.snd e
    have := ent_look hd (h.of x hx)
    rw [e1, e2] at this
    exact this
  · intro hl
    obtain ⟨x, hx, e⟩ := h.all _ (look_mem hl)
    have e' : k = x.k := e
    have h2 := ent_look hd (h.of x hx)
    rw [← e', hl] at h2
    injection h2 with h2
    have := num_cast h2
    exact List.mem_map.2 ⟨x, hx, by unfold HV.pair; rw [← e', this]⟩
theorem look_num' {l : List Ent} (hn : Nums l) (k : List Nat) : look l k = none ∨ ∃ n : Nat, look l k = some (.int .u64 (n : Int)) := by
  cases h : look l k with
  | none => exact .inl rfl
  | some v =>
    obtain ⟨n, hv, _⟩ := hn _ (look_mem h)
    exact .inr ⟨n, by rw [show v = _ from hv]⟩
theorem sameL_iff {l l' : List Ent} {ys zs : List HV} (h : IsSums l ys) (h' : IsSums l' zs) (hd : (l.map (·.1)).Nodup) (hd' : (l'.map (·.1)).Nodup) (hn : Nums l) (hn' : Nums l') : sameL ys zs = true ↔ ∀ k, look l k = look l' k := by
  unfold sameL
  rw [decide_eq_true_eq]
  constructor
  · intro e k
    have key : ∀ n : Nat, look l k = some (.int .u64 (n : Int)) ↔ look l' k = some (.int .u64 (n : Int)) := fun n => by
      rw [← h.mem hd hn k n, ← h'.mem hd' hn' k n, e]
    rcases look_num' hn k with h1 | ⟨n, h1⟩
    · rcases look_num' hn' k with h2 | ⟨m, h2⟩
      · rw [h1, h2]
      · have := (key m).2 h2; rw [h1] at this; cases this
    · rw [h1, (key n).1 h1]
  · intro e
    refine rise_unique ys zs h.rise h'.rise fun p => ?_
    obtain ⟨k, n⟩ := p
    rw [h.mem hd hn k n, h'.mem hd' hn' k n, e k]
theorem Bk.ok.nums {b : Bk} (h : b.ok) (f : Int) : Nums (b.side f) := h.side f
end Go.Proofs.YtnddejgglbdkmaaDoor
