/- Structs compared field by field: a digest at whatever depth; a number. -/
import Derived.Test.YtcekammjpghjnaaDoorWs
import Derived.Test.YtcekammjpghjnaaDoorUBook3
import Derived.Test.YtcekammjpghjnaaDoorUBook30
import Derived.DeepKeys
import Derived.ChangeKeysEq
import Derived.Deep.CutBlock
import Derived.Laws.StructEq
namespace Go.Proofs.YtcekammjpghjnaaDoor
set_option linter.unusedVariables false
set_option linter.unusedSimpArgs false
open Go.ChangeShapes Go.WideShapes Go.ChangeAt Go.RowKit Go.Maps

theorem key_top {P : Program} {t n e : TypeId} (hu : P.underlying t = some (.array n e)) {v : Value} {l : Lit} (h : keyOf P t v = some l) : v.formed P t = true ∧ ∃ L, P.keyLits (P.types.size + 1) t v.cells.toList = some L ∧ l = .string (keyBytes L) := by
 unfold keyOf at h
 rw [hu] at h
 simp only at h
 split at h
 · rename_i hf
   simp only [Option.map_eq_some_iff] at h
   obtain ⟨L, h1, h2⟩ := h
   simp only [Bool.and_eq_true] at hf
   exact ⟨hf.2, L, h1, h2.symm⟩
 · cases h
theorem part_agg {P : Program} {t n e k : TypeId} (hu : P.underlying t = some (.array n e)) (hc : P.cellsOf t = k) (zs : Array Value) (off : Nat) (w : World) : (part t zs off).run P w = .ok (.agg (zs.extract off (off + k))) w := by
 obtain ⟨i, hi⟩ := info_of_underlying hu
 subst hc
 simp [part, isAgg, run_underlying hu, run_sizeOf w hi]
theorem eqF_any {P : Program} {d : Nat} {xs ys : Array Value} {f : Field} {fs : List Field} {w : World} {va vb : Value} {r : Bool} (hn : f.name ≠ "_") (hx : (part f.type xs f.offset).run P w = .ok va w) (hy : (part f.type ys f.offset).run P w = .ok vb w)
  (he : (Op.equalIn d f.type va vb).run P w = .ok r w) : (Op.eqFields d xs ys (f :: fs)).run P w = if r = true then (Op.eqFields d xs ys fs).run P w else .ok false w := by
 simp only [Op.eqFields, if_pos hn, Sem.run_bind, hx, hy, he, Result.andThen_ok]
 cases r <;> simp
theorem eqF_nil {P : Program} {d : Nat} {xs ys : Array Value} {w : World} : (Op.eqFields d xs ys []).run P w = .ok true w := by simp [Op.eqFields]
theorem part_int {P : Program} {t : TypeId} {k : IntKind} (hu : P.underlying t = some (.int k)) {xs : Array Value} {off : Nat} {v : Value} (hx : xs[off]? = some v) (w : World) : (part t xs off).run P w = .ok v w :=
 run_part_plain w (by unfold Program.plainKey; rw [hu]) hx
theorem extract_list (l : List Value) (i n : Nat) : l.toArray.extract i (i + n) = ((l.drop i).take n).toArray := by
 apply Array.toList_inj.1
 rw [Array.toList_extract]
 simp [List.extract]
end Go.Proofs.YtcekammjpghjnaaDoor

/- Sums and offers compared; the walk of slices.Equal at sums. -/
namespace Go.Proofs.YtcekammjpghjnaaDoor
set_option linter.unusedVariables false
set_option linter.unusedSimpArgs false
open Go.ChangeShapes Go.WideShapes Go.ChangeAt Go.RowKit Go.Maps

theorem part_num {t : TypeId} {k : IntKind} {T : TypeId} (ht : t = T) (hu : Tryd.prog.underlying T = some (.int k)) {l : List Value} {off : Nat} {v : Value} (h : l[off]? = some v) (w : World) : (part t l.toArray off).run Tryd.prog w = .ok v w := by
 subst ht
 exact part_int hu (by simpa using h) w
theorem eq_num {t : TypeId} {k : IntKind} {T : TypeId} (ht : t = T) (hu : Tryd.prog.underlying T = some (.int k)) (d : Nat) (a b : Int) (w : World) : (Op.equalIn (d + 1) t (.int k a) (.int k b)).run Tryd.prog w = .ok (a == b) w := by
 subst ht
 exact run_equalIn_int w d t k k a b hu

instance : DecidableEq Off := fun a b => decidable_of_iff (a.no = b.no ∧ a.frm = b.frm ∧ a.id = b.id ∧ a.am = b.am ∧ a.lock = b.lock ∧ a.til = b.til) (by cases a; cases b; simp)
end Go.Proofs.YtcekammjpghjnaaDoor

/- The walk of slices.Equal at sums. -/
namespace Go.Proofs.YtcekammjpghjnaaDoor
set_option linter.unusedVariables false
set_option linter.unusedSimpArgs false
open Go.ChangeShapes Go.WideShapes Go.ChangeAt Go.RowKit Go.Maps

def HV.pair (x : HV) : List Nat × Nat := (x.k, x.n)
end Go.Proofs.YtcekammjpghjnaaDoor

/- Sums of two lists are the same just where the lists hold the same. -/
namespace Go.Proofs.YtcekammjpghjnaaDoor
set_option linter.unusedVariables false
set_option linter.unusedSimpArgs false
open Go.ChangeShapes Go.WideShapes Go.ChangeAt Go.RowKit Go.Maps

theorem num_cast {n m : Nat} (h : (Value.int .u64 (n : Int)) = .int .u64 (m : Int)) : n = m := by
 injection h with _ h
 omega
theorem IsSums.mem {l : List Ent} {ys : List HV} (h : IsSums l ys) (hd : (l.map (·.1)).Nodup) (hn : Nums l) (k : List Nat) (n : Nat) : (k, n) ∈ ys.map HV.pair ↔ look l k = some (.int .u64 (n : Int)) := by
 constructor
 · intro hm
   obtain ⟨x, hx, e⟩ := List.mem_map.1 hm
   have e1 : x.k = k := congrArg Prod.fst e
   have e2 : x.n = n := congrArg Prod.snd e
   have := ent_look hd (h.of x hx)
   rw [e1, e2] at this
   exact this
 · intro hl
   obtain ⟨x, hx, e⟩ := h.all _ (look_mem hl)
   have e' : k = x.k := e
   have h2 := ent_look hd (h.of x hx)
   rw [← e', hl] at h2
   injection h2 with h2
   have := num_cast h2
   exact List.mem_map.2 ⟨x, hx, by unfold HV.pair; rw [← e', this]⟩
theorem Bk.ok.nums {b : Bk} (h : b.ok) (f : Int) : Nums (b.side f) := h.side f
end Go.Proofs.YtcekammjpghjnaaDoor
/- Digests of 32 bytes, as the reference has them, compared. -/
namespace Go.Proofs.YtcekammjpghjnaaDoor
set_option linter.unusedVariables false
set_option linter.unusedSimpArgs false
open Go.ChangeShapes Go.WideShapes Go.ChangeAt Go.RowKit Go.Maps

theorem hashKey26 : WideMaps.KeyLaw Tryd.prog 38 := deep_law_laid laidOutM (m := 2) (by omega) (of_decide_eq_true (by kernel_rfl)) (by kernel_rfl) (by rw [Tryd.underlying38])
theorem key_some26 (ks : List Nat) (h : IsHash ks) : ∃ kl, keyOf Tryd.prog 38 (arr ks) = some kl := by
 unfold keyOf
 rw [Tryd.underlying38]
 have h1 : Tryd.prog.keyType 38 = true := by kernel_rfl
 have h2 : (arr ks).formed Tryd.prog 38 = true := by
  have hc : Tryd.prog.cellsOf 38 = 32 := by kernel_rfl
  unfold arr
  simp [Value.formed, Tryd.underlying38, hc, bcells_length, h.1]
 have h3 : ∃ ls, Tryd.prog.keyLits (Tryd.prog.types.size + 1) 38 (arr ks).cells.toList = some ls := by
  have hc : Tryd.prog.cellsOf 38 = 32 := by kernel_rfl
  have hc1 : Tryd.prog.cellsOf 5 = 1 := by kernel_rfl
  obtain ⟨d, hd⟩ : ∃ d, Tryd.prog.types.size = d + 1 := ⟨Tryd.prog.types.size - 1, by have : 0 < Tryd.prog.types.size := of_decide_eq_true (by kernel_rfl); omega⟩
  rw [hd]
  unfold Program.keyLits
  rw [Tryd.underlying38]
  have hcs : (arr ks).cells.toList = bcells ks := by simp [arr, Value.cells]
  rw [hcs]
  simp only []
  rw [if_pos (by rw [hc, bcells_length, h.1]), hc1, mapM_some _ (fun i => [Lit.int .u8 ((ks.getD i 0 : Nat) : Int)]) (List.range 32) (fun i hi => ?_)]
  · exact ⟨_, rfl⟩
  · have hi2 : i < 32 := List.mem_range.1 hi
    have hlt : ks.getD i 0 < 256 := by
     rw [List.getD_eq_getElem?_getD, List.getElem?_eq_getElem (by rw [h.1]; exact hi2)]
     exact h.2 _ (List.getElem_mem _)
    have hone : ((bcells ks).drop (i * 1)).take 1 = [.int .u8 ((ks.getD i 0 : Nat) : Int)] := by
     rw [Nat.mul_one, List.take_one, List.head?_drop, bcells_get _ _ (by rw [h.1]; exact hi2)]
     rfl
    rw [hone]
    unfold Program.keyLits
    rw [Tryd.underlying5]
    simp only []
    generalize ks.getD i 0 = n at hlt
    have m0 : IntKind.u8.min = 0 := by decide
    have m1 : IntKind.u8.max = 255 := by decide
    have hw : (Lit.int .u8 (n : Int)).wf = true := by simp [Lit.wf, m0, m1]; omega
    rw [if_pos ⟨trivial, hw⟩]
 obtain ⟨ls, h3⟩ := h3
 rw [h1, h2, h3]
 exact ⟨_, rfl⟩
theorem hash_eq26_at (d : Nat) (a b : List Nat) (ha : IsHash a) (hb : IsHash b) (w : World) : (Op.equalIn (d + 2) 38 (.agg (bcells a).toArray) (.agg (bcells b).toArray)).run Tryd.prog w = .ok (decide (a = b)) w := by
 obtain ⟨la, hla⟩ := key_some26 a ha
 obtain ⟨lb, hlb⟩ := key_some26 b hb
 obtain ⟨fa, La, ka, ea⟩ := key_top Tryd.underlying38 hla
 obtain ⟨fb, Lb, kb, eb⟩ := key_top Tryd.underlying38 hlb
 obtain ⟨r, hr, hiff⟩ := run_equalIn_deep (P := Tryd.prog) d 2 38 (by kernel_rfl) w _ _ (arr a) (arr b) La Lb fa fb ka kb
 have hab : La = Lb ↔ a = b := ⟨fun e => arr_inj (hashKey26.inj hla (by rw [ea, e, ← eb]; exact hlb)), fun e => by
  subst e
  rw [ka] at kb
  exact Option.some.inj kb⟩
 have e : r = decide (a = b) := by
  by_cases hc : a = b
  · rw [decide_eq_true hc]; exact hiff.2 (hab.2 hc)
  · rw [decide_eq_false hc]
    cases r with
    | false => rfl
    | true => exact absurd (hab.1 (hiff.1 rfl)) hc
 rw [← e]; exact hr
theorem rpart_hash {t : TypeId} (ht : t = 38) {l : List Value} {off : Nat} {k : List Nat} (h : (l.drop off).take 32 = bcells k) (w : World) : (part t l.toArray off).run Tryd.prog w = .ok (.agg (bcells k).toArray) w := by
 subst ht
 rw [part_agg Tryd.underlying38 (k := 32) (by kernel_rfl), extract_list, h]
theorem req_hash {t : TypeId} (ht : t = 38) (d : Nat) {a b : List Nat} (ha : IsHash a) (hb : IsHash b) (w : World) : (Op.equalIn (d + 2) t (.agg (bcells a).toArray) (.agg (bcells b).toArray)).run Tryd.prog w = .ok (decide (a = b)) w := by
 subst ht
 exact hash_eq26_at d a b ha hb w
theorem roff_fields : ∃ f0 f1 f2 f3 f4 f5, (Tryd.prog.fieldsOf 52).toList = [f0, f1, f2, f3, f4, f5] ∧ (f0.name ≠ "_" ∧ f0.type = 3 ∧ f0.offset = 0) ∧ (f1.name ≠ "_" ∧ f1.type = 3 ∧ f1.offset = 1) ∧ (f2.name ≠ "_" ∧ f2.type = 38 ∧ f2.offset = 2) ∧
  (f3.name ≠ "_" ∧ f3.type = 22 ∧ f3.offset = 34) ∧ (f4.name ≠ "_" ∧ f4.type = 38 ∧ f4.offset = 35) ∧ (f5.name ≠ "_" ∧ f5.type = 3 ∧ f5.offset = 67) := by
 unfold Program.fieldsOf
 rw [Tryd.underlying52]
 exact ⟨_, _, _, _, _, _, rfl, ⟨by decide, rfl, rfl⟩, ⟨by decide, rfl, rfl⟩, ⟨by decide, rfl, rfl⟩, ⟨by decide, rfl, rfl⟩, ⟨by decide, rfl, rfl⟩, ⟨by decide, rfl, rfl⟩⟩
theorem roff_struct : Tryd.prog.underlying 52 = some (.struct (Tryd.prog.fieldsOf 52)) := by
 unfold Program.fieldsOf
 rw [Tryd.underlying52]
theorem roff_eq (x y : Off) (hx : x.ok) (hy : y.ok) (w : World) : (Op.equalIn 10000 52 (.agg x.cells.toArray) (.agg y.cells.toArray)).run Tryd.prog w = .ok (decide (x = y)) w := by
 obtain ⟨f0, f1, f2, f3, f4, f5, hf, ⟨n0, t0, o0⟩, ⟨n1, t1, o1⟩, ⟨n2, t2, o2⟩, ⟨n3, t3, o3⟩, ⟨n4, t4, o4⟩, ⟨n5, t5, o5⟩⟩ := roff_fields
 have split2 : ∀ z : Off, z.ok → (z.cells.drop 2).take 32 = bcells z.id ∧ (z.cells.drop 35).take 32 = bcells z.lock := fun z hz => by
   have e1 : z.cells = [Value.int .i64 z.no, .int .i64 z.frm] ++ (bcells z.id ++ (.int .u64 (z.am : Int) :: (bcells z.lock ++ [.int .i64 z.til]))) := rfl
   have e2 : z.cells = ([Value.int .i64 z.no, .int .i64 z.frm] ++ bcells z.id ++ [Value.int .u64 (z.am : Int)]) ++ (bcells z.lock ++ [.int .i64 z.til]) := by rw [e1]; simp
   constructor
   · rw [e1, List.drop_append_of_le_length (by simp)]
     show List.take 32 (bcells z.id ++ _) = _
     rw [List.take_append_of_le_length (by rw [bcells_length, hz.1.1]; exact Nat.le_refl _)]
     exact List.take_of_length_le (by rw [bcells_length, hz.1.1]; exact Nat.le_refl _)
   · have hl : ([Value.int .i64 z.no, .int .i64 z.frm] ++ bcells z.id ++ [Value.int .u64 (z.am : Int)]).length = 35 := by simp [bcells_length, hz.1.1]
     rw [e2, ← hl, List.drop_left, List.take_append_of_le_length (by rw [bcells_length, hz.2.1.1]; exact Nat.le_refl _)]
     exact List.take_of_length_le (by rw [bcells_length, hz.2.1.1]; exact Nat.le_refl _)
 obtain ⟨x0, x1, x34, x67⟩ := off_cells x hx
 obtain ⟨y0, y1, y34, y67⟩ := off_cells y hy
 obtain ⟨xi, xl⟩ := split2 x hx
 obtain ⟨yi, yl⟩ := split2 y hy
 rw [run_equalIn_struct w 9999 52 _ _ roff_struct (by kernel_rfl), hf,
   eqF_any n0 (part_num t0 Tryd.underlying3 (off := f0.offset) (by rw [o0]; exact x0) w) (part_num t0 Tryd.underlying3 (off := f0.offset) (by rw [o0]; exact y0) w) (eq_num t0 Tryd.underlying3 9998 _ _ w),
   eqF_any n1 (part_num t1 Tryd.underlying3 (off := f1.offset) (by rw [o1]; exact x1) w) (part_num t1 Tryd.underlying3 (off := f1.offset) (by rw [o1]; exact y1) w) (eq_num t1 Tryd.underlying3 9998 _ _ w),
   eqF_any n2 (rpart_hash t2 (off := f2.offset) (by rw [o2]; exact xi) w) (rpart_hash t2 (off := f2.offset) (by rw [o2]; exact yi) w) (req_hash t2 9997 hx.1 hy.1 w),
   eqF_any n3 (part_num t3 Tryd.underlying22 (off := f3.offset) (by rw [o3]; exact x34) w) (part_num t3 Tryd.underlying22 (off := f3.offset) (by rw [o3]; exact y34) w) (eq_num t3 Tryd.underlying22 9998 _ _ w),
   eqF_any n4 (rpart_hash t4 (off := f4.offset) (by rw [o4]; exact xl) w) (rpart_hash t4 (off := f4.offset) (by rw [o4]; exact yl) w) (req_hash t4 9997 hx.2.1 hy.2.1 w),
   eqF_any n5 (part_num t5 Tryd.underlying3 (off := f5.offset) (by rw [o5]; exact x67) w) (part_num t5 Tryd.underlying3 (off := f5.offset) (by rw [o5]; exact y67) w) (eq_num t5 Tryd.underlying3 9998 _ _ w), eqF_nil]
 have hd : (x = y) ↔ (x.no = y.no ∧ x.frm = y.frm ∧ x.id = y.id ∧ x.am = y.am ∧ x.lock = y.lock ∧ x.til = y.til) := by
   cases x; cases y; simp
 have hdd : decide (x = y) = decide (x.no = y.no ∧ x.frm = y.frm ∧ x.id = y.id ∧ x.am = y.am ∧ x.lock = y.lock ∧ x.til = y.til) := by
   by_cases e : x = y
   · rw [decide_eq_true e, decide_eq_true (hd.1 e)]
   · rw [decide_eq_false e, decide_eq_false (fun e2 => e (hd.2 e2))]
 rw [hdd]
 clear hd hdd x0 x1 x34 x67 y0 y1 y34 y67 xi xl yi yl split2
 by_cases h0 : x.no = y.no
 · by_cases h1 : x.frm = y.frm
   · by_cases h2 : x.id = y.id
     · by_cases h3 : x.am = y.am
       · have h3' : (x.am : Int) = (y.am : Int) := by omega
         by_cases h4 : x.lock = y.lock
         · by_cases h5 : x.til = y.til
           · simp [h0, h1, h2, h3, h4, h5]
           · simp [h0, h1, h2, h3, h4, h5]
         · simp [h0, h1, h2, h3, h4]
       · have h3' : ¬ (x.am : Int) = (y.am : Int) := by omega
         simp [h0, h1, h2, h3, h3']
     · simp [h0, h1, h2]
   · simp [h0, h1]
 · simp [h0]
end Go.Proofs.YtcekammjpghjnaaDoor
