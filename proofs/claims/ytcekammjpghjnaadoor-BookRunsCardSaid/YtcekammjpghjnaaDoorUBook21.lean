/- The steps of a script among the arguments: where they lie, what they are. -/
import Derived.Test.YtcekammjpghjnaaDoorWs
import Derived.Test.YtcekammjpghjnaaDoorUBook20
import Derived.Test.YtcekammjpghjnaaDoorURead
namespace Go.Proofs.YtcekammjpghjnaaDoor
set_option linter.unusedVariables false
set_option linter.unusedSimpArgs false
open Go.ChangeShapes Go.WideShapes Go.ChangeAt Go.RowKit Go.Maps

structure Stp where
 (K side : Int)
 id : List Nat
 n : Nat
 o : Off
 no : Int
 sec : List Nat
 right : Bool
def Stp.cells (s : Stp) : List Value := [.int .i64 s.K, .int .i64 s.side] ++ (bcells s.id ++ (.int .u64 (s.n : Int) :: (s.o.cells ++ (.int .i64 s.no :: (bcells s.sec ++ [.bool s.right])))))
structure Stp.ok (s : Stp) : Prop where
 id : IsHash s.id
 n : s.n < 18446744073709551616
 o : s.o.ok
 sec : IsHash s.sec
theorem Stp.length (s : Stp) (h : s.ok) : s.cells.length = 137 := by
 simp [Stp.cells, bcells_length, h.id.1, h.sec.1, s.o.length h.o]
theorem stp_one (s : Stp) : ∀ v ∈ s.cells, v.oneCell' = true := by
 intro v hv
 simp only [Stp.cells, List.mem_append, List.mem_cons, List.not_mem_nil, or_false] at hv
 rcases hv with (rfl | rfl) | hv | rfl | hv | rfl | hv | rfl
 · rfl
 · rfl
 · exact bcells_oneC _ v hv
 · rfl
 · exact off_one _ v hv
 · rfl
 · exact bcells_oneC _ v hv
 · rfl

section
variable {H : Type} {enc : TypeId × Value → H} {P : Program} {w : World} {base : Nat} {spare : Nat → Bool} {held : Bool}
theorem hash_cells {t e m : Nat} {cs : List Value} {y : Option (DataW H × List MemPlace)} (ht : P.underlying t = some (.array 32 e)) (he : P.underlying e = some (.int .u8)) (h1 : P.cellsOf e = 1) (h32 : P.cellsOf t = 32)
  (h : DataW.trod enc P w base spare held m t cs = y) (hy : y.isSome = true) : ∃ ks, cs = bcells ks ∧ IsHash ks := by
 obtain ⟨z, rfl⟩ := Option.isSome_iff_exists.1 hy
 obtain ⟨xs, m, _, hx, hlen, hn, hall⟩ := DataW.trod_array ht h
 rw [h32] at hlen
 obtain ⟨e1, e2⟩ := bytes_of_cells cs hlen (by
  intro i hi
  have := hall i hi
  rw [h1, Nat.mul_one, List.getElem?_eq_getElem (by omega)] at this
  obtain ⟨n, hn1, _, hw⟩ := DataW.trod_int he this
  rw [List.drop_eq_getElem_cons (by omega)] at hn1
  simp only [List.take_succ_cons, List.take_zero, List.cons.injEq, and_true] at hn1
  have hb := bounds_u8 hw
  refine ⟨n.toNat, ?_, by omega⟩
  rw [List.getElem?_eq_getElem (by omega), hn1, Int.toNat_of_nonneg hb.1])
 exact ⟨cs.map u8Of, e1, e2⟩
theorem int_cells {k : IntKind} {t m : Nat} {cs : List Value} {y : Option (DataW H × List MemPlace)} (ht : P.underlying t = some (.int k)) (h : DataW.trod enc P w base spare held m t cs = y) (hy : y.isSome = true) :
  ∃ n, cs = [.int k n] ∧ (Lit.int k n).wf = true := by
 obtain ⟨z, rfl⟩ := Option.isSome_iff_exists.1 hy
 obtain ⟨n, hn, _, hw⟩ := DataW.trod_int ht h
 exact ⟨n, hn, hw⟩
theorem bool_cells {t m : Nat} {cs : List Value} {y : Option (DataW H × List MemPlace)} (ht : P.underlying t = some .bool) (h : DataW.trod enc P w base spare held m t cs = y) (hy : y.isSome = true) :
  ∃ b, cs = [.bool b] := by
 obtain ⟨z, rfl⟩ := Option.isSome_iff_exists.1 hy
 cases m with
 | zero => simp [DataW.trod] at h
 | succ m =>
  unfold DataW.trod at h
  rw [ht] at h
  split at h <;> simp_all
end
section
variable {H : Type} {enc : TypeId × Value → H} {P : Program} {w : World} {base : Nat} {spare : Nat → Bool} {held : Bool}
theorem hash_cut {t e m i : Nat} {cs : List Value} {y : Option (DataW H × List MemPlace)} (ht : P.underlying t = some (.array 32 e)) (he : P.underlying e = some (.int .u8)) (h1 : P.cellsOf e = 1) (h32 : P.cellsOf t = 32)
  (h : DataW.trod enc P w base spare held m t ((cs.drop i).take (P.cellsOf t)) = y) (hy : y.isSome = true) : ∃ ks, (cs.drop i).take 32 = bcells ks ∧ IsHash ks := by
 have := hash_cells ht he h1 h32 h hy
 rwa [h32] at this
theorem int_cut {k : IntKind} {t m i : Nat} {cs : List Value} {y : Option (DataW H × List MemPlace)} (ht : P.underlying t = some (.int k)) (h1 : P.cellsOf t = 1) (h : DataW.trod enc P w base spare held m t ((cs.drop i).take (P.cellsOf t)) = y) (hy : y.isSome = true) :
  ∃ n, (cs.drop i).take 1 = [.int k n] ∧ (Lit.int k n).wf = true := by
 have := int_cells ht h hy
 rwa [h1] at this
theorem bool_cut {t m i : Nat} {cs : List Value} {y : Option (DataW H × List MemPlace)} (ht : P.underlying t = some .bool) (h1 : P.cellsOf t = 1) (h : DataW.trod enc P w base spare held m t ((cs.drop i).take (P.cellsOf t)) = y) (hy : y.isSome = true) :
  ∃ b, (cs.drop i).take 1 = [.bool b] := by
 have := bool_cells ht h hy
 rwa [h1] at this
end
theorem cut_list (l : List Value) (i n : Nat) : l.drop i = (l.drop i).take n ++ l.drop (i + n) := by
 rw [← List.drop_drop]; exact (List.take_append_drop n (l.drop i)).symm

section
variable {H : Type} {enc : TypeId × Value → H} {w : World} {base : Nat} {spare : Nat → Bool} {held : Bool}
theorem open_off {m : Nat} {cs : List Value} {y : Option (DataW H × List MemPlace)} (h : DataW.trod enc Tryd.prog w base spare held m 42 cs = y) (hy : y.isSome = true) (hl : cs.length = 68) :
  ∃ o : Off, cs = o.cells ∧ o.ok := by
 obtain ⟨z, rfl⟩ := Option.isSome_iff_exists.1 hy
 obtain ⟨xs, m2, _, _, _, hn, hf⟩ := DataW.trod_struct Tryd.underlying42 h
 have hn6 : xs.length = 6 := hn
 have hsome : ∀ j, j < 6 → (xs[j]?).isSome = true := fun j hj => by rw [List.getElem?_eq_getElem (by omega)]; rfl
 have c2 : Tryd.prog.cellsOf 39 = 32 := by kernel_rfl
 obtain ⟨a0, e0, w0⟩ := int_cut (i := 0) Tryd.underlying3 (by kernel_rfl) (hf 0 _ rfl) (hsome 0 (by decide))
 obtain ⟨a1, e1, w1⟩ := int_cut (i := 1) Tryd.underlying3 (by kernel_rfl) (hf 1 _ rfl) (hsome 1 (by decide))
 obtain ⟨a2, e2, w2⟩ := hash_cut (i := 2) Tryd.underlying39 Tryd.underlying5 (by kernel_rfl) c2 (hf 2 _ rfl) (hsome 2 (by decide))
 obtain ⟨a3, e3, w3⟩ := int_cut (i := 34) Tryd.underlying22 (by kernel_rfl) (hf 3 _ rfl) (hsome 3 (by decide))
 obtain ⟨a4, e4, w4⟩ := hash_cut (i := 35) Tryd.underlying39 Tryd.underlying5 (by kernel_rfl) c2 (hf 4 _ rfl) (hsome 4 (by decide))
 obtain ⟨a5, e5, w5⟩ := int_cut (i := 67) Tryd.underlying3 (by kernel_rfl) (hf 5 _ rfl) (hsome 5 (by decide))
 have hb3 := bounds_u64 w3
 obtain ⟨n3, rfl⟩ : ∃ n : Nat, a3 = n := ⟨a3.toNat, by omega⟩
 refine ⟨⟨a0, a1, a2, n3, a4, a5⟩, ?_, w2, w4, by show n3 < _; omega⟩
 have f0 := cut_list cs 0 1
 have f1 := cut_list cs 1 1
 have f2 := cut_list cs 2 32
 have f3 := cut_list cs 34 1
 have f4 := cut_list cs 35 32
 have f5 := cut_list cs 67 1
 have f6 : cs.drop 68 = [] := List.drop_eq_nil_of_le (by omega)
 simp only [Nat.reduceAdd] at f0 f1 f2 f3 f4 f5
 rw [List.drop_zero] at f0
 rw [f0, f1, f2, f3, f4, f5, f6]
 have e0' : (cs.take 1) = [.int .i64 a0] := by rw [List.drop_zero] at e0; exact e0
 have e1' : ((cs.drop 1).take 1) = [.int .i64 a1] := e1
 have e2' : ((cs.drop 2).take 32) = bcells a2 := e2
 have e3' : ((cs.drop 34).take 1) = [.int .u64 (n3 : Int)] := e3
 have e4' : ((cs.drop 35).take 32) = bcells a4 := e4
 have e5' : ((cs.drop 67).take 1) = [.int .i64 a5] := e5
 rw [e0', e1', e2', e3', e4', e5']
 simp [Off.cells]
theorem off_cut {m i : Nat} {cs : List Value} {y : Option (DataW H × List MemPlace)} (h : DataW.trod enc Tryd.prog w base spare held m 42 ((cs.drop i).take (Tryd.prog.cellsOf 42)) = y) (hy : y.isSome = true) (hl : i + 68 ≤ cs.length) :
  ∃ o : Off, (cs.drop i).take 68 = o.cells ∧ o.ok := by
 have c4 : Tryd.prog.cellsOf 42 = 68 := by kernel_rfl
 rw [c4] at h
 exact open_off h hy (by rw [List.length_take, List.length_drop]; omega)
theorem open_stp {m : Nat} {cs : List Value} {y : Option (DataW H × List MemPlace)} (h : DataW.trod enc Tryd.prog w base spare held m 44 cs = y) (hy : y.isSome = true) (hl : cs.length = 137) :
  ∃ s : Stp, cs = s.cells ∧ s.ok := by
 obtain ⟨z, rfl⟩ := Option.isSome_iff_exists.1 hy
 obtain ⟨xs, m2, _, _, _, hn, hf⟩ := DataW.trod_struct Tryd.underlying44 h
 have hn8 : xs.length = 8 := hn
 have hsome : ∀ j, j < 8 → (xs[j]?).isSome = true := fun j hj => by rw [List.getElem?_eq_getElem (by omega)]; rfl
 have c2 : Tryd.prog.cellsOf 39 = 32 := by kernel_rfl
 obtain ⟨a0, e0, w0⟩ := int_cut (i := 0) Tryd.underlying3 (by kernel_rfl) (hf 0 _ rfl) (hsome 0 (by decide))
 obtain ⟨a1, e1, w1⟩ := int_cut (i := 1) Tryd.underlying3 (by kernel_rfl) (hf 1 _ rfl) (hsome 1 (by decide))
 obtain ⟨a2, e2, w2⟩ := hash_cut (i := 2) Tryd.underlying39 Tryd.underlying5 (by kernel_rfl) c2 (hf 2 _ rfl) (hsome 2 (by decide))
 obtain ⟨a3, e3, w3⟩ := int_cut (i := 34) Tryd.underlying22 (by kernel_rfl) (hf 3 _ rfl) (hsome 3 (by decide))
 obtain ⟨a4, e4, w4⟩ := off_cut (i := 35) (hf 4 _ rfl) (hsome 4 (by decide)) (by omega)
 obtain ⟨a5, e5, w5⟩ := int_cut (i := 103) Tryd.underlying3 (by kernel_rfl) (hf 5 _ rfl) (hsome 5 (by decide))
 obtain ⟨a6, e6, w6⟩ := hash_cut (i := 104) Tryd.underlying39 Tryd.underlying5 (by kernel_rfl) c2 (hf 6 _ rfl) (hsome 6 (by decide))
 obtain ⟨a7, e7⟩ := bool_cut (i := 136) Tryd.underlying4 (by kernel_rfl) (hf 7 _ rfl) (hsome 7 (by decide))
 have hb3 := bounds_u64 w3
 obtain ⟨n3, rfl⟩ : ∃ n : Nat, a3 = n := ⟨a3.toNat, by omega⟩
 refine ⟨⟨a0, a1, a2, n3, a4, a5, a6, a7⟩, ?_, w2, by show n3 < _; omega, w4, w6⟩
 have f0 := cut_list cs 0 1
 have f1 := cut_list cs 1 1
 have f2 := cut_list cs 2 32
 have f3 := cut_list cs 34 1
 have f4 := cut_list cs 35 68
 have f5 := cut_list cs 103 1
 have f6 := cut_list cs 104 32
 have f7 := cut_list cs 136 1
 have f8 : cs.drop 137 = [] := List.drop_eq_nil_of_le (by omega)
 simp only [Nat.reduceAdd] at f0 f1 f2 f3 f4 f5 f6 f7
 rw [List.drop_zero] at f0
 rw [f0, f1, f2, f3, f4, f5, f6, f7, f8]
 have e0' : (cs.take 1) = [.int .i64 a0] := by rw [List.drop_zero] at e0; exact e0
 have e1' : ((cs.drop 1).take 1) = [.int .i64 a1] := e1
 have e2' : ((cs.drop 2).take 32) = bcells a2 := e2
 have e3' : ((cs.drop 34).take 1) = [.int .u64 (n3 : Int)] := e3
 have e4' : ((cs.drop 35).take 68) = a4.cells := e4
 have e5' : ((cs.drop 103).take 1) = [.int .i64 a5] := e5
 have e6' : ((cs.drop 104).take 32) = bcells a6 := e6
 have e7' : ((cs.drop 136).take 1) = [.bool a7] := e7
 rw [e0', e1', e2', e3', e4', e5', e6', e7']
 simp [Stp.cells]

def Steps (w : World) (A : Option Addr) (n : Nat) (ss : List Stp) : Prop :=
 n ≤ maxLen ∧ ss.length = n ∧ (∀ s ∈ ss, s.ok) ∧ ∃ b off, (0 < n → A = some ⟨b, off, none⟩ ∧ b < w.heap.size) ∧ ∀ i s, ss[i]? = some s → w.rangeAt b (off + i * 137) s.cells
theorem open_steps {A : Option Addr} {n c : Nat} {d : DataW H} {p : List MemPlace} (h : DataW.Trod enc Tryd.prog w base spare held 24 (.slice A n c) d p) : ∃ ss, Steps w A n ss := by
 obtain ⟨hm, b, off, hA, hall⟩ := open_rows Tryd.underlying24 (k := 137) (by kernel_rfl) (by decide) h
 have ho : ∀ i, i < n → ∃ s : Stp, s.ok ∧ w.rangeAt b (off + i * 137) s.cells := fun i hi => by
  obtain ⟨cs, m, x, hl, hc, htr⟩ := hall i hi
  obtain ⟨s, hs, hok⟩ := open_stp htr rfl hl
  refine ⟨s, hok, fun j v hv => ?_⟩
  have hj := (List.getElem?_eq_some_iff.1 hv).1
  rw [s.length hok] at hj
  rw [hc j hj, hs]; exact hv
 have mk : ∀ m, m ≤ n → ∃ ss : List Stp, ss.length = m ∧ (∀ s ∈ ss, s.ok) ∧ ∀ i s, ss[i]? = some s → w.rangeAt b (off + i * 137) s.cells := fun m => by
  induction m with
  | zero => exact fun _ => ⟨[], rfl, fun s hs => (by cases hs), fun i s hi => (by simp at hi)⟩
  | succ m ih =>
   intro hm
   obtain ⟨ss, h1, h2, h3⟩ := ih (by omega)
   obtain ⟨s, hs, hr⟩ := ho m (by omega)
   refine ⟨ss ++ [s], by simp [h1], fun t ht => ?_, fun i t hi => ?_⟩
   · rcases List.mem_append.1 ht with e | e
     · exact h2 t e
     · rw [List.mem_singleton.1 e]; exact hs
   · rcases Nat.lt_or_ge i m with e | e
     · rw [List.getElem?_append_left (by omega)] at hi; exact h3 i t hi
     · rw [List.getElem?_append_right (by omega), List.getElem?_singleton] at hi
       split at hi
       · injection hi with hi
         subst hi
         have : i = m := by omega
         subst this; exact hr
       · cases hi
 obtain ⟨ss, h1, h2, h3⟩ := mk n (Nat.le_refl _)
 refine ⟨ss, hm, h1, h2, b, off, fun hn => ⟨hA hn, ?_⟩, h3⟩
 obtain ⟨s, hs⟩ : ∃ s, ss[0]? = some s := ⟨_, List.getElem?_eq_getElem (by omega)⟩
 have := h3 0 s hs 0 (.int .i64 s.K) rfl
 exact World.block_lt_of_cell? w _ this
end

theorem stp_get {s : Stp} (h : s.ok) : s.cells[0]? = some (.int .i64 s.K) ∧ s.cells[1]? = some (.int .i64 s.side) ∧ s.cells[34]? = some (.int .u64 (s.n : Int)) ∧ s.cells[103]? = some (.int .i64 s.no) ∧ s.cells[136]? = some (.bool s.right) := by
 have l1 := bcells_length s.id
 have l2 := s.o.length h.o
 have l3 := bcells_length s.sec
 rw [h.id.1] at l1
 rw [h.sec.1] at l3
 refine ⟨rfl, rfl, ?_, ?_, ?_⟩
 · rw [Stp.cells, List.getElem?_append_right (by simp), List.getElem?_append_right (by simp; omega)]
   simp [l1]
 · rw [Stp.cells, List.getElem?_append_right (by simp), List.getElem?_append_right (by simp; omega)]
   simp [l1]
   rw [List.getElem?_append_right (by omega), l2]
   rfl
 · rw [Stp.cells, List.getElem?_append_right (by simp), List.getElem?_append_right (by simp; omega)]
   simp [l1]
   rw [List.getElem?_append_right (by omega), l2]
   simp
   rw [List.getElem?_append_right (by omega), l3]
   rfl
theorem range_mid {w : World} {g o : Nat} {a b c : List Value} (h : w.rangeAt g o (a ++ (b ++ c))) : w.rangeAt g (o + a.length) b := fun j v hv => by
 have hj := (List.getElem?_eq_some_iff.1 hv).1
 have := h (a.length + j) v (by rw [List.getElem?_append_right (by omega), List.getElem?_append_left (by omega)]; rw [show a.length + j - a.length = j by omega]; exact hv)
 rw [← Nat.add_assoc] at this
 exact this
theorem stp_id {w : World} {G : Nat} {t : TypeId} {s : Stp} (h : Has w G t s.cells.toArray) : w.rangeAt G 2 (bcells s.id) := by
 have := range_mid (a := [.int .i64 s.K, .int .i64 s.side]) h.range
 exact this
theorem stp_off {w : World} {G : Nat} {t : TypeId} {s : Stp} (hs : s.ok) (h : Has w G t s.cells.toArray) : w.rangeAt G 35 s.o.cells := by
 have e : s.cells = ([.int .i64 s.K, .int .i64 s.side] ++ bcells s.id ++ [.int .u64 (s.n : Int)]) ++ (s.o.cells ++ (.int .i64 s.no :: (bcells s.sec ++ [.bool s.right]))) := by simp [Stp.cells]
 have h' := h.range
 rw [e] at h'
 have := range_mid h'
 have hl : ([.int .i64 s.K, .int .i64 s.side] ++ bcells s.id ++ [.int .u64 (s.n : Int)] : List Value).length = 35 := by simp [bcells_length, hs.id.1]
 rw [hl] at this
 exact this
theorem stp_sec {w : World} {G : Nat} {t : TypeId} {s : Stp} (hs : s.ok) (h : Has w G t s.cells.toArray) : w.rangeAt G 104 (bcells s.sec) := by
 have e : s.cells = ([.int .i64 s.K, .int .i64 s.side] ++ bcells s.id ++ [.int .u64 (s.n : Int)] ++ s.o.cells ++ [.int .i64 s.no]) ++ (bcells s.sec ++ [.bool s.right]) := by simp [Stp.cells]
 have h' := h.range
 rw [e] at h'
 have := range_mid h'
 have hl : ([.int .i64 s.K, .int .i64 s.side] ++ bcells s.id ++ [.int .u64 (s.n : Int)] ++ s.o.cells ++ [.int .i64 s.no] : List Value).length = 104 := by simp [bcells_length, hs.id.1, s.o.length hs.o]
 rw [hl] at this
 exact this
end Go.Proofs.YtcekammjpghjnaaDoor

