/- The walk of sha.Sum: the digest of parts. -/
import Derived.Test.YtngmpcmeebcdmaaDoorSha6
namespace Go.Proofs.YtngmpcmeebcdmaaDoor
set_option linter.unusedVariables false
set_option linter.unusedSimpArgs false
open Go.ChangeShapes Go.WideShapes Go.ChangeAt Go.RowKit

/-- a slice of slices of bytes that lies somewhere. -/
def Parts (w : World) (v : Value) (ps : List (List Nat)) : Prop :=
  ∃ a c, v = .slice a ps.length c ∧ (0 < ps.length → ∃ pg po, a = some ⟨pg, po, none⟩ ∧ ∀ i, i < ps.length → ∃ pv, w.cell? ⟨pg, po + i, none⟩ = some pv ∧ Bytes w w.heap.size pv (ps.getD i []))

theorem Bytes.up {w : World} {g g' : Nat} {v : Value} {b : List Nat} (h : Bytes w g v b) (hg : w.heap.size ≤ g') : Bytes w g' v b := by
  obtain ⟨a, c, rfl, h1, h2, h3⟩ := h
  refine ⟨a, c, rfl, h1, h2, fun h => ?_⟩
  obtain ⟨bg, bo, rfl, hne, hc⟩ := h3 h
  have := World.block_lt_of_cell? w _ (hc 0 h)
  exact ⟨bg, bo, rfl, by dsimp only at this; omega, hc⟩
theorem Bytes.alive {w w' : World} {g g' : Nat} {v : Value} {b : List Nat} (h : Bytes w g v b) (hb : Below w.heap.size w w') (hg : w.heap.size ≤ g') : Bytes w' g' v b := by
  obtain ⟨a, c, rfl, h1, h2, h3⟩ := h
  refine ⟨a, c, rfl, h1, h2, fun h => ?_⟩
  obtain ⟨bg, bo, rfl, hne, hc⟩ := h3 h
  have := World.block_lt_of_cell? w _ (hc 0 h)
  exact ⟨bg, bo, rfl, by dsimp only at this; omega, fun i hi => cell_kept (Kept.of_below (S := fun _ => False) hb) (hc i hi) (fun h => h)⟩
theorem Tabs.drew {K s0 : List Wd} {w : World} (h : Tabs K s0 w) : Tabs K s0 w.drew := ⟨h.k, h.s, h.low, h.len⟩
theorem Tabs.start {K s0 : List Wd} {w : World} (h : Tabs K s0 w) : w.rangeAt 1 0 (wcells s0) := fun j v hv => by
  have hj := (List.getElem?_eq_some_iff.1 hv).1
  rw [wcells_length, h.len] at hj
  rw [Nat.zero_add, h.s j hj, ← hv, wcells_get _ _ (by rw [h.len]; exact hj)]
theorem take_flatten (ps : List (List Nat)) (k : Nat) (hk : k < ps.length) : (ps.take k).flatten ++ ps.getD k [] = (ps.take (k + 1)).flatten := by
  rw [List.take_add_one, List.flatten_append, List.getElem?_eq_getElem hk]
  simp [hk]
theorem take_flatten_le (ps : List (List Nat)) (k : Nat) : (ps.take k).flatten.length ≤ ps.flatten.length := by
  have : ps.flatten = (ps.take k).flatten ++ (ps.drop k).flatten := by rw [← List.flatten_append, List.take_append_drop]
  rw [this, List.length_append]; omega

theorem two_row (w : World) (c0 : Array Value) (t0 : TypeId) (c1 : Array Value) (t1 : TypeId) (C : Array Value) :
    Has (((w.alloc (.cells c0 t0)).alloc (.cells c1 t1)).setRow (w.heap.size + 1) C) w.heap.size t0 c0 ∧ Has (((w.alloc (.cells c0 t0)).alloc (.cells c1 t1)).setRow (w.heap.size + 1) C) (w.heap.size + 1) t1 C ∧
      Below w.heap.size w (((w.alloc (.cells c0 t0)).alloc (.cells c1 t1)).setRow (w.heap.size + 1) C) := by
  have s1 : ∀ (x : World) o, (x.alloc o).heap.size = x.heap.size + 1 := fun x o => by simp
  have h1 := Has.new (w.alloc (.cells c0 t0)) t1 c1
  rw [s1] at h1
  have hb : Below w.heap.size w ((w.alloc (.cells c0 t0)).alloc (.cells c1 t1)) := ((Below.refl _ _).alloc (Nat.le_refl _) _).alloc (by rw [s1]; omega) _
  have hk := kept_setRow (g := w.heap.size + 1) ((w.alloc (.cells c0 t0)).alloc (.cells c1 t1)) C
  exact ⟨((Has.new w t0 c0).alloc _).kept hk (by omega), h1.setRow, hb.trans (hk.below (by rw [s1, s1]; omega) (fun k hk => by have e : k = w.heap.size + 1 := hk; omega))⟩

set_option maxRecDepth 100000 in
set_option maxHeartbeats 2000000 in
theorem sum_is (K s0 : List Wd) (w : World) (v : Value) (ps : List (List Nat)) (hT : Tabs K s0 w) (hP : Parts w v ps) (hl : ps.flatten.length ≤ 1000000000) (hn : ps.length ≤ 1000000000) :
    Calls Tryd.prog 67 #[v] w fun e w' => e = .returned (arr (digest K s0 ps.flatten)) ∧ Below w.heap.size w w' := by
  obtain ⟨a, c, rfl, hps⟩ := hP
  obtain ⟨x0, x1, x2, x3, x4, x5, x6, x7, hS⟩ := eight_words _ hT.len
  have hst := hT.start
  rw [hS] at hst
  have hst2 : w.rangeAt 1 0 [Value.int .u32 (x0.toNat : Int), Value.int .u32 (x1.toNat : Int), Value.int .u32 (x2.toNat : Int), Value.int .u32 (x3.toNat : Int), Value.int .u32 (x4.toNat : Int), Value.int .u32 (x5.toNat : Int), Value.int .u32 (x6.toNat : Int), Value.int .u32 (x7.toNat : Int)] := hst
  obtain ⟨n, hnn⟩ : ∃ n, n = ps.length := ⟨_, rfl⟩
  rw [← hnn] at hn hps
  rw [← hnn]
  have HN := Lib.hid hnn
  have HPS := Lib.hid hps
  have HST := Lib.hid hst2
  have HS := Lib.hid hS
  have HT := Lib.hid hT
  have HL := Lib.hid hl
  clear hT hst hst2 hS hnn hps hl
  have hC : ((((((((Tryd.zeroCells159).setIfInBounds 0 (Value.int .u32 (x0.toNat : Int))).setIfInBounds 1 (Value.int .u32 (x1.toNat : Int))).setIfInBounds 2 (Value.int .u32 (x2.toNat : Int))).setIfInBounds 3 (Value.int .u32 (x3.toNat : Int))).setIfInBounds 4 (Value.int .u32 (x4.toNat : Int))).setIfInBounds 5 (Value.int .u32 (x5.toNat : Int))).setIfInBounds 6 (Value.int .u32 (x6.toNat : Int))).setIfInBounds 7 (Value.int .u32 (x7.toNat : Int)) = (hcells [x0, x1, x2, x3, x4, x5, x6, x7] (List.replicate 64 0) 0 0).toArray := by kernel_rfl
  have hC1 : (Tryd.prog.info? 159).map (·.size) = some (((((((((Tryd.zeroCells159).setIfInBounds 0 (Value.int .u32 (x0.toNat : Int))).setIfInBounds 1 (Value.int .u32 (x1.toNat : Int))).setIfInBounds 2 (Value.int .u32 (x2.toNat : Int))).setIfInBounds 3 (Value.int .u32 (x3.toNat : Int))).setIfInBounds 4 (Value.int .u32 (x4.toNat : Int))).setIfInBounds 5 (Value.int .u32 (x5.toNat : Int))).setIfInBounds 6 (Value.int .u32 (x6.toNat : Int))).setIfInBounds 7 (Value.int .u32 (x7.toNat : Int))).size := by rw [hC]; kernel_rfl
  have hC2 : Tryd.zeroCells159.size = (((((((((Tryd.zeroCells159).setIfInBounds 0 (Value.int .u32 (x0.toNat : Int))).setIfInBounds 1 (Value.int .u32 (x1.toNat : Int))).setIfInBounds 2 (Value.int .u32 (x2.toNat : Int))).setIfInBounds 3 (Value.int .u32 (x3.toNat : Int))).setIfInBounds 4 (Value.int .u32 (x4.toNat : Int))).setIfInBounds 5 (Value.int .u32 (x5.toNat : Int))).setIfInBounds 6 (Value.int .u32 (x6.toNat : Int))).setIfInBounds 7 (Value.int .u32 (x7.toNat : Int))).size := by rw [hC]; kernel_rfl
  have hC3 : (((((((((Tryd.zeroCells159).setIfInBounds 0 (Value.int .u32 (x0.toNat : Int))).setIfInBounds 1 (Value.int .u32 (x1.toNat : Int))).setIfInBounds 2 (Value.int .u32 (x2.toNat : Int))).setIfInBounds 3 (Value.int .u32 (x3.toNat : Int))).setIfInBounds 4 (Value.int .u32 (x4.toNat : Int))).setIfInBounds 5 (Value.int .u32 (x5.toNat : Int))).setIfInBounds 6 (Value.int .u32 (x6.toNat : Int))).setIfInBounds 7 (Value.int .u32 (x7.toNat : Int))).all (·.oneCell') = true := by rw [hC]; kernel_rfl
  have HC := Lib.hid hC
  have HC1 := Lib.hid hC1
  have HC2 := Lib.hid hC2
  have HC3 := Lib.hid hC3
  clear hC hC1 hC2 hC3
  go_enter Tryd.func67, Tryd.ntmps67
  go_wp2_with (first
    | (refine wpList_load_mid rfl 66 (.global 1) rfl 1 0 rfl [Value.int .u32 (x0.toNat : Int), Value.int .u32 (x1.toNat : Int), Value.int .u32 (x2.toNat : Int), Value.int .u32 (x3.toNat : Int), Value.int .u32 (x4.toNat : Int), Value.int .u32 (x5.toNat : Int), Value.int .u32 (x6.toNat : Int), Value.int .u32 (x7.toNat : Int)] _ (World.rangeAt_alloc HST.out _) Tryd.underlying66 rfl (by kernel_rfl) ?_)
    | (refine wpList_store_row rfl 159 (.tmp 3) (.tmp 7) rfl (w.heap.size + 1) (((((((((Tryd.zeroCells159).setIfInBounds 0 (Value.int .u32 (x0.toNat : Int))).setIfInBounds 1 (Value.int .u32 (x1.toNat : Int))).setIfInBounds 2 (Value.int .u32 (x2.toNat : Int))).setIfInBounds 3 (Value.int .u32 (x3.toNat : Int))).setIfInBounds 4 (Value.int .u32 (x4.toNat : Int))).setIfInBounds 5 (Value.int .u32 (x5.toNat : Int))).setIfInBounds 6 (Value.int .u32 (x6.toNat : Int))).setIfInBounds 7 (Value.int .u32 (x7.toNat : Int))) rfl rfl 159 Tryd.zeroCells159 (heap_alloc2_new w _ _) HC1.out HC2.out HC3.out ?_))
  have h3 := two_row w #[Value.int .u8 0, Value.int .u8 0, Value.int .u8 0, Value.int .u8 0, Value.int .u8 0, Value.int .u8 0, Value.int .u8 0, Value.int .u8 0, Value.int .u8 0, Value.int .u8 0, Value.int .u8 0, Value.int .u8 0, Value.int .u8 0, Value.int .u8 0, Value.int .u8 0, Value.int .u8 0, Value.int .u8 0, Value.int .u8 0, Value.int .u8 0, Value.int .u8 0, Value.int .u8 0, Value.int .u8 0, Value.int .u8 0, Value.int .u8 0, Value.int .u8 0, Value.int .u8 0, Value.int .u8 0, Value.int .u8 0, Value.int .u8 0, Value.int .u8 0, Value.int .u8 0, Value.int .u8 0] 28 Tryd.zeroCells159 159 (((((((((Tryd.zeroCells159).setIfInBounds 0 (Value.int .u32 (x0.toNat : Int))).setIfInBounds 1 (Value.int .u32 (x1.toNat : Int))).setIfInBounds 2 (Value.int .u32 (x2.toNat : Int))).setIfInBounds 3 (Value.int .u32 (x3.toNat : Int))).setIfInBounds 4 (Value.int .u32 (x4.toNat : Int))).setIfInBounds 5 (Value.int .u32 (x5.toNat : Int))).setIfInBounds 6 (Value.int .u32 (x6.toNat : Int))).setIfInBounds 7 (Value.int .u32 (x7.toNat : Int)))
  generalize ((w.alloc (.cells #[Value.int .u8 0, Value.int .u8 0, Value.int .u8 0, Value.int .u8 0, Value.int .u8 0, Value.int .u8 0, Value.int .u8 0, Value.int .u8 0, Value.int .u8 0, Value.int .u8 0, Value.int .u8 0, Value.int .u8 0, Value.int .u8 0, Value.int .u8 0, Value.int .u8 0, Value.int .u8 0, Value.int .u8 0, Value.int .u8 0, Value.int .u8 0, Value.int .u8 0, Value.int .u8 0, Value.int .u8 0, Value.int .u8 0, Value.int .u8 0, Value.int .u8 0, Value.int .u8 0, Value.int .u8 0, Value.int .u8 0, Value.int .u8 0, Value.int .u8 0, Value.int .u8 0, Value.int .u8 0] 28)).alloc (.cells Tryd.zeroCells159 159)).setRow (w.heap.size + 1) (((((((((Tryd.zeroCells159).setIfInBounds 0 (Value.int .u32 (x0.toNat : Int))).setIfInBounds 1 (Value.int .u32 (x1.toNat : Int))).setIfInBounds 2 (Value.int .u32 (x2.toNat : Int))).setIfInBounds 3 (Value.int .u32 (x3.toNat : Int))).setIfInBounds 4 (Value.int .u32 (x4.toNat : Int))).setIfInBounds 5 (Value.int .u32 (x5.toNat : Int))).setIfInBounds 6 (Value.int .u32 (x6.toNat : Int))).setIfInBounds 7 (Value.int .u32 (x7.toNat : Int))) = W at h3 ⊢
  obtain ⟨h0, h1, hbel⟩ := h3
  have hb0 : Has W w.heap.size 28 (bcells (List.replicate 32 0)).toArray := h0
  rw [HC.out, ← HS.out] at h1
  have hh : Hsh K s0 W (w.heap.size + 1) [] := ⟨List.replicate 64 0, ⟨h1, HT.out.len, List.length_replicate, fun x hx => by rw [List.eq_of_mem_replicate hx]; decide⟩, rfl, by decide⟩
  have H0 := Lib.hid hb0
  have H1 := Lib.hid hh
  have HBEL := Lib.hid hbel
  clear h0 h1 hbel hb0 hh HC HC1 HC2 HC3 HST
  go_loopw [10] (fun i wr => ∃ k : Nat, k ≤ n ∧ i = .int .i64 k ∧ Hsh K s0 wr (w.heap.size + 1) (ps.take k).flatten ∧ Kept (· = w.heap.size + 1) W wr) (fun i _ => n - (intOf i).toNat)
  case atStart => exact ⟨0, by omega, rfl, H1.out, Kept.refl _ _⟩
  case round =>
    obtain ⟨k, hk, rfl, hW, hK⟩ := hrel
    have HW := Lib.hid hW
    have HKR := Lib.hid hK
    clear hW hK
    by_cases hlt : k < n
    · have hn0 : 0 < n := by omega
      obtain ⟨pg, po, hpa, hrow⟩ := HPS.out hn0
      obtain ⟨pv, hpv, hB⟩ := hrow k hlt
      clear hrow
      subst hpa
      have hpl := World.block_lt_of_cell? w _ hpv
      have cpv : wr.cell? ⟨pg, po + k, none⟩ = some pv := by
        have h := cell_kept HBEL.out.kept_up hpv (by dsimp only at hpl; show ¬ w.heap.size ≤ pg; omega)
        exact cell_kept HKR.out h (by dsimp only at hpl; show ¬ pg = w.heap.size + 1; omega)
      have hBw : Bytes wr (w.heap.size + 1) pv (ps.getD k []) := (hB.alive HBEL.out (Nat.le_succ _)).kept HKR.out
      have HBW := Lib.hid hBw
      obtain ⟨pa, pn, pc, rfl⟩ : ∃ pa pn pc, pv = .slice pa pn pc := by obtain ⟨a', c', e, _⟩ := hB; exact ⟨_, _, _, e⟩
      clear hB hBw hpv hpl
      go_wp2_with fail
      have hTw := HT.out.kept (HBEL.out.kept_up.trans (HKR.out.mono (fun k _ e => by have e' : k = w.heap.size + 1 := e; show w.heap.size ≤ k; omega))) (fun k hk => Nat.le_trans HT.out.low hk)
      have hlen : (ps.take k).flatten.length + (ps.getD k []).length ≤ 1000000000 := by
        have := take_flatten_le ps (k + 1)
        rw [← take_flatten ps k (by rw [← HN.out]; exact hlt), List.length_append] at this
        have := HL.out
        omega
      refine (write_is K s0 wr (w.heap.size + 1) (ps.take k).flatten _ (ps.getD k []) hTw HW.out (by have := HT.out.low; omega) HBW.out hlen).mono ?_
      rintro _ w4 ⟨rfl, hh4, hk4⟩
      rw [take_flatten ps k (by rw [← HN.out]; exact hlt)] at hh4
      have HH4 := Lib.hid hh4
      have HK4 := Lib.hid (HKR.out.trans hk4)
      clear hTw hlen hh4 hk4 HW HKR HBW
      go_wp2
      go_roundw
      case rel => exact ⟨k + 1, by omega, by go_num, HH4.out, HK4.out⟩
      case measure => simp [intOf]; omega
    · have hk9 : k = n := by omega
      have hTw := HT.out.kept (HBEL.out.kept_up.trans (HKR.out.mono (fun k _ e => by have e' : k = w.heap.size + 1 := e; show w.heap.size ≤ k; omega))) (fun k hk => Nat.le_trans HT.out.low hk)
      have h0 := H0.out.kept HKR.out (by omega)
      have hh : Hsh K s0 wr (w.heap.size + 1) ps.flatten := by
        have := HW.out
        rw [hk9, HN.out, List.take_length] at this
        exact this
      have hkk : Kept (fun k => w.heap.size ≤ k) w wr := HBEL.out.kept_up.trans (HKR.out.mono (fun k _ e => by have e' : k = w.heap.size + 1 := e; show w.heap.size ≤ k; omega))
      have HTW := Lib.hid hTw
      have HH0 := Lib.hid h0
      have HHH := Lib.hid hh
      have HKK := Lib.hid hkk
      clear hk9 hTw h0 hh hkk HW HKR
      go_wp2_with fail
      refine (hsum_is K s0 wr (w.heap.size + 1) ps.flatten HTW.out HHH.out).mono ?_
      rintro _ w5 ⟨rfl, hb5⟩
      have h05 := HH0.out.below hb5 HH0.out.lt
      have hk5 : Kept (fun k => w.heap.size ≤ k) w w5 := HKK.out.trans ((Kept.of_below (S := fun k => w.heap.size ≤ k) hb5))
      have h32 := digest_length K s0 HT.out.len ps.flatten
      obtain ⟨D, hDD⟩ : ∃ D, D = digest K s0 ps.flatten := ⟨_, rfl⟩
      rw [← hDD] at h32 ⊢
      have hsz : (Tryd.prog.info? 28).map (·.size) = some (bcells D).toArray.size := by rw [List.size_toArray, bcells_length, h32]; kernel_rfl
      have hsz2 : (bcells (List.replicate 32 0)).toArray.size = (bcells D).toArray.size := by rw [List.size_toArray, List.size_toArray, bcells_length, bcells_length, h32, List.length_replicate]
      have hres : Has (w5.setRow w.heap.size (bcells D).toArray) w.heap.size 28 (bcells D).toArray := h05.setRow
      have hbel : Below w.heap.size w (w5.setRow w.heap.size (bcells D).toArray) := (hk5.below (Nat.le_refl _) (fun k hk => hk)).trans ((kept_setRow (g := w.heap.size) w5 (bcells D).toArray).below (Nat.le_of_lt h05.lt) (fun k hk => by have e : k = w.heap.size := hk; omega))
      have HDD := Lib.hid hDD
      have HRES := Lib.hid hres
      have HBEL2 := Lib.hid hbel
      have HZ := Lib.hid hsz
      have HZ2 := Lib.hid hsz2
      have HH05 := Lib.hid h05
      clear h05 hk5 h32 hsz hsz2 hres hbel hDD hb5
      unfold arr
      go_wp2_with (refine wpList_store_row rfl 28 (.tmp 2) (.tmp 17) rfl w.heap.size (bcells D).toArray rfl rfl 28 _ HH05.out HZ.out HZ2.out (all_oneCell_toArray (bcells_one D)) ?_)
      refine bodyPost_ret (results_cell_row rfl _ _ w.heap.size 28 (bcells D).toArray (0, 0) _ rfl HRES.out Tryd.underlying28 rfl HZ.out) rfl ?_
      exact ⟨by rw [← HDD.out]; rfl, HBEL2.out⟩
end Go.Proofs.YtngmpcmeebcdmaaDoor
