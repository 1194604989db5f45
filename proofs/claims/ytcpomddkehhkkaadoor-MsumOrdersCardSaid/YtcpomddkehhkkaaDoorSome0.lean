/- The laws' helper tree: leaves at keys are put into a new tree. -/
import Derived.Test.YtcpomddkehhkkaaDoorTree15
import Derived.Test.YtcpomddkehhkkaaDoorTree14
import Derived.Deep.WholeRow
namespace Go.Proofs.YtcpomddkehhkkaaDoor
set_option linter.unusedVariables false
set_option linter.unusedSimpArgs false
open Go.ChangeShapes Go.WideShapes Go.ChangeAt Go.RowKit Go.Maps

/-- a leaf at a key, as the reference has it: its bytes lie where they lie. -/
structure Sel where
  key : List Nat
  a : Option Addr
  c : Nat
  v : List Nat
  s : Nat
  h : IsHash key
theorem z32k : IsHash (List.replicate 32 0) := ⟨List.length_replicate, fun k hk => by rw [List.eq_of_mem_replicate hk]; decide⟩
def Sel.cells (x : Sel) : List Value := bcells x.key ++ [.slice x.a x.v.length x.c, .int .u64 (x.s : Int)]
def Sel.leaf (x : Sel) : Lf := ⟨x.key, x.v, x.s⟩
structure Sel.ok (w : World) (x : Sel) : Prop where
  key : IsHash x.key
  s : x.s < 18446744073709551616
  short : x.v.length ≤ 1000
  bytes : Bytes w w.heap.size (.slice x.a x.v.length x.c) x.v
theorem Sel.ok.below {w w' : World} {x : Sel} (h : x.ok w) (hb : Below w.heap.size w w') : x.ok w' := ⟨h.key, h.s, h.short, h.bytes.alive hb hb.size⟩
theorem Sel.len {x : Sel} (h : x.key.length = 32) : x.cells.length = 34 := by simp [Sel.cells, bcells_length, h]
theorem Sel.one (x : Sel) : ∀ v ∈ x.cells, v.oneCell' = true := by
  intro v hv
  rcases List.mem_append.1 hv with h | h
  · exact bcells_oneC _ v h
  · simp only [List.mem_cons, List.not_mem_nil, or_false] at h
    rcases h with rfl | rfl <;> rfl
theorem Sel.len' (x : Sel) : x.cells.length = 34 := Sel.len x.h.1
/-- leaves in a row. -/
structure SelsAt (w : World) (A : Option Addr) (n : Nat) (xs : List Sel) : Prop where
  len : xs.length = n
  few : n ≤ 1000000
  ok : ∀ x ∈ xs, x.ok w
  at_ : 0 < n → ∃ b o, A = some ⟨b, o, none⟩ ∧ b < w.heap.size ∧ ∀ (i : Nat) x, xs[i]? = some x → w.rangeAt b (o + i * 34) x.cells
def buildT (xs : List Sel) : List Lf := xs.foldl (fun T x => putN T x.leaf) []
theorem buildT_take (xs : List Sel) (k : Nat) (x : Sel) (h : xs[k]? = some x) : buildT (xs.take (k + 1)) = putN (buildT (xs.take k)) x.leaf := by
  unfold buildT
  rw [List.take_add_one, h]
  simp [List.foldl_append]
theorem zero_sel : ∃ Z : Array Value, (∀ w, (zeroValue 63).run Tryd.prog w = .ok (.agg Z) w) ∧ Z.size = 34 ∧ ¬ Z = #[] := by
  have hs : (Sel.cells ⟨List.replicate 32 0, none, 0, [], 0, z32k⟩).toArray.size = 34 := by kernel_rfl
  exact ⟨_, fun w => by kernel_rfl, hs, fun e => by rw [e] at hs; cases hs⟩
theorem sel_get {x : Sel} (h : x.key.length = 32) : x.cells[32]? = some (.slice x.a x.v.length x.c) ∧ x.cells[33]? = some (.int .u64 (x.s : Int)) := by
  have l := bcells_length x.key
  rw [h] at l
  constructor
  · rw [Sel.cells, List.getElem?_append_right (by omega), l]; rfl
  · rw [Sel.cells, List.getElem?_append_right (by omega), l]; rfl
theorem sel_key {w : World} {G : Nat} {t : TypeId} {x : Sel} (h : Has w G t x.cells.toArray) : w.rangeAt G 0 (bcells x.key) := fun j u hu => by
  rw [Nat.zero_add]
  refine h.cell_is ?_
  rw [List.getElem?_toArray, Sel.cells, List.getElem?_append_left (List.getElem?_eq_some_iff.1 hu).1]
  exact hu

set_option maxRecDepth 100000 in
set_option maxHeartbeats 4000000 in
theorem tree_is (K s0 : List Wd) (hl8 : s0.length = 8) (w : World) (A : Option Addr) (n c : Nat) (xs : List Sel) (hxs : SelsAt w A n xs)
    (hput : ∀ (k : Nat) x, xs[k]? = some x → putE (buildT (xs.take k)) x.leaf = 0 ∨ (putE (buildT (xs.take k)) x.leaf = 1 ∧ x.v.length = 0 ∧ x.s = 0)) :
    Calls Tryd.prog 28 #[.slice A n c] w fun e w' => ∃ g, e = .returned (.pointer (some ⟨g, 0, none⟩)) ∧ Tr K s0 (fun j => w.heap.size ≤ j) w' g (buildT xs) ∧ Below w.heap.size w w' ∧ w.heap.size ≤ g := by
  obtain ⟨Z, hz, hzs, hzn⟩ := zero_sel
  have HXS := Lib.hid hxs
  have HPUT := Lib.hid hput
  have HL8 := Lib.hid hl8
  have hfew := hxs.few
  clear hxs hput hl8
  go_enter Tryd.func28, Tryd.ntmps28
  go_wp2_with fail
  refine (newT_is K s0 (fun j => w.heap.size ≤ j) w (fun _ h => h)).mono ?_
  rintro _ w2 ⟨g, rfl, htr, hb2, hg⟩
  have HTR := Lib.hid htr
  have HB2 := Lib.hid hb2
  have HG := Lib.hid hg
  clear htr hb2 hg
  go_wp2_with fail
  go_loopw [9] (fun i wr => ∃ k : Nat, i = .int .i64 (k : Int) ∧ k ≤ n ∧ Tr K s0 (fun j => w.heap.size ≤ j) wr g (buildT (xs.take k)) ∧ Below w.heap.size w wr) (fun i _ => n - (intOf i).toNat)
  case atStart => exact ⟨0, rfl, Nat.zero_le _, HTR.out, HB2.out⟩
  case round =>
    obtain ⟨k, rfl, hk, htr, hbel⟩ := hrel
    have HTK := Lib.hid htr
    have HBK := Lib.hid hbel
    clear htr hbel HTR
    by_cases hlt : k < n
    · obtain ⟨x, hx⟩ : ∃ x, xs[k]? = some x := ⟨_, List.getElem?_eq_getElem (by rw [HXS.out.len]; exact hlt)⟩
      have hxok := HXS.out.ok x (List.mem_of_getElem? hx)
      obtain ⟨sb, so, hA1, hA2, hr⟩ := HXS.out.at_ (by omega)
      subst hA1
      have hrw := rangeAt_kept (hr k x hx) (Kept.of_below (S := fun _ => False) HBK.out) (fun h => h)
      have hl34 := Sel.len hxok.key.1
      have HRW := Lib.hid hrw
      have SZ := Lib.hid (show (Tryd.prog.info? 63).map (·.size) = some x.cells.length by rw [hl34]; kernel_rfl)
      have SZA := Lib.hid (show (Tryd.prog.info? 63).map (·.size) = some x.cells.toArray.size by rw [List.size_toArray]; exact SZ.out)
      have HZZ := Lib.hid (show Z.size = x.cells.toArray.size by rw [hzs, List.size_toArray, hl34])
      have HONE := Lib.hid (show x.cells.toArray.all (·.oneCell') = true from all_oneCell_toArray (Sel.one x))
      have hnw : ∀ C, Has ((wr.alloc (.cells Z 63)).setRow wr.heap.size C) wr.heap.size 63 C ∧ Kept (fun _ => False) wr ((wr.alloc (.cells Z 63)).setRow wr.heap.size C) := fun C => by
        rw [World.setRow_alloc_new]
        exact ⟨Has.new wr _ _, (Kept.refl _ _).alloc _⟩
      have HNW := Lib.hid hnw
      have HOK := Lib.hid hxok
      have HX := Lib.hid hx
      clear hrw hl34 hnw hxok hx hr hA2
      go_upto_region 5 with (first
        | (refine wpList_load_mid rfl 63 (.tmp 11) rfl sb (so + k * 34) rfl x.cells _ HRW.out Tryd.underlying63 rfl SZ.out ?_)
        | (refine wpList_store_row rfl 63 (.tmp 5) (.tmp 12) rfl wr.heap.size x.cells.toArray rfl rfl 63 Z (heap_alloc_new wr _) SZA.out HZZ.out HONE.out ?_))
      obtain ⟨h3, hk3⟩ := HNW.out x.cells.toArray
      have hb3 : Below w.heap.size w ((wr.alloc (.cells Z 63)).setRow wr.heap.size x.cells.toArray) := HBK.out.trans (hk3.below HBK.out.size (fun _ h => h.elim))
      have htr3 : Tr K s0 (fun j => w.heap.size ≤ j ∧ j ≠ wr.heap.size) ((wr.alloc (.cells Z 63)).setRow wr.heap.size x.cells.toArray) g (buildT (xs.take k)) := (HTK.out.zone (S' := fun j => w.heap.size ≤ j ∧ j ≠ wr.heap.size) (fun j h1 h2 => ⟨h2, by omega⟩)).kept hk3 (fun _ _ _ h => h)
      have hsz9 : wr.heap.size < ((wr.alloc (.cells Z 63)).setRow wr.heap.size x.cells.toArray).heap.size := h3.lt
      clear HNW HRW hk3
      generalize (wr.alloc (.cells Z 63)).setRow wr.heap.size x.cells.toArray = W9 at h3 hb3 htr3 hsz9 ⊢
      generalize wr.heap.size = G at h3 htr3 hsz9 ⊢
      obtain ⟨q1, q2⟩ := sel_get HOK.out.key.1
      have c32 : W9.cell? ⟨G, 32, none⟩ = some (.slice x.a x.v.length x.c) := h3.cell_is (by rw [List.getElem?_toArray]; exact q1)
      have c33 : W9.cell? ⟨G, 33, none⟩ = some (.int .u64 (x.s : Int)) := h3.cell_is (by rw [List.getElem?_toArray]; exact q2)
      have hrk := sel_key h3
      have hok9 := (HXS.out.ok x (List.mem_of_getElem? HX.out)).below hb3
      have hp := tr_put htr3 HL8.out (fun j h => ⟨by have := hb3.size; omega, by omega⟩) x.leaf hok9.key (.slice x.a x.v.length x.c) hok9.bytes hok9.s (by have := hok9.short; show x.v.length ≤ _; omega)
      have hcase := HPUT.out k x HX.out
      obtain ⟨T', hT'⟩ : ∃ T', T' = putN (buildT (xs.take k)) x.leaf := ⟨_, rfl⟩
      have hT2 : T' = buildT (xs.take (k + 1)) := by rw [hT', buildT_take xs k x HX.out]
      obtain ⟨E, hE⟩ : ∃ E, E = putE (buildT (xs.take k)) x.leaf := ⟨_, rfl⟩
      rw [← hE] at hp hcase
      rw [← hT'] at hp
      unfold arr leafV at hp
      obtain ⟨LK, hLK⟩ : ∃ L, L = bcells x.key := ⟨_, rfl⟩
      obtain ⟨nv, hnv⟩ : ∃ m, m = x.v.length := ⟨_, rfl⟩
      obtain ⟨sv, hsv⟩ : ∃ m, m = x.s := ⟨_, rfl⟩
      change Calls Tryd.prog 33 #[.pointer (some ⟨g, 0, none⟩), .agg (bcells x.key).toArray, .agg #[.slice x.a x.v.length x.c, .int .u64 (x.s : Int)]] _ _ at hp
      rw [← hLK, ← hnv, ← hsv] at hp
      rw [← hLK] at hrk
      rw [← hnv] at c32 hcase
      rw [← hsv] at c33 hcase
      have SZK := Lib.hid (show (Tryd.prog.info? 26).map (·.size) = some LK.length by rw [hLK, bcells_length, HOK.out.key.1]; kernel_rfl)
      have HRK := Lib.hid hrk
      have HP := Lib.hid hp
      have ET := Lib.hid hT2
      have HB9 := Lib.hid hb3
      have H3 := Lib.hid h3
      clear hp hrk hb3 htr3 hok9 hT' hT2 hE hLK hnv hsv q1 q2 HTK
      go_wp2_with (refine wpList_load_mid rfl 26 (.tmp 14) rfl G 0 rfl LK _ HRK.out Tryd.underlying26 rfl SZK.out ?_)
      refine HP.out.mono ?_
      rintro _ w5 ⟨rfl, htr5, hk5⟩
      rw [ET.out] at htr5
      have HE := Lib.hid (show Tr K s0 (fun j => w.heap.size ≤ j) w5 g (buildT (xs.take (k + 1))) ∧ Below w.heap.size w w5 from ⟨htr5.zone (fun j _ h => h.1), HB9.out.trans (hk5.below HB9.out.size (fun j e => e.1))⟩)
      have e32 : w5.cell? ⟨G, 32, none⟩ = some (.slice x.a nv x.c) := cell_held hk5 c32 (fun e => e.2 rfl)
      have e33 : w5.cell? ⟨G, 33, none⟩ = some (.int .u64 (sv : Int)) := cell_held hk5 c33 (fun e => e.2 rfl)
      clear htr5 hk5 c32 c33 hsz9
      rcases hcase with rfl | ⟨rfl, rfl, rfl⟩
      · go_wp2
        go_roundw
        case rel => exact ⟨k + 1, by go_num, by omega, HE.out⟩
        case measure => simp [intOf]; omega
      · go_wp2
        go_roundw
        case rel => exact ⟨k + 1, by go_num, by omega, HE.out⟩
        case measure => simp [intOf]; omega
    · obtain rfl : k = n := by omega
      have HALL := Lib.hid (show xs.take k = xs from List.take_of_length_le (by rw [HXS.out.len]; exact Nat.le_refl _))
      go_wp2
      go_ret
      refine ⟨g, rfl, ?_, HBK.out, HG.out⟩
      rw [← HALL.out]
      exact HTK.out
end Go.Proofs.YtcpomddkehhkkaaDoor
