/- The laws' helper tree: leaves at keys are put into a new tree. -/
import Derived.Test.YtcpomddkehhkkaaDoorTree15
import Derived.Deep.WholeRow
import Derived.Test.YtcpomddkehhkkaaDoorRnEq
import Derived.Deep.CutBlock
import Derived.DeepKeys
import Derived.ChangeKeysEq
import Derived.Laws.StructEq
import Derived.Test.YtcpomddkehhkkaaDoorOpenB
namespace Go.Proofs.YtcpomddkehhkkaaDoor
set_option linter.unusedVariables false
set_option linter.unusedSimpArgs false
open Go.ChangeShapes Go.WideShapes Go.ChangeAt Go.RowKit Go.Maps

/-- a leaf at a key, as the reference has it: its bytes lie where they lie. -/
structure Sel where
  key : List Nat
  a : Option Addr
  c : Nat
  v : List Nat
  s : Nat
  h : IsHash key
theorem z32k : IsHash (List.replicate 32 0) := ⟨List.length_replicate, fun k hk => by rw [List.eq_of_mem_replicate hk]; decide⟩
def Sel.cells (x : Sel) : List Value := bcells x.key ++ [.slice x.a x.v.length x.c, .int .u64 (x.s : Int)]
def Sel.leaf (x : Sel) : Lf := ⟨x.key, x.v, x.s⟩
structure Sel.ok (w : World) (x : Sel) : Prop where
  key : IsHash x.key
  s : x.s < 18446744073709551616
  short : x.v.length ≤ 1000
  bytes : Bytes w w.heap.size (.slice x.a x.v.length x.c) x.v
theorem Sel.ok.below {w w' : World} {x : Sel} (h : x.ok w) (hb : Below w.heap.size w w') : x.ok w' := ⟨h.key, h.s, h.short, h.bytes.alive hb hb.size⟩
theorem Sel.len {x : Sel} (h : x.key.length = 32) : x.cells.length = 34 := by simp [Sel.cells, bcells_length, h]
theorem Sel.one (x : Sel) : ∀ v ∈ x.cells, v.oneCell' = true := by
  intro v hv
  rcases List.mem_append.1 hv with h | h
  · exact bcells_oneC _ v h
  · simp only [List.mem_cons, List.not_mem_nil, or_false] at h
    rcases h with rfl | rfl <;> rfl
theorem Sel.len' (x : Sel) : x.cells.length = 34 := Sel.len x.h.1
/-- leaves in a row. -/
structure SelsAt (w : World) (A : Option Addr) (n : Nat) (xs : List Sel) : Prop where
  len : xs.length = n
  few : n ≤ 1000000
  ok : ∀ x ∈ xs, x.ok w
  at_ : 0 < n → ∃ b o, A = some ⟨b, o, none⟩ ∧ b < w.heap.size ∧ ∀ (i : Nat) x, xs[i]? = some x → w.rangeAt b (o + i * 34) x.cells
def buildT (xs : List Sel) : List Lf := xs.foldl (fun T x => putN T x.leaf) []
theorem buildT_take (xs : List Sel) (k : Nat) (x : Sel) (h : xs[k]? = some x) : buildT (xs.take (k + 1)) = putN (buildT (xs.take k)) x.leaf := by
  unfold buildT
  rw [List.take_add_one, h]
  simp [List.foldl_append]
theorem zero_sel : ∃ Z : Array Value, (∀ w, (zeroValue 63).run Tryd.prog w = .ok (.agg Z) w) ∧ Z.size = 34 ∧ ¬ Z = #[] := by
  have hs : (Sel.cells ⟨List.replicate 32 0, none, 0, [], 0, z32k⟩).toArray.size = 34 := by kernel_rfl
  exact ⟨_, fun w => by kernel_rfl, hs, fun e => by rw [e] at hs; cases hs⟩
theorem sel_get {x : Sel} (h : x.key.length = 32) : x.cells[32]? = some (.slice x.a x.v.length x.c) ∧ x.cells[33]? = some (.int .u64 (x.s : Int)) := by
  have l := bcells_length x.key
  rw [h] at l
  constructor
  · rw [Sel.cells, List.getElem?_append_right (by omega), l]; rfl
  · rw [Sel.cells, List.getElem?_append_right (by omega), l]; rfl
theorem sel_key {w : World} {G : Nat} {t : TypeId} {x : Sel} (h : Has w G t x.cells.toArray) : w.rangeAt G 0 (bcells x.key) := fun j u hu => by
  rw [Nat.zero_add]
  refine h.cell_is ?_
  rw [List.getElem?_toArray, Sel.cells, List.getElem?_append_left (List.getElem?_eq_some_iff.1 hu).1]
  exact hu

set_option maxRecDepth 100000 in
set_option maxHeartbeats 4000000 in
theorem tree_is (K s0 : List Wd) (hl8 : s0.length = 8) (w : World) (A : Option Addr) (n c : Nat) (xs : List Sel) (hxs : SelsAt w A n xs)
    (hput : ∀ (k : Nat) x, xs[k]? = some x → putE (buildT (xs.take k)) x.leaf = 0 ∨ (putE (buildT (xs.take k)) x.leaf = 1 ∧ x.v.length = 0 ∧ x.s = 0)) :
    Calls Tryd.prog 28 #[.slice A n c] w fun e w' => ∃ g, e = .returned (.pointer (some ⟨g, 0, none⟩)) ∧ Tr K s0 (fun j => w.heap.size ≤ j) w' g (buildT xs) ∧ Below w.heap.size w w' ∧ w.heap.size ≤ g := by
  obtain ⟨Z, hz, hzs, hzn⟩ := zero_sel
  have HXS := Lib.hid hxs
  have HPUT := Lib.hid hput
  have HL8 := Lib.hid hl8
  have hfew := hxs.few
  clear hxs hput hl8
  go_enter Tryd.func28, Tryd.ntmps28
  go_wp2_with fail
  refine (newT_is K s0 (fun j => w.heap.size ≤ j) w (fun _ h => h)).mono ?_
  rintro _ w2 ⟨g, rfl, htr, hb2, hg⟩
  have HTR := Lib.hid htr
  have HB2 := Lib.hid hb2
  have HG := Lib.hid hg
  clear htr hb2 hg
  go_wp2_with fail
  go_loopw [9] (fun i wr => ∃ k : Nat, i = .int .i64 (k : Int) ∧ k ≤ n ∧ Tr K s0 (fun j => w.heap.size ≤ j) wr g (buildT (xs.take k)) ∧ Below w.heap.size w wr) (fun i _ => n - (intOf i).toNat)
  case atStart => exact ⟨0, rfl, Nat.zero_le _, HTR.out, HB2.out⟩
  case round =>
    obtain ⟨k, rfl, hk, htr, hbel⟩ := hrel
    have HTK := Lib.hid htr
    have HBK := Lib.hid hbel
    clear htr hbel HTR
    by_cases hlt : k < n
    · obtain ⟨x, hx⟩ : ∃ x, xs[k]? = some x := ⟨_, List.getElem?_eq_getElem (by rw [HXS.out.len]; exact hlt)⟩
      have hxok := HXS.out.ok x (List.mem_of_getElem? hx)
      obtain ⟨sb, so, hA1, hA2, hr⟩ := HXS.out.at_ (by omega)
      subst hA1
      have hrw := rangeAt_kept (hr k x hx) (Kept.of_below (S := fun _ => False) HBK.out) (fun h => h)
      have hl34 := Sel.len hxok.key.1
      have HRW := Lib.hid hrw
      have SZ := Lib.hid (show (Tryd.prog.info? 63).map (·.size) = some x.cells.length by rw [hl34]; kernel_rfl)
      have SZA := Lib.hid (show (Tryd.prog.info? 63).map (·.size) = some x.cells.toArray.size by rw [List.size_toArray]; exact SZ.out)
      have HZZ := Lib.hid (show Z.size = x.cells.toArray.size by rw [hzs, List.size_toArray, hl34])
      have HONE := Lib.hid (show x.cells.toArray.all (·.oneCell') = true from all_oneCell_toArray (Sel.one x))
      have hnw : ∀ C, Has ((wr.alloc (.cells Z 63)).setRow wr.heap.size C) wr.heap.size 63 C ∧ Kept (fun _ => False) wr ((wr.alloc (.cells Z 63)).setRow wr.heap.size C) := fun C => by
        rw [World.setRow_alloc_new]
        exact ⟨Has.new wr _ _, (Kept.refl _ _).alloc _⟩
      have HNW := Lib.hid hnw
      have HOK := Lib.hid hxok
      have HX := Lib.hid hx
      clear hrw hl34 hnw hxok hx hr hA2
      go_upto_region 5 with (first
        | (refine wpList_load_mid rfl 63 (.tmp 11) rfl sb (so + k * 34) rfl x.cells _ HRW.out Tryd.underlying63 rfl SZ.out ?_)
        | (refine wpList_store_row rfl 63 (.tmp 5) (.tmp 12) rfl wr.heap.size x.cells.toArray rfl rfl 63 Z (heap_alloc_new wr _) SZA.out HZZ.out HONE.out ?_))
      obtain ⟨h3, hk3⟩ := HNW.out x.cells.toArray
      have hb3 : Below w.heap.size w ((wr.alloc (.cells Z 63)).setRow wr.heap.size x.cells.toArray) := HBK.out.trans (hk3.below HBK.out.size (fun _ h => h.elim))
      have htr3 : Tr K s0 (fun j => w.heap.size ≤ j ∧ j ≠ wr.heap.size) ((wr.alloc (.cells Z 63)).setRow wr.heap.size x.cells.toArray) g (buildT (xs.take k)) := (HTK.out.zone (S' := fun j => w.heap.size ≤ j ∧ j ≠ wr.heap.size) (fun j h1 h2 => ⟨h2, by omega⟩)).kept hk3 (fun _ _ _ h => h)
      have hsz9 : wr.heap.size < ((wr.alloc (.cells Z 63)).setRow wr.heap.size x.cells.toArray).heap.size := h3.lt
      clear HNW HRW hk3
      generalize (wr.alloc (.cells Z 63)).setRow wr.heap.size x.cells.toArray = W9 at h3 hb3 htr3 hsz9 ⊢
      generalize wr.heap.size = G at h3 htr3 hsz9 ⊢
      obtain ⟨q1, q2⟩ := sel_get HOK.out.key.1
      have c32 : W9.cell? ⟨G, 32, none⟩ = some (.slice x.a x.v.length x.c) := h3.cell_is (by rw [List.getElem?_toArray]; exact q1)
      have c33 : W9.cell? ⟨G, 33, none⟩ = some (.int .u64 (x.s : Int)) := h3.cell_is (by rw [List.getElem?_toArray]; exact q2)
      have hrk := sel_key h3
      have hok9 := (HXS.out.ok x (List.mem_of_getElem? HX.out)).below hb3
      have hp := tr_put htr3 HL8.out (fun j h => ⟨by have := hb3.size; omega, by omega⟩) x.leaf hok9.key (.slice x.a x.v.length x.c) hok9.bytes hok9.s (by have := hok9.short; show x.v.length ≤ _; omega)
      have hcase := HPUT.out k x HX.out
      obtain ⟨T', hT'⟩ : ∃ T', T' = putN (buildT (xs.take k)) x.leaf := ⟨_, rfl⟩
      have hT2 : T' = buildT (xs.take (k + 1)) := by rw [hT', buildT_take xs k x HX.out]
      obtain ⟨E, hE⟩ : ∃ E, E = putE (buildT (xs.take k)) x.leaf := ⟨_, rfl⟩
      rw [← hE] at hp hcase
      rw [← hT'] at hp
      unfold arr leafV at hp
      obtain ⟨LK, hLK⟩ : ∃ L, L = bcells x.key := ⟨_, rfl⟩
      obtain ⟨nv, hnv⟩ : ∃ m, m = x.v.length := ⟨_, rfl⟩
      obtain ⟨sv, hsv⟩ : ∃ m, m = x.s := ⟨_, rfl⟩
      change Calls Tryd.prog 33 #[.pointer (some ⟨g, 0, none⟩), .agg (bcells x.key).toArray, .agg #[.slice x.a x.v.length x.c, .int .u64 (x.s : Int)]] _ _ at hp
      rw [← hLK, ← hnv, ← hsv] at hp
      rw [← hLK] at hrk
      rw [← hnv] at c32 hcase
      rw [← hsv] at c33 hcase
      have SZK := Lib.hid (show (Tryd.prog.info? 26).map (·.size) = some LK.length by rw [hLK, bcells_length, HOK.out.key.1]; kernel_rfl)
      have HRK := Lib.hid hrk
      have HP := Lib.hid hp
      have ET := Lib.hid hT2
      have HB9 := Lib.hid hb3
      have H3 := Lib.hid h3
      clear hp hrk hb3 htr3 hok9 hT' hT2 hE hLK hnv hsv q1 q2 HTK
      go_wp2_with (refine wpList_load_mid rfl 26 (.tmp 14) rfl G 0 rfl LK _ HRK.out Tryd.underlying26 rfl SZK.out ?_)
      refine HP.out.mono ?_
      rintro _ w5 ⟨rfl, htr5, hk5⟩
      rw [ET.out] at htr5
      have HE := Lib.hid (show Tr K s0 (fun j => w.heap.size ≤ j) w5 g (buildT (xs.take (k + 1))) ∧ Below w.heap.size w w5 from ⟨htr5.zone (fun j _ h => h.1), HB9.out.trans (hk5.below HB9.out.size (fun j e => e.1))⟩)
      have e32 : w5.cell? ⟨G, 32, none⟩ = some (.slice x.a nv x.c) := cell_held hk5 c32 (fun e => e.2 rfl)
      have e33 : w5.cell? ⟨G, 33, none⟩ = some (.int .u64 (sv : Int)) := cell_held hk5 c33 (fun e => e.2 rfl)
      clear htr5 hk5 c32 c33 hsz9
      rcases hcase with rfl | ⟨rfl, rfl, rfl⟩
      · go_wp2
        go_roundw
        case rel => exact ⟨k + 1, by go_num, by omega, HE.out⟩
        case measure => simp [intOf]; omega
      · go_wp2
        go_roundw
        case rel => exact ⟨k + 1, by go_num, by omega, HE.out⟩
        case measure => simp [intOf]; omega
    · obtain rfl : k = n := by omega
      have HALL := Lib.hid (show xs.take k = xs from List.take_of_length_le (by rw [HXS.out.len]; exact Nat.le_refl _))
      go_wp2
      go_ret
      refine ⟨g, rfl, ?_, HBK.out, HG.out⟩
      rw [← HALL.out]
      exact HTK.out
end Go.Proofs.YtcpomddkehhkkaaDoor

/- The laws' helper some: leaves at keys, no key twice. -/
namespace Go.Proofs.YtcpomddkehhkkaaDoor
set_option linter.unusedVariables false
set_option linter.unusedSimpArgs false
open Go.ChangeShapes Go.WideShapes Go.ChangeAt Go.RowKit Go.Maps

/-- a step of a script. -/
structure OpT where
  K : Int
  sel : Sel
def OpT.cells (o : OpT) : List Value := .int .i64 o.K :: o.sel.cells
structure OpT.ok (w : World) (o : OpT) : Prop where
  key : IsHash o.sel.key
  s : o.sel.s < 18446744073709551616
  few : o.sel.v.length ≤ 9223372036854775807
  bytes : Bytes w w.heap.size (.slice o.sel.a o.sel.v.length o.sel.c) o.sel.v
theorem OpT.len {o : OpT} (h : o.sel.key.length = 32) : o.cells.length = 35 := by simp [OpT.cells, Sel.len h]
theorem OpT.one (o : OpT) : ∀ v ∈ o.cells, v.oneCell' = true := by
  intro v hv
  rcases List.mem_cons.1 hv with rfl | h
  · rfl
  · exact Sel.one _ v h
/-- a script in memory. -/
structure OpsAt (w : World) (A : Option Addr) (n : Nat) (os : List OpT) : Prop where
  len : os.length = n
  few : n ≤ 9223372036854775807
  ok : ∀ o ∈ os, o.ok w
  at_ : 0 < n → ∃ b o, A = some ⟨b, o, none⟩ ∧ b < w.heap.size ∧ ∀ (i : Nat) x, os[i]? = some x → w.rangeAt b (o + i * 35) x.cells
def OpT.pick (o : OpT) : Sel := { o.sel with s := o.sel.s % 281474976710656 }
def skipS (m : Nat) (out : List Sel) (o : OpT) : Prop := m ≤ out.length ∨ 200 < o.sel.v.length ∨ (o.sel.v.length = 0 ∧ o.sel.s = 0)
instance (m : Nat) (out : List Sel) (o : OpT) : Decidable (skipS m out o) := inferInstanceAs (Decidable (_ ∨ _ ∨ _))
def knownS (out : List Sel) (o : OpT) : Bool := out.any fun x => decide (x.key = o.sel.key)
def stepS (m : Nat) (out : List Sel) (o : OpT) : List Sel := if skipS m out o then out else if knownS out o = true then out else out ++ [o.pick]
def someL (m : Nat) (os : List OpT) : List Sel := os.foldl (stepS m) []
theorem someL_take (m : Nat) (os : List OpT) (k : Nat) (o : OpT) (h : os[k]? = some o) : someL m (os.take (k + 1)) = stepS m (someL m (os.take k)) o := by
  unfold someL
  rw [List.take_add_one, h]
  simp [List.foldl_append]
theorem someL_len (m : Nat) (os : List OpT) : (someL m os).length ≤ m := by
  unfold someL
  have : ∀ (os : List OpT) (out : List Sel), out.length ≤ m → (os.foldl (stepS m) out).length ≤ m := by
    intro os
    induction os with
    | nil => exact fun out h => h
    | cons o os ih =>
      intro out h
      refine ih _ ?_
      unfold stepS
      split
      · exact h
      · next hs =>
        split
        · exact h
        · have : ¬ m ≤ out.length := fun e => hs (.inl e)
          rw [List.length_append]
          show out.length + 1 ≤ m
          omega
  exact this os [] (Nat.zero_le _)
theorem zero_op : ∃ Z : Array Value, (∀ w, (zeroValue 71).run Tryd.prog w = .ok (.agg Z) w) ∧ Z.size = 35 ∧ ¬ Z = #[] := by
  have hs : (OpT.cells ⟨0, ⟨List.replicate 32 0, none, 0, [], 0, z32k⟩⟩).toArray.size = 35 := by kernel_rfl
  exact ⟨_, fun w => by kernel_rfl, hs, fun e => by rw [e] at hs; cases hs⟩
theorem op_get {o : OpT} (h : o.sel.key.length = 32) : o.cells[33]? = some (.slice o.sel.a o.sel.v.length o.sel.c) ∧ o.cells[34]? = some (.int .u64 (o.sel.s : Int)) := sel_get h
theorem op_key {w : World} {G : Nat} {t : TypeId} {o : OpT} (h : Has w G t o.cells.toArray) : w.rangeAt G 1 (bcells o.sel.key) := fun j u hu => by
  refine h.cell_is ?_
  rw [List.getElem?_toArray, OpT.cells, Nat.add_comm 1 j, List.getElem?_cons_succ, Sel.cells, List.getElem?_append_left (List.getElem?_eq_some_iff.1 hu).1]
  exact hu
end Go.Proofs.YtcpomddkehhkkaaDoor

/- The walk of the laws' helper some. -/
namespace Go.Proofs.YtcpomddkehhkkaaDoor
set_option linter.unusedVariables false
set_option linter.unusedSimpArgs false
open Go.ChangeShapes Go.WideShapes Go.ChangeAt Go.RowKit Go.Maps

theorem and_48 (n : Int) (hn : 0 ≤ n) : bits BinOp.and .u64 n 281474976710655 = n % 281474976710656 := by
  unfold bits
  have e : (BitVec.ofInt IntKind.u64.bits n &&& BitVec.ofInt IntKind.u64.bits 281474976710655).toNat = (n % 281474976710656).toNat := by
    show (BitVec.ofInt 64 n &&& BitVec.ofInt 64 281474976710655).toNat = _
    rw [BitVec.toNat_and, BitVec.toNat_ofInt, BitVec.toNat_ofInt]
    have h31 : ((281474976710655 : Int) % ((2 ^ 64 : Nat) : Int)).toNat = 2 ^ 48 - 1 := by decide
    rw [h31, Nat.and_two_pow_sub_one_eq_mod]
    have : ((2 ^ 64 : Nat) : Int) = 18446744073709551616 := by decide
    rw [this]
    show _ % 281474976710656 = _
    omega
  simp only [e]
  rw [IntKind.wrap_u64]
  omega
theorem info_sel : (Tryd.prog.info? 63).map (fun i => (i.zero, i.size, i.bytes)) = some (some (.agg (Sel.cells ⟨List.replicate 32 0, none, 0, [], 0, z32k⟩).toArray), 34, 64) := by kernel_rfl
theorem build_sel (D : List Nat) (hD : D.length = 32) (a : Option Addr) (n c : Nat) (s : Int) (w : World) : (Instr.build 63 #[(0, .agg (bcells D).toArray), (1, .slice a n c), (2, .int .u64 s)]).run Tryd.prog w = .ok (.agg (bcells D ++ [Value.slice a n c, Value.int .u64 s]).toArray) w := by
  match D, hD with
  | [d0, d1, d2, d3, d4, d5, d6, d7, d8, d9, d10, d11, d12, d13, d14, d15, d16, d17, d18, d19, d20, d21, d22, d23, d24, d25, d26, d27, d28, d29, d30, d31], _ => show _ = _; kernel_rfl
instance : Inhabited Sel := ⟨⟨List.replicate 32 0, none, 0, [], 0, z32k⟩⟩
/-- leaves that were gathered. -/
def Got (w : World) (B : Nat) (xs : List Sel) (ov : Value) (wr : World) : Prop :=
  (∃ a n c, ov = .slice a n c) ∧ wr.ownsRow B 63 34 ov xs.length (xs.flatMap Sel.cells) ∧ Below B w wr
theorem Got.below {w : World} {B : Nat} {xs : List Sel} {ov : Value} {wr w' : World} (h : Got w B xs ov wr) (hB : B ≤ wr.heap.size) (hb : Below wr.heap.size wr w') : Got w B xs ov w' :=
  ⟨h.1, own_kept h.2.1 (Kept.of_below (S := fun _ => False) hb) (fun _ _ h => h), h.2.2.trans (hb.mono hB)⟩

set_option maxRecDepth 100000 in
set_option maxHeartbeats 8000000 in
theorem some_is (w : World) (A : Option Addr) (N c : Nat) (os : List OpT) (hos : OpsAt w A N os) (m : Nat) (hm : m ≤ 1000) :
    Calls Tryd.prog 27 #[.slice A N c, .int .i64 (m : Int)] w fun e w' => ∃ v', e = .returned v' ∧ Got w w.heap.size (someL m os) v' w' := by
  obtain ⟨Z, hz, hzs, hzn⟩ := zero_op
  have HOS := Lib.hid hos
  have hfew := hos.few
  have hmade : Got w w.heap.size [] (.slice (some ⟨w.heap.size, 0, none⟩) 0 0) (w.alloc (.cells #[] 63)) := ⟨⟨_, _, _, rfl⟩, World.ownsRow_made w #[] 0 (Nat.le_refl _) (by decide) rfl, (Below.refl _ _).alloc (Nat.le_refl _) _⟩
  have HMADE := Lib.hid hmade
  clear hos hmade
  go_enter Tryd.func27, Tryd.ntmps27
  go_wp2_with fail
  generalize w.alloc (.cells #[] 63) = W0 at HMADE ⊢
  go_loopw [5, 14] (fun ov i wr => ∃ k : Nat, i = .int .i64 (k : Int) ∧ k ≤ N ∧ Got w w.heap.size (someL m (os.take k)) ov wr) (fun _ i _ => N - (intOf i).toNat)
  case atStart => exact ⟨0, rfl, Nat.zero_le _, HMADE.out⟩
  case round =>
    obtain ⟨k, rfl, hk, hgot⟩ := hrel
    have HGOT := Lib.hid hgot
    have HBW := Lib.hid hgot.2.2
    obtain ⟨⟨oa, on, oc, rfl⟩, -, -⟩ := hgot
    clear HMADE
    by_cases hlt : k < N
    · obtain ⟨x, hx⟩ : ∃ x, os[k]? = some x := ⟨_, List.getElem?_eq_getElem (by rw [HOS.out.len]; exact hlt)⟩
      have hxok := HOS.out.ok x (List.mem_of_getElem? hx)
      obtain ⟨sb, so, hA1, hA2, hr⟩ := HOS.out.at_ (by omega)
      subst hA1
      have hrw := rangeAt_kept (hr k x hx) (Kept.of_below (S := fun _ => False) HBW.out) (fun h => h)
      have hl35 := OpT.len hxok.key.1
      have HRW := Lib.hid hrw
      have SZ := Lib.hid (show (Tryd.prog.info? 71).map (·.size) = some x.cells.length by rw [hl35]; kernel_rfl)
      have SZA := Lib.hid (show (Tryd.prog.info? 71).map (·.size) = some x.cells.toArray.size by rw [List.size_toArray]; exact SZ.out)
      have HZZ := Lib.hid (show Z.size = x.cells.toArray.size by rw [hzs, List.size_toArray, hl35])
      have HONE := Lib.hid (show x.cells.toArray.all (·.oneCell') = true from all_oneCell_toArray (OpT.one x))
      have hnw : ∀ C, Has ((wr.alloc (.cells Z 71)).setRow wr.heap.size C) wr.heap.size 71 C ∧ Kept (fun _ => False) wr ((wr.alloc (.cells Z 71)).setRow wr.heap.size C) := fun C => by
        rw [World.setRow_alloc_new]
        exact ⟨Has.new wr _ _, (Kept.refl _ _).alloc _⟩
      have HNW := Lib.hid hnw
      have HOK := Lib.hid hxok
      have HX := Lib.hid hx
      clear hrw hl35 hnw hxok hx hr hA2
      go_upto_region 5 with (first
        | (refine wpList_load_mid rfl 71 (.tmp 16) rfl sb (so + k * 35) rfl x.cells _ HRW.out Tryd.underlying71 rfl SZ.out ?_)
        | (refine wpList_store_row rfl 71 (.tmp 7) (.tmp 17) rfl wr.heap.size x.cells.toArray rfl rfl 71 Z (heap_alloc_new wr _) SZA.out HZZ.out HONE.out ?_))
      obtain ⟨h3, hk3⟩ := HNW.out x.cells.toArray
      have hg9 : Got w w.heap.size (someL m (os.take k)) (.slice oa on oc) ((wr.alloc (.cells Z 71)).setRow wr.heap.size x.cells.toArray) := HGOT.out.below HBW.out.size (hk3.below (Nat.le_refl _) (fun _ h => h.elim))
      clear HNW HRW hk3 HGOT
      generalize (wr.alloc (.cells Z 71)).setRow wr.heap.size x.cells.toArray = W9 at h3 hg9 ⊢
      generalize wr.heap.size = G at h3 ⊢
      obtain ⟨q1, q2⟩ := op_get HOK.out.key.1
      obtain ⟨nv, hnv⟩ : ∃ j, j = x.sel.v.length := ⟨_, rfl⟩
      obtain ⟨sv, hsv⟩ : ∃ j, j = x.sel.s := ⟨_, rfl⟩
      obtain ⟨out, hout⟩ : ∃ l, l = someL m (os.take k) := ⟨_, rfl⟩
      obtain ⟨ln, hln⟩ : ∃ l, l = out.length := ⟨_, rfl⟩
      rw [← hout] at hg9
      have hon : on = ln := by
        rcases hg9.2.1.2 with ⟨e, h0⟩ | ⟨_, _, _, e, _⟩
        · injection e with e1 e2 e3; omega
        · injection e with e1 e2 e3; omega
      subst hon
      have hlm : on ≤ 1000 := by
        have := someL_len m (os.take k)
        rw [← hout] at this
        omega
      have c33 : W9.cell? ⟨G, 33, none⟩ = some (.slice x.sel.a nv x.sel.c) := h3.cell_is (by rw [List.getElem?_toArray, hnv]; exact q1)
      have c34 : W9.cell? ⟨G, 34, none⟩ = some (.int .u64 (sv : Int)) := h3.cell_is (by rw [List.getElem?_toArray, hsv]; exact q2)
      have H3 := Lib.hid h3
      have HG9 := Lib.hid hg9
      have ENV := Lib.hid hnv
      have ESV := Lib.hid hsv
      have EOUT := Lib.hid hout
      have ELN := Lib.hid hln
      have hskip : skipS m out x ↔ (m ≤ on ∨ 200 < nv ∨ (nv = 0 ∧ sv = 0)) := by rw [hln, hnv, hsv]; exact Iff.rfl
      have HSK := Lib.hid hskip
      have hnl : nv ≤ 9223372036854775807 := by rw [hnv]; exact HOK.out.few
      clear h3 hg9 hnv hsv hout hln hskip q1 q2
      simp only [Act.put]
      go_cut [14, 33] from 14 to 64 (fun i cc wx => i = .int .i64 (k : Int) ∧ cc = .bool (decide (m ≤ on ∨ 200 < nv ∨ (nv = 0 ∧ sv = 0))) ∧ Below W9.heap.size W9 wx)
      case first =>
        by_cases h1 : m ≤ on
        · have HD := Lib.hid (show decide (m ≤ on ∨ 200 < nv ∨ (nv = 0 ∧ sv = 0)) = true from decide_eq_true (.inl h1))
          have h1' : (m : Int) ≤ (on : Int) := by omega
          go_wp2
          go_meet
          case rel => exact ⟨rfl, by rw [HD.out], Below.refl _ _⟩
        · have h1' : ¬ (m : Int) ≤ (on : Int) := by omega
          by_cases h2 : 200 < nv
          · have HD := Lib.hid (show decide (m ≤ on ∨ 200 < nv ∨ (nv = 0 ∧ sv = 0)) = true from decide_eq_true (.inr (.inl h2)))
            have h2' : (200 : Int) < (nv : Int) := by omega
            go_wp2
            go_meet
            case rel => exact ⟨rfl, by rw [HD.out], Below.refl _ _⟩
          · have h2' : ¬ (200 : Int) < (nv : Int) := by omega
            have HD := Lib.hid (show decide (nv = 0 ∧ sv = 0) = decide (m ≤ on ∨ 200 < nv ∨ (nv = 0 ∧ sv = 0)) from by
              by_cases h3 : nv = 0 ∧ sv = 0
              · rw [decide_eq_true h3, decide_eq_true (.inr (.inr h3))]
              · rw [decide_eq_false h3, decide_eq_false (fun e => e.elim h1 (fun e => e.elim h2 h3))])
            go_wp2_with fail
            refine (none_is W9 x.sel.a nv x.sel.c sv hnl).mono ?_
            rintro _ wN ⟨rfl, hbN⟩
            have HBN := Lib.hid hbN
            clear hbN
            go_wp2
            go_meet
            case rel => exact ⟨rfl, by rw [← HD.out, Bool.decide_and], HBN.out⟩
      case rest =>
        obtain ⟨w2, hw2⟩ : ∃ y, y = wc := ⟨_, rfl⟩
        subst hw2
        obtain ⟨rfl, rfl, hbc⟩ := hcut
        have hsz9 : w.heap.size ≤ W9.heap.size := HG9.out.2.2.size
        have HGC := Lib.hid (HG9.out.below hsz9 hbc)
        have h3c := H3.out.below hbc H3.out.lt
        have HS2 := Lib.hid (show w.heap.size ≤ w2.heap.size by have := hbc.size; omega)
        clear c33 c34 hbc hsz9
        by_cases hsk : m ≤ on ∨ 200 < nv ∨ (nv = 0 ∧ sv = 0)
        · have hd : decide (m ≤ on ∨ 200 < nv ∨ (nv = 0 ∧ sv = 0)) = true := decide_eq_true hsk
          have HE := Lib.hid (show Got w w.heap.size (someL m (os.take (k + 1))) (.slice oa on oc) w2 from by
            rw [someL_take m os k x HX.out, ← EOUT.out]
            unfold stepS
            rw [if_pos (HSK.out.2 hsk)]
            exact HGC.out)
          rw [hd]
          clear hsk hd h3c
          go_wp2
          go_roundw
          case rel => exact ⟨k + 1, by go_num, by omega, HE.out⟩
          case measure => simp [intOf]; omega
        · have HNS := Lib.hid hsk
          have hd : decide (m ≤ on ∨ 200 < nv ∨ (nv = 0 ∧ sv = 0)) = false := decide_eq_false hsk
          have H3C := Lib.hid h3c
          rw [hd]
          clear hsk hd h3c
          go_wp2_with fail
          go_loopw [8, 36] (fun kn j wy => ∃ q : Nat, j = .int .i64 (q : Int) ∧ q ≤ on ∧ kn = .bool ((out.take q).any fun y => decide (y.key = x.sel.key)) ∧ Below w2.heap.size w2 wy) (fun _ j _ => on - (intOf j).toNat)
          case atStart => exact ⟨0, rfl, Nat.zero_le _, rfl, Below.refl _ _⟩
          case round =>
            obtain ⟨q, rfl, hq, rfl, hby⟩ := hrel
            have HBY := Lib.hid hby
            clear hby
            by_cases hq2 : q < on
            · obtain ⟨y, hy⟩ : ∃ y, out[q]? = some y := ⟨_, List.getElem?_eq_getElem (by rw [← ELN.out]; exact hq2)⟩
              obtain ⟨gs, cap, cur, e, hB, hh, h1, h2, h3, h4⟩ := own_open HGC.out.2.1 (by rw [← ELN.out]; omega)
              injection e with e1 e2 e3
              subst e1
              have hry : wr.rangeAt gs (q * 34) y.cells := fun j u hu => by
                have hj := (List.getElem?_eq_some_iff.1 hu).1
                rw [Sel.len'] at hj
                refine cell_held (Kept.of_below (S := fun _ => False) HBY.out) (hh.cell_is ?_) (fun h => h)
                have hlt : q * 34 + j < out.length * 34 := by
                  have : (q + 1) * 34 ≤ out.length * 34 := Nat.mul_le_mul_right 34 (by rw [← ELN.out]; exact hq2)
                  omega
                rw [h4 _ hlt, flat_getK Sel.cells 34 Sel.len' out q j y hy hj]
                exact hu
              obtain ⟨ZS, hzS, hzsS, hznS⟩ := zero_sel
              have HRY := Lib.hid hry
              have SZY := Lib.hid (show (Tryd.prog.info? 63).map (·.size) = some y.cells.length by rw [Sel.len']; kernel_rfl)
              have SZYA := Lib.hid (show (Tryd.prog.info? 63).map (·.size) = some y.cells.toArray.size by rw [List.size_toArray]; exact SZY.out)
              have HZY := Lib.hid (show ZS.size = y.cells.toArray.size by rw [hzsS, List.size_toArray, Sel.len'])
              have HONEY := Lib.hid (show y.cells.toArray.all (·.oneCell') = true from all_oneCell_toArray (Sel.one y))
              have hnw : ∀ C, Has ((wr.alloc (.cells ZS 63)).setRow wr.heap.size C) wr.heap.size 63 C ∧ Kept (fun _ => False) wr ((wr.alloc (.cells ZS 63)).setRow wr.heap.size C) := fun C => by
                rw [World.setRow_alloc_new]
                exact ⟨Has.new wr _ _, (Kept.refl _ _).alloc _⟩
              have HNW := Lib.hid hnw
              have hkb : ((out.take (q + 1)).any fun y => decide (y.key = x.sel.key)) = (((out.take q).any fun y => decide (y.key = x.sel.key)) || decide (y.key = x.sel.key)) := by
                rw [List.take_add_one, hy]
                simp [List.any_append]
              obtain ⟨kb, hkb2⟩ : ∃ b : Bool, b = ((out.take q).any fun y => decide (y.key = x.sel.key)) := ⟨_, rfl⟩
              rw [← hkb2] at hkb ⊢
              have HKB := Lib.hid hkb
              clear hry hB hh h1 h2 h3 h4 hnw hkb hkb2 hy e2 e3
              go_upto_region 10 with (first
                | (refine wpList_load_mid rfl 63 (.tmp 38) rfl gs (q * 34) rfl y.cells _ HRY.out Tryd.underlying63 rfl SZY.out ?_)
                | (refine wpList_store_row rfl 63 (.tmp 10) (.tmp 39) rfl wr.heap.size y.cells.toArray rfl rfl 63 ZS (heap_alloc_new wr _) SZYA.out HZY.out HONEY.out ?_))
              obtain ⟨h7, hk7⟩ := HNW.out y.cells.toArray
              have hb7 : Below w2.heap.size w2 ((wr.alloc (.cells ZS 63)).setRow wr.heap.size y.cells.toArray) := HBY.out.trans (hk7.below HBY.out.size (fun _ h => h.elim))
              clear HNW HRY hk7
              generalize (wr.alloc (.cells ZS 63)).setRow wr.heap.size y.cells.toArray = W7 at h7 hb7 ⊢
              generalize wr.heap.size = G7 at h7 ⊢
              have hky := sel_key h7
              have hkx := op_key (H3C.out.below hb7 H3C.out.lt)
              have heq := fun W => eq_key y.key x.sel.key y.h x.sel.h W
              obtain ⟨LY, hLY⟩ : ∃ L, L = bcells y.key := ⟨_, rfl⟩
              obtain ⟨LX, hLX⟩ : ∃ L, L = bcells x.sel.key := ⟨_, rfl⟩
              rw [← hLY] at hky
              rw [← hLX] at hkx
              rw [← hLY, ← hLX] at heq
              obtain ⟨eb, heb⟩ : ∃ b : Bool, b = decide (y.key = x.sel.key) := ⟨_, rfl⟩
              rw [← heb] at heq HKB
              have HKY := Lib.hid hky
              have HKX := Lib.hid hkx
              have SZLY := Lib.hid (show (Tryd.prog.info? 26).map (·.size) = some LY.length by rw [hLY, bcells_length, y.h.1]; kernel_rfl)
              have SZLX := Lib.hid (show (Tryd.prog.info? 27).map (·.size) = some LX.length by rw [hLX, bcells_length, x.sel.h.1]; kernel_rfl)
              have HB7 := Lib.hid hb7
              clear hky hkx hLY hLX heb h7 hb7
              simp only [Act.put]
              cases kb with
              | true =>
                go_wp2
                go_roundw
                case rel => exact ⟨q + 1, by go_num, by omega, by rw [HKB.out]; rfl, HB7.out⟩
                case measure => simp [intOf]; omega
              | false =>
                go_wp2_with (first
                  | (refine wpList_load_midG (by kernel_rfl) 26 (.tmp 42) rfl G7 0 rfl LY _ HKY.out Tryd.underlying26 rfl SZLY.out ?_)
                  | (refine wpList_load_midG (by kernel_rfl) 27 (.tmp 44) rfl G 1 rfl LX _ HKX.out Tryd.underlying27 rfl SZLX.out ?_))
                go_roundw
                case rel => exact ⟨q + 1, by go_num, by omega, by rw [HKB.out]; simp, HB7.out⟩
                case measure => simp [intOf]; omega
            · obtain rfl : q = on := by omega
              have htk : out.take q = out := List.take_of_length_le (by rw [← ELN.out]; exact Nat.le_refl _)
              have hg7 : Got w w.heap.size out (.slice oa q oc) wr := HGC.out.below HS2.out HBY.out
              have h37 := H3C.out.below HBY.out H3C.out.lt
              rw [htk]
              obtain ⟨kb, hkb⟩ : ∃ b : Bool, b = (out.any fun y => decide (y.key = x.sel.key)) := ⟨_, rfl⟩
              rw [← hkb]
              have HKB := Lib.hid hkb
              have HG7 := Lib.hid hg7
              have HS7 := Lib.hid (show w.heap.size ≤ wr.heap.size by have := HBY.out.size; have := HS2.out; omega)
              clear htk hkb hg7
              cases kb with
              | true =>
                have HE := Lib.hid (show Got w w.heap.size (someL m (os.take (k + 1))) (.slice oa q oc) wr from by
                  rw [someL_take m os k x HX.out, ← EOUT.out]
                  unfold stepS
                  rw [if_neg (fun e => HNS.out (HSK.out.1 e))]
                  have : knownS out x = true := HKB.out.symm
                  rw [if_pos this]
                  exact HG7.out)
                clear h37
                go_wp2
                go_roundw
                case rel => exact ⟨k + 1, by go_num, by omega, HE.out⟩
                case measure => simp [intOf]; omega
              | false =>
                have HEQ := Lib.hid (show someL m (os.take (k + 1)) = out ++ [x.pick] from by
                  rw [someL_take m os k x HX.out, ← EOUT.out]
                  unfold stepS
                  rw [if_neg (fun e => HNS.out (HSK.out.1 e))]
                  have : knownS out x = false := HKB.out.symm
                  rw [if_neg (by rw [this]; decide)])
                obtain ⟨isum, his, his0, his1, his2⟩ := info_parts info_sel
                obtain ⟨q1, q2⟩ := op_get HOK.out.key.1
                have c33 : wr.cell? ⟨G, 33, none⟩ = some (.slice x.sel.a nv x.sel.c) := h37.cell_is (by rw [List.getElem?_toArray, ENV.out]; exact q1)
                have c34 : wr.cell? ⟨G, 34, none⟩ = some (.int .u64 (sv : Int)) := h37.cell_is (by rw [List.getElem?_toArray, ESV.out]; exact q2)
                have hkx := op_key h37
                obtain ⟨LX, hLX⟩ : ∃ L, L = bcells x.sel.key := ⟨_, rfl⟩
                obtain ⟨C, hC⟩ : ∃ l, l = x.pick.cells := ⟨_, rfl⟩
                have hbd : ∀ W, (Instr.build 63 #[(0, .agg LX.toArray), (1, .slice x.sel.a nv x.sel.c), (2, .int .u64 (bits BinOp.and .u64 (sv : Int) 281474976710655))]).run Tryd.prog W = .ok (.agg C.toArray) W := fun W => by
                  rw [hLX, build_sel _ HOK.out.key.1, and_48 _ (by omega), hC, ENV.out, ESV.out]
                  rfl
                rw [← hLX] at hkx
                have HKX := Lib.hid hkx
                have HBD := Lib.hid hbd
                have SZLX := Lib.hid (show (Tryd.prog.info? 27).map (·.size) = some LX.length by rw [hLX, bcells_length, x.sel.h.1]; kernel_rfl)
                have HCL := Lib.hid (show C.length = 34 by rw [hC]; exact Sel.len' _)
                have HC1 := Lib.hid (show ∀ v ∈ C, v.oneCell' = true by rw [hC]; exact Sel.one _)
                have HCE := Lib.hid hC
                have HZ34 := Lib.hid (show (Value.agg (Sel.cells ⟨List.replicate 32 0, none, 0, [], 0, z32k⟩).toArray).cells.size = 34 by kernel_rfl)
                have HML2 := Lib.hid (show out.length + 1 ≤ maxLen by unfold maxLen; have := ELN.out; omega)
                have HBYT := Lib.hid (show (out.length + 1) * 64 ≤ 140737488355328 by have := ELN.out; omega)
                have HBS := Lib.hid (show w.heap.size ≤ (wr.alloc (.cells C.toArray 63)).heap.size by show _ ≤ (wr.heap.push _).size; rw [Array.size_push]; have := HS7.out; omega)
                obtain ⟨lo, hlo⟩ : ∃ j, j = out.length := ⟨_, rfl⟩
                have hq3 : q = lo := by rw [hlo]; exact ELN.out
                have hown : wr.ownsRow w.heap.size 63 34 (.slice oa q oc) lo (out.flatMap Sel.cells) := by have := HG7.out.2.1; rw [← hlo] at this; exact this
                rw [← hq3] at hown
                have HOWN := Lib.hid hown
                rw [← hlo, ← hq3] at HML2 HBYT
                have hend : ∀ g6 cap6 w6, w6.ownsRow w.heap.size 63 34 (.slice (some ⟨g6, 0, none⟩) (q + 1) cap6) (q + 1) (out.flatMap Sel.cells ++ C) → (wr.alloc (.cells C.toArray 63)).grownBy w6 (Value.slice oa q oc).ownBlock →
                    Got w w.heap.size (someL m (os.take (k + 1))) (.slice (some ⟨g6, 0, none⟩) (q + 1) cap6) w6 := fun g6 cap6 w6 ho6 hg6 => by
                  have hob : ∀ k, (Value.slice oa q oc).ownBlock = some k → w.heap.size ≤ k := fun k hk => by
                    rcases HOWN.out.2 with ⟨e2, _⟩ | ⟨gs, cap, cur, e2, hbase, _⟩
                    · rw [e2] at hk; simp [Value.ownBlock] at hk
                    · rw [e2] at hk
                      simp [Value.ownBlock] at hk
                      omega
                  have hk6 : Kept (fun k => (Value.slice oa q oc).ownBlock = some k) wr w6 := ((Kept.refl _ wr).alloc _).grown hg6 (fun k e => .inl e)
                  rw [HEQ.out]
                  refine ⟨⟨_, _, _, rfl⟩, ?_, HG7.out.2.2.trans (hk6.below HS7.out (fun k e => hob k e))⟩
                  rw [List.length_append, List.flatMap_append, ← hlo, ← hq3]
                  simpa [← HCE.out] using ho6
                have HEND := Lib.hid hend
                clear hkx hbd hC hLX h37 q1 q2 hend hown hlo hq3
                go_wp2_with (first
                  | (refine wpList_load_midG (by kernel_rfl) 27 (.tmp 52) rfl G 1 rfl LX _ HKX.out Tryd.underlying27 rfl SZLX.out ?_)
                  | (refine wpList_build_run (by kernel_rfl) 63 _ rfl #[(0, .agg LX.toArray), (1, .slice x.sel.a nv x.sel.c), (2, .int .u64 (bits BinOp.and .u64 (sv : Int) 281474976710655))] (by kernel_rfl) (.agg C.toArray) (HBD.out _) ?_)
                  | (refine wpList_build1 rfl 60 63 (.tmp 61) rfl isum _ Tryd.underlying60 his his0 C (by rw [his1, HCL.out]) (by rw [HCL.out]; kernel_rfl) (by rw [HCL.out]; decide) (by rw [HCL.out]; decide) rfl ?_)
                  | (at_builtin; refine wpList_append_lies _ rfl (.tmp 51) (.tmp 62) 60 rfl w.heap.size 63 isum _ 34 64 Tryd.underlying60 his his0 his1 his2 HZ34.out (by decide) _ q _ rfl (HOWN.out.alloc _) ⟨wr.heap.size, 0, none⟩ 1 1 C rfl HCL.out (World.news_of_block (cs := C.toArray) (heap_alloc_new wr _)) HC1.out (by decide) HML2.out HBYT.out HBS.out _ rfl ?_; intro g6 cap6 w6 hown6 hgr6 hat6 hlt6))
                have hfin := HEND.out g6 cap6 w6 hown6 hgr6
                have HFIN := Lib.hid hfin
                clear hfin hown6 hgr6 hat6 hlt6
                go_wp2
                go_roundw
                case rel => exact ⟨k + 1, by go_num, by omega, HFIN.out⟩
                case measure => simp [intOf]; omega
    · obtain rfl : k = N := by omega
      have HALL := Lib.hid (show os.take k = os from List.take_of_length_le (by rw [HOS.out.len]; exact Nat.le_refl _))
      go_wp2
      go_ret
      refine ⟨_, rfl, ?_⟩
      rw [← HALL.out]
      exact HGOT.out
end Go.Proofs.YtcpomddkehhkkaaDoor

/- The leaves that some gathers fit into a tree. -/
namespace Go.Proofs.YtcpomddkehhkkaaDoor
set_option linter.unusedVariables false
set_option linter.unusedSimpArgs false
open Go.ChangeShapes Go.WideShapes Go.ChangeAt Go.RowKit Go.Maps

theorem put_sum_le (T : List Lf) (l : Lf) : sumT (putT T l) ≤ sumT T + l.s := by
  unfold sumT
  induction T with
  | nil => simp [putT]
  | cons t T ih =>
    unfold putT
    split
    · simp only [List.map_cons, List.sum_cons]; omega
    · simp only [List.map_cons, List.sum_cons]; omega
theorem put_len_le (T : List Lf) (l : Lf) : (putT T l).length ≤ T.length + 1 := by
  rw [put_len]
  split <;> omega
theorem put_fits {T : List Lf} {l : Lf} (hv : l.v.length ≤ 65536) (hn : T.length < 256) (hs : sumT T + l.s < 18446744073709551616) : putE T l = 0 ∨ (putE T l = 1 ∧ l.v.length = 0 ∧ l.s = 0) := by
  unfold putE
  by_cases h1 : l.v.length = 0 ∧ l.s = 0
  · exact .inr ⟨if_pos h1, h1.1, h1.2⟩
  · refine .inl ?_
    rw [if_neg h1, if_neg (by omega), if_neg (by omega), if_pos (by omega)]
theorem build_fits (xs : List Sel) (h : ∀ x ∈ xs, x.s < 281474976710656) : (buildT xs).length ≤ xs.length ∧ sumT (buildT xs) ≤ xs.length * 281474976710656 := by
  have go : ∀ (xs : List Sel) (T : List Lf), (∀ x ∈ xs, x.s < 281474976710656) → (xs.foldl (fun T x => putN T x.leaf) T).length ≤ T.length + xs.length ∧ sumT (xs.foldl (fun T x => putN T x.leaf) T) ≤ sumT T + xs.length * 281474976710656 := by
    intro xs
    induction xs with
    | nil => intro T _; simp
    | cons x xs ih =>
      intro T hx
      have hxs : x.s < 281474976710656 := hx x List.mem_cons_self
      have hstep : (putN T x.leaf).length ≤ T.length + 1 ∧ sumT (putN T x.leaf) ≤ sumT T + 281474976710656 := by
        unfold putN
        split
        · exact ⟨put_len_le _ _, Nat.le_trans (put_sum_le _ _) (by show _ + x.s ≤ _; omega)⟩
        · exact ⟨by omega, by omega⟩
      have := ih (putN T x.leaf) (fun y hy => hx y (List.mem_cons_of_mem _ hy))
      simp only [List.foldl_cons, List.length_cons]
      omega
  have h0 := go xs [] h
  have hz : sumT [] = 0 := rfl
  unfold buildT
  simp only [List.length_nil, hz] at h0
  omega
theorem pick_small (o : OpT) : o.pick.s < 281474976710656 := Nat.mod_lt _ (by decide)
theorem some_each (m : Nat) (os : List OpT) : ∀ x ∈ someL m os, ∃ o ∈ os, x = o.pick ∧ o.sel.v.length ≤ 200 := by
  have go : ∀ (os : List OpT) (out : List Sel) (P : Sel → Prop), (∀ x ∈ out, P x) → (∀ o ∈ os, o.sel.v.length ≤ 200 → P o.pick) → ∀ x ∈ os.foldl (stepS m) out, P x := by
    intro os
    induction os with
    | nil => exact fun out P h _ => h
    | cons o os ih =>
      intro out P h hp
      refine ih _ P ?_ (fun y hy => hp y (List.mem_cons_of_mem _ hy))
      intro x hx
      unfold stepS at hx
      split at hx
      · exact h x hx
      · next hs =>
        split at hx
        · exact h x hx
        · rcases List.mem_append.1 hx with hx | hx
          · exact h x hx
          · rw [List.mem_singleton.1 hx]
            refine hp o List.mem_cons_self ?_
            have : ¬ 200 < o.sel.v.length := fun e => hs (.inr (.inl e))
            omega
  exact go os [] _ (fun x hx => by cases hx) (fun o ho hl => ⟨o, ho, rfl, hl⟩)
/-- the leaves that some gathers fit into a tree, one after the other. -/
theorem some_fits (m : Nat) (hm : m ≤ 256) (os : List OpT) (k : Nat) (x : Sel) (hk : (someL m os)[k]? = some x) : putE (buildT ((someL m os).take k)) x.leaf = 0 ∨ (putE (buildT ((someL m os).take k)) x.leaf = 1 ∧ x.v.length = 0 ∧ x.s = 0) := by
  have hlen := someL_len m os
  have hkl := (List.getElem?_eq_some_iff.1 hk).1
  obtain ⟨o, -, rfl, ho⟩ := some_each m os x (List.mem_of_getElem? hk)
  have hb := build_fits ((someL m os).take k) (fun y hy => by
    obtain ⟨o', -, rfl, -⟩ := some_each m os y (List.mem_of_mem_take hy)
    exact pick_small o')
  have htl : ((someL m os).take k).length = k := by rw [List.length_take]; omega
  rw [htl] at hb
  have hp := pick_small o
  refine put_fits (l := o.pick.leaf) ?_ ?_ ?_
  · show o.sel.v.length ≤ 65536; omega
  · omega
  · show sumT _ + o.pick.s < _; omega
/-- no key twice. -/
theorem some_nodup (m : Nat) (os : List OpT) : ((someL m os).map (·.key)).Nodup := by
  have go : ∀ (os : List OpT) (out : List Sel), (out.map (·.key)).Nodup → ((os.foldl (stepS m) out).map (·.key)).Nodup := by
    intro os
    induction os with
    | nil => exact fun out h => h
    | cons o os ih =>
      intro out h
      refine ih _ ?_
      unfold stepS
      split
      · exact h
      · split
        · exact h
        · next hk =>
          rw [List.map_append, List.nodup_append]
          refine ⟨h, by simp, ?_⟩
          intro a ha b hb e
          rw [List.map_singleton, List.mem_singleton] at hb
          obtain ⟨x, hx, hxa⟩ := List.mem_map.1 ha
          refine hk (List.any_eq_true.2 ⟨x, hx, decide_eq_true ?_⟩)
          have : o.pick.key = o.sel.key := rfl
          rw [← this, ← hb, ← e]
          exact hxa
  exact go os [] List.nodup_nil
/-- gathered leaves lie as tree takes them. -/
theorem Got.sels {w wr : World} {xs : List Sel} {A : Option Addr} {n c : Nat} (h : Got w w.heap.size xs (.slice A n c) wr) (hok : ∀ x ∈ xs, x.ok w) (hn : xs.length ≤ 1000000) : SelsAt wr A n xs := by
  have hlen : n = xs.length := by
    rcases h.2.1.2 with ⟨e, h0⟩ | ⟨_, _, _, e, _⟩
    · injection e with e1 e2 e3 <;> omega
    · injection e with e1 e2 e3 <;> omega
  refine ⟨hlen.symm, by omega, fun x hx => (hok x hx).below h.2.2, fun hpos => ?_⟩
  obtain ⟨gs, cap, cur, e, hB, hh, h1, h2, h3, h4⟩ := own_open h.2.1 (by omega)
  injection e with e1 e2 e3
  refine ⟨gs, 0, e1, hh.lt, fun i x hi j u hu => ?_⟩
  have hj := (List.getElem?_eq_some_iff.1 hu).1
  rw [Sel.len'] at hj
  have hil := (List.getElem?_eq_some_iff.1 hi).1
  rw [Nat.zero_add]
  refine hh.cell_is ?_
  have hlt : i * 34 + j < xs.length * 34 := by
    have : (i + 1) * 34 ≤ xs.length * 34 := Nat.mul_le_mul_right 34 hil
    omega
  rw [h4 _ hlt, flat_getK Sel.cells 34 Sel.len' xs i j x hi hj]
  exact hu
end Go.Proofs.YtcpomddkehhkkaaDoor

/- How a script of steps, a step and a leaf are read off the arguments. -/
namespace Go.Proofs.YtcpomddkehhkkaaDoor
set_option linter.unusedVariables false
set_option linter.unusedSimpArgs false
open Go.ChangeShapes Go.WideShapes Go.ChangeAt Go.RowKit Go.Maps

section
variable {H : Type} {enc : TypeId × Value → H} {w : World} {base : Nat} {spare : Nat → Bool} {held : Bool}
/-- a step's 35 cells. -/
theorem open_op {m : Nat} {cs : List Value} {y : Option (DataW H × List MemPlace)} (h : DataW.trod enc Tryd.prog w base spare held m 71 cs = y) (hy : y.isSome = true) (hl : cs.length = 35) :
    ∃ o : OpT, cs = o.cells ∧ o.ok w := by
  obtain ⟨z, rfl⟩ := Option.isSome_iff_exists.1 hy
  obtain ⟨xs, m2, _, _, _, hn, hf⟩ := DataW.trod_struct Tryd.underlying71 h
  have hn3 : xs.length = 3 := hn
  have hsome : ∀ j, j < 3 → (xs[j]?).isSome = true := fun j hj => by rw [List.getElem?_eq_getElem (by omega)]; rfl
  obtain ⟨a0, e0, w0⟩ := int_cut (i := 0) Tryd.underlying3 (by kernel_rfl) (hf 0 _ rfl) (hsome 0 (by decide))
  obtain ⟨k, e1, w1⟩ := hash_cut (i := 1) Tryd.underlying27 Tryd.underlying5 (by kernel_rfl) (by kernel_rfl) (hf 1 _ rfl) (hsome 1 (by decide))
  obtain ⟨A, bs, c, s, e2, hs, hb, hby⟩ := leaf_cut (i := 33) (hf 2 _ rfl) (hsome 2 (by decide)) (by omega)
  refine ⟨⟨a0, ⟨k, A, c, bs, s, w1⟩⟩, ?_, w1, hs, hb, hby⟩
  have f0 := cut_list cs 0 1
  have f1 := cut_list cs 1 32
  have f2 := cut_list cs 33 2
  have f3 : cs.drop 35 = [] := List.drop_eq_nil_of_le (by omega)
  simp only [Nat.reduceAdd] at f0 f1 f2
  rw [e0] at f0
  rw [e1] at f1
  rw [e2, f3] at f2
  rw [f2] at f1
  rw [f1] at f0
  rw [List.drop_zero] at f0
  rw [f0]
  simp [OpT.cells, Sel.cells]
/-- a script among the arguments. -/
theorem open_ops {A : Option Addr} {n c : Nat} {d : DataW H} {p : List MemPlace} (h : DataW.Trod enc Tryd.prog w base spare held 59 (.slice A n c) d p) : ∃ os, OpsAt w A n os := by
  obtain ⟨hm, b, off, hA, hall⟩ := open_rows Tryd.underlying59 (k := 35) (by kernel_rfl) (by decide) h
  have ho : ∀ i, i < n → ∃ s : OpT, s.ok w ∧ w.rangeAt b (off + i * 35) s.cells := fun i hi => by
    obtain ⟨cs, m, x, hl, hc, htr⟩ := hall i hi
    obtain ⟨s, hs, hok⟩ := open_op htr rfl hl
    refine ⟨s, hok, fun j v hv => ?_⟩
    have hj := (List.getElem?_eq_some_iff.1 hv).1
    rw [OpT.len hok.key.1] at hj
    rw [hc j hj, hs]; exact hv
  have mk : ∀ m, m ≤ n → ∃ ss : List OpT, ss.length = m ∧ (∀ s ∈ ss, s.ok w) ∧ ∀ (i : Nat) s, ss[i]? = some s → w.rangeAt b (off + i * 35) s.cells := fun m => by
    induction m with
    | zero => exact fun _ => ⟨[], rfl, fun s hs => (by cases hs), fun i s hi => (by simp at hi)⟩
    | succ m ih =>
      intro hm
      obtain ⟨ss, h1, h2, h3⟩ := ih (by omega)
      obtain ⟨s, hs, hr⟩ := ho m (by omega)
      refine ⟨ss ++ [s], by simp [h1], fun t ht => ?_, fun i t hi => ?_⟩
      · rcases List.mem_append.1 ht with ht | ht
        · exact h2 t ht
        · rw [List.mem_singleton.1 ht]; exact hs
      · rcases Nat.lt_or_ge i m with hlt | hge
        · rw [List.getElem?_append_left (by omega)] at hi
          exact h3 i t hi
        · have hil := (List.getElem?_eq_some_iff.1 hi).1
          rw [List.length_append, h1] at hil
          have : i = m := by simp at hil; omega
          subst this
          rw [List.getElem?_append_right (by omega), h1, Nat.sub_self] at hi
          obtain rfl : s = t := by simpa using hi
          exact hr
  obtain ⟨ss, h1, h2, h3⟩ := mk n (Nat.le_refl _)
  refine ⟨ss, h1, by unfold maxLen at hm; omega, h2, fun hn => ⟨b, off, hA hn, ?_, h3⟩⟩
  obtain ⟨s, hs, hr⟩ := ho 0 hn
  exact World.block_lt_of_cell? w _ (hr 0 (.int .i64 s.K) rfl)
set_option maxRecDepth 100000 in
/-- a step by value. -/
theorem open_opV {base' : Nat} {r : Reach} {v : Value} {d : DataW H} {p : List MemPlace} (hv : Value.okWide Tryd.prog w r base' 71 v) (h : DataW.Trod enc Tryd.prog w base spare held 71 v d p) :
    ∃ o : OpT, v = .agg o.cells.toArray ∧ o.ok w := by
  obtain ⟨cs, rfl, hs⟩ := okWide_struct Tryd.underlying71 hv
  obtain ⟨fuel, hf⟩ := h
  have hf' : DataW.trod enc Tryd.prog w base spare held fuel 71 cs.toList = some (d, p) := by simpa [Value.cells] using hf
  have hc : Tryd.prog.cellsOf 71 = 35 := by kernel_rfl
  obtain ⟨o, h1, h2⟩ := open_op hf' rfl (by rw [Array.length_toList, hs, hc])
  exact ⟨o, by rw [← h1], h2⟩
end
/-- what stands in a tree that was built is something. -/
theorem build_some (xs : List Sel) : ∀ t ∈ buildT xs, ¬ (t.v.length = 0 ∧ t.s = 0) := by
  have go : ∀ (xs : List Sel) (T : List Lf), (∀ t ∈ T, ¬ (t.v.length = 0 ∧ t.s = 0)) → ∀ t ∈ xs.foldl (fun T x => putN T x.leaf) T, ¬ (t.v.length = 0 ∧ t.s = 0) := by
    intro xs
    induction xs with
    | nil => exact fun T h => h
    | cons x xs ih =>
      intro T h
      refine ih _ ?_
      intro t ht
      have ht : t ∈ putN T x.leaf := ht
      unfold putN at ht
      split at ht
      · next he =>
        rcases put_mem ht with rfl | ht
        · intro hz
          unfold putE at he
          rw [if_pos hz] at he
          cases he
        · exact h t ht
      · exact h t ht
  exact go xs [] (fun t ht => by cases ht)
theorem some_take_ok {w : World} {A : Option Addr} {n : Nat} {os : List OpT} (h : OpsAt w A n os) (m : Nat) : ∀ x ∈ someL m os, x.ok w := fun x hx => by
  obtain ⟨o, ho, rfl, hl⟩ := some_each m os x hx
  have hk := h.ok o ho
  exact ⟨hk.key, by have := pick_small o; omega, by show o.sel.v.length ≤ _; omega, hk.bytes⟩

theorem OpT.ok.below {w w' : World} {o : OpT} (h : o.ok w) (hb : Below w.heap.size w w') : o.ok w' := ⟨h.key, h.s, h.few, h.bytes.alive hb hb.size⟩
theorem OpsAt.below {w w' : World} {A : Option Addr} {n : Nat} {os : List OpT} (h : OpsAt w A n os) (hb : Below w.heap.size w w') : OpsAt w' A n os :=
  ⟨h.len, h.few, fun o ho => (h.ok o ho).below hb, fun hn => by
    obtain ⟨b, o, e, hlt, hr⟩ := h.at_ hn
    exact ⟨b, o, e, by have := hb.size; omega, fun i x hx => rangeAt_kept (hr i x hx) (Kept.of_below (S := fun _ => False) hb) (fun h => h)⟩⟩
theorem and_32 (n : Int) (hn : 0 ≤ n) : bits BinOp.and .u64 n 4294967295 = n % 4294967296 := by
  unfold bits
  have e : (BitVec.ofInt IntKind.u64.bits n &&& BitVec.ofInt IntKind.u64.bits 4294967295).toNat = (n % 4294967296).toNat := by
    show (BitVec.ofInt 64 n &&& BitVec.ofInt 64 4294967295).toNat = _
    rw [BitVec.toNat_and, BitVec.toNat_ofInt, BitVec.toNat_ofInt]
    have h31 : ((4294967295 : Int) % ((2 ^ 64 : Nat) : Int)).toNat = 2 ^ 32 - 1 := by decide
    rw [h31, Nat.and_two_pow_sub_one_eq_mod]
    have : ((2 ^ 64 : Nat) : Int) = 18446744073709551616 := by decide
    rw [this]
    show _ % 4294967296 = _
    omega
  simp only [e]
  rw [IntKind.wrap_u64]
  omega
theorem and_16 (n : Int) (hn : 0 ≤ n) : bits BinOp.and .u64 n 65535 = n % 65536 := by
  unfold bits
  have e : (BitVec.ofInt IntKind.u64.bits n &&& BitVec.ofInt IntKind.u64.bits 65535).toNat = (n % 65536).toNat := by
    show (BitVec.ofInt 64 n &&& BitVec.ofInt 64 65535).toNat = _
    rw [BitVec.toNat_and, BitVec.toNat_ofInt, BitVec.toNat_ofInt]
    have h31 : ((65535 : Int) % ((2 ^ 64 : Nat) : Int)).toNat = 2 ^ 16 - 1 := by decide
    rw [h31, Nat.and_two_pow_sub_one_eq_mod]
    have : ((2 ^ 64 : Nat) : Int) = 18446744073709551616 := by decide
    rw [this]
    show _ % 65536 = _
    omega
  simp only [e]
  rw [IntKind.wrap_u64]
  omega

section
variable {K s0 : List Wd} {S : Nat → Prop} {w : World} {g : Nat} {T : List Lf}
theorem tr_get (h : Tr K s0 S w g T) (k : List Nat) (hk : IsHash k) :
    Calls Tryd.prog 35 #[.pointer (some ⟨g, 0, none⟩), arr k] w fun e w' => ∃ v', e = .returned (.tuple #[leafV v' (wasS T k), .bool (findT T k).isSome]) ∧ RowB (fun j => w.heap.size ≤ j) w' v' (valT T k) ∧ Below w.heap.size w w' := by
  obtain ⟨m, es, h⟩ := h
  exact get_is w h k hk
theorem tr_drop (h : Tr K s0 S w g T) (hl8 : s0.length = 8) (k : List Nat) (hk : IsHash k) :
    Calls Tryd.prog 34 #[.pointer (some ⟨g, 0, none⟩), arr k] w fun e w' => e = .returned (.bool (findT T k).isSome) ∧ Tr K s0 S w' g (dropT T k) ∧ Kept S w w' := by
  obtain ⟨m, es, h⟩ := h
  exact (drop_is w h hl8 k hk).mono fun e w' ⟨h1, ⟨es', h2⟩, h3⟩ => ⟨h1, ⟨m, es', h2⟩, h3.mono fun k _ e => e.elim (fun e => e ▸ h.zg) (fun e => e ▸ h.zm)⟩
end
end Go.Proofs.YtcpomddkehhkkaaDoor
