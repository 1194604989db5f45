/- LeafReads: whatever bytes: the leaf that they are, or why they are none; its bytes are just these: for every input the law returns true. The tables of the digest are laid as the program's text lays them. -/
import Derived.Test.YtbhnnoejhbihhaaGreatDoorRnEq
import Derived.Test.YtbhnnoejhbihhaaGreatDoorLf1
import Derived.Test.YtbhnnoejhbihhaaGreatDoorSha7
import Derived.Laws.BytesArg
import Derived.Test.YtbhnnoejhbihhaaGreatDoorRef1
import Derived.Test.YtbhnnoejhbihhaaGreatDoorMem
import Derived.Deep.Slices
import Derived.Test.YtbhnnoejhbihhaaGreatDoorMsum3
import Derived.Test.YtbhnnoejhbihhaaGreatDoorPf2
import Derived.LaidMore
import Derived.Stop.Joined
import Derived.Test.YtbhnnoejhbihhaaGreatDoorRef0
import Derived.Test.YtbhnnoejhbihhaaGreatDoorLf5
import Derived.Test.YtbhnnoejhbihhaaGreatDoorLb4
import Derived.Test.YtbhnnoejhbihhaaGreatDoorLz2
import Derived.Test.YtbhnnoejhbihhaaGreatDoorCards
import Derived.Test.YtbhnnoejhbihhaaGreatDoorTie
import Derived.SevenTiedAt
/- Leaves compared, field by field. -/
namespace Go.Proofs.YtbhnnoejhbihhaaGreatDoor
set_option linter.unusedVariables false
set_option linter.unusedSimpArgs false
open Go.ChangeShapes Go.WideShapes Go.ChangeAt Go.RowKit Go.Maps

theorem lq_num {t : TypeId} {k : IntKind} {T : TypeId} (ht : t = T) (hu : Tryz.prog.underlying T = some (.int k)) {l : List Value} {off : Nat} {v : Value} (h : l[off]? = some v) (w : World) : (part t l.toArray off).run Tryz.prog w = .ok v w := by
  subst ht
  exact part_int hu (by simpa using h) w
theorem lq_eq {t : TypeId} {k : IntKind} {T : TypeId} (ht : t = T) (hu : Tryz.prog.underlying T = some (.int k)) (d : Nat) (a b : Int) (w : World) : (Op.equalIn (d + 1) t (.int k a) (.int k b)).run Tryz.prog w = .ok (a == b) w := by
  subst ht
  exact run_equalIn_int w d t k k a b hu
instance : DecidableEq LeafT := fun a b => decidable_of_iff (a.id = b.id ∧ a.am = b.am ∧ a.ow = b.ow ∧ a.pl = b.pl ∧ a.sp.h = b.sp.h ∧ a.sp.s = b.sp.s) (by
  obtain ⟨a1, a2, a3, a4, ⟨a5, a6⟩⟩ := a
  obtain ⟨b1, b2, b3, b4, ⟨b5, b6⟩⟩ := b
  simp)
theorem lf_id {l : LeafT} (h : l.ok) : (l.cells.drop 0).take 32 = bcells l.id := by
  rw [List.drop_zero, LeafT.cells, List.take_append_of_le_length (by rw [bcells_length, h.id.1]; exact Nat.le_refl _)]
  exact List.take_of_length_le (by rw [bcells_length, h.id.1]; exact Nat.le_refl _)
theorem lf_ow {l : LeafT} (h : l.ok) : (l.cells.drop 33).take 32 = bcells l.ow := by
  have e : l.cells = (bcells l.id ++ [Value.int .u64 (l.am : Int)]) ++ (bcells l.ow ++ (.int .i64 l.pl :: ndV l.sp)) := by unfold LeafT.cells; simp
  have hl : (bcells l.id ++ [Value.int .u64 (l.am : Int)]).length = 33 := by simp [bcells_length, h.id.1]
  rw [e, ← hl, List.drop_left, List.take_append_of_le_length (by rw [bcells_length, h.ow.1]; exact Nat.le_refl _)]
  exact List.take_of_length_le (by rw [bcells_length, h.ow.1]; exact Nat.le_refl _)
theorem lf_sp {l : LeafT} (h : l.ok) : (l.cells.drop 66).take 33 = ndV l.sp := by
  have e : l.cells = (bcells l.id ++ [Value.int .u64 (l.am : Int)] ++ bcells l.ow ++ [Value.int .i64 l.pl]) ++ ndV l.sp := by unfold LeafT.cells; simp
  have hl : (bcells l.id ++ [Value.int .u64 (l.am : Int)] ++ bcells l.ow ++ [Value.int .i64 l.pl]).length = 66 := by simp [bcells_length, h.id.1, h.ow.1]
  rw [e, ← hl, List.drop_left]
  exact List.take_of_length_le (by rw [ndV_len h.sp]; exact Nat.le_refl _)
theorem nd_h {x : Nd} (h : IsHash x.h) : ((ndV x).drop 0).take 32 = bcells x.h := by
  rw [List.drop_zero, ndV, ncells, List.take_append_of_le_length (by rw [bcells_length, h.1]; exact Nat.le_refl _)]
  exact List.take_of_length_le (by rw [bcells_length, h.1]; exact Nat.le_refl _)
theorem nd_s {x : Nd} (h : IsHash x.h) : (ndV x)[32]? = some (.int .u64 (x.s : Int)) := by
  rw [ndV, ncells, List.getElem?_append_right (by rw [bcells_length, h.1]; exact Nat.le_refl _), bcells_length, h.1]
  rfl
theorem lr_hash {t : TypeId} (ht : t = 25) {l : List Value} {off : Nat} {k : List Nat} (h : (l.drop off).take 32 = bcells k) (w : World) : (part t l.toArray off).run Tryz.prog w = .ok (.agg (bcells k).toArray) w := by
  subst ht
  rw [part_agg Tryz.underlying25 (k := 32) (by kernel_rfl), extract_list, h]
theorem lr_heq {t : TypeId} (ht : t = 25) (d : Nat) {a b : List Nat} (ha : IsHash a) (hb : IsHash b) (w : World) : (Op.equalIn (d + 2) t (.agg (bcells a).toArray) (.agg (bcells b).toArray)).run Tryz.prog w = .ok (decide (a = b)) w := by
  subst ht
  exact hash_eq26_at d a b ha hb w
theorem lr_node {t : TypeId} (ht : t = 36) (d : Nat) (x y : Nd) (hx : IsHash x.h) (hy : IsHash y.h) (w : World) : (Op.equalIn (d + 4) t (.agg (ndV x).toArray) (.agg (ndV y).toArray)).run Tryz.prog w = .ok (decide (x.h = y.h ∧ x.s = y.s)) w := by
  subst ht
  obtain ⟨f0, f1, hf, ⟨n0, t0, o0⟩, ⟨n1, t1, o1⟩⟩ := rn_fields
  rw [run_equalIn_struct w (d + 3) 36 _ _ rn_struct (by kernel_rfl), hf, eqF_any n0 (lr_hash t0 (off := f0.offset) (by rw [o0]; exact nd_h hx) w) (lr_hash t0 (off := f0.offset) (by rw [o0]; exact nd_h hy) w) (lr_heq t0 (d + 1) hx hy w),
    eqF_any n1 (lq_num t1 Tryz.underlying27 (off := f1.offset) (by rw [o1]; exact nd_s hx) w) (lq_num t1 Tryz.underlying27 (off := f1.offset) (by rw [o1]; exact nd_s hy) w) (lq_eq t1 Tryz.underlying27 (d + 2) _ _ w), eqF_nil]
  by_cases h1 : x.h = y.h
  · by_cases h2 : x.s = y.s
    · simp [h1, h2]
    · have h2' : ¬ ((x.s : Int) = (y.s : Int)) := fun e => h2 (by omega)
      simp [h1, h2, h2']
  · simp [h1]
theorem lr_part {t : TypeId} (ht : t = 36) {l : List Value} {off : Nat} {x : Nd} (h : (l.drop off).take 33 = ndV x) (w : World) : (part t l.toArray off).run Tryz.prog w = .ok (.agg (ndV x).toArray) w := by
  subst ht
  obtain ⟨i, hi⟩ := info_of_underlying rn_struct
  have hc : Tryz.prog.cellsOf 36 = 33 := by kernel_rfl
  have e : l.toArray.extract off (off + Tryz.prog.cellsOf 36) = (ndV x).toArray := by rw [hc, extract_list, h]
  simp [part, isAgg, run_underlying rn_struct, run_sizeOf w hi, e, h]
theorem lr_fields : ∃ f0 f1 f2 f3 f4, (Tryz.prog.fieldsOf 38).toList = [f0, f1, f2, f3, f4] ∧ (f0.name ≠ "_" ∧ f0.type = 25 ∧ f0.offset = 0) ∧ (f1.name ≠ "_" ∧ f1.type = 27 ∧ f1.offset = 32) ∧ (f2.name ≠ "_" ∧ f2.type = 25 ∧ f2.offset = 33) ∧
    (f3.name ≠ "_" ∧ f3.type = 3 ∧ f3.offset = 65) ∧ (f4.name ≠ "_" ∧ f4.type = 36 ∧ f4.offset = 66) := by
  unfold Program.fieldsOf
  rw [Tryz.underlying38]
  exact ⟨_, _, _, _, _, rfl, ⟨by decide, rfl, rfl⟩, ⟨by decide, rfl, rfl⟩, ⟨by decide, rfl, rfl⟩, ⟨by decide, rfl, rfl⟩, ⟨by decide, rfl, rfl⟩⟩
theorem lr_struct : Tryz.prog.underlying 38 = some (.struct (Tryz.prog.fieldsOf 38)) := by
  unfold Program.fieldsOf
  rw [Tryz.underlying38]
theorem lr_eq (x y : LeafT) (hx : x.ok) (hy : y.ok) (w : World) : (Op.equalIn 10000 38 (.agg x.cells.toArray) (.agg y.cells.toArray)).run Tryz.prog w = .ok (decide (x = y)) w := by
  obtain ⟨f0, f1, f2, f3, f4, hf, ⟨n0, t0, o0⟩, ⟨n1, t1, o1⟩, ⟨n2, t2, o2⟩, ⟨n3, t3, o3⟩, ⟨n4, t4, o4⟩⟩ := lr_fields
  rw [run_equalIn_struct w 9999 38 _ _ lr_struct (by kernel_rfl), hf,
    eqF_any n0 (lr_hash t0 (off := f0.offset) (by rw [o0]; exact lf_id hx) w) (lr_hash t0 (off := f0.offset) (by rw [o0]; exact lf_id hy) w) (lr_heq t0 9997 hx.id hy.id w),
    eqF_any n1 (lq_num t1 Tryz.underlying27 (off := f1.offset) (by rw [o1]; exact LeafT.at_am hx) w) (lq_num t1 Tryz.underlying27 (off := f1.offset) (by rw [o1]; exact LeafT.at_am hy) w) (lq_eq t1 Tryz.underlying27 9998 _ _ w),
    eqF_any n2 (lr_hash t2 (off := f2.offset) (by rw [o2]; exact lf_ow hx) w) (lr_hash t2 (off := f2.offset) (by rw [o2]; exact lf_ow hy) w) (lr_heq t2 9997 hx.ow hy.ow w),
    eqF_any n3 (lq_num t3 Tryz.underlying3 (off := f3.offset) (by rw [o3]; exact LeafT.at_pl hx) w) (lq_num t3 Tryz.underlying3 (off := f3.offset) (by rw [o3]; exact LeafT.at_pl hy) w) (lq_eq t3 Tryz.underlying3 9998 _ _ w),
    eqF_any n4 (lr_part t4 (off := f4.offset) (by rw [o4]; exact lf_sp hx) w) (lr_part t4 (off := f4.offset) (by rw [o4]; exact lf_sp hy) w) (lr_node t4 9995 x.sp y.sp hx.sp hy.sp w), eqF_nil]
  have hd : (x = y) ↔ (x.id = y.id ∧ x.am = y.am ∧ x.ow = y.ow ∧ x.pl = y.pl ∧ x.sp.h = y.sp.h ∧ x.sp.s = y.sp.s) := by
    obtain ⟨a1, a2, a3, a4, ⟨a5, a6⟩⟩ := x
    obtain ⟨b1, b2, b3, b4, ⟨b5, b6⟩⟩ := y
    simp
  have hdd : decide (x = y) = decide (x.id = y.id ∧ x.am = y.am ∧ x.ow = y.ow ∧ x.pl = y.pl ∧ x.sp.h = y.sp.h ∧ x.sp.s = y.sp.s) := decide_eq_decide.2 hd
  rw [hdd]
  by_cases h1 : x.id = y.id
  · by_cases h2 : x.am = y.am
    · by_cases h3 : x.ow = y.ow
      · by_cases h4 : x.pl = y.pl
        · simp [h1, h2, h3, h4]
          by_cases h5 : x.sp.h = y.sp.h ∧ x.sp.s = y.sp.s
          · simp [h5]
          · simp [h5]
            exact fun e1 e2 => h5 ⟨e1, e2⟩
        · simp [h1, h2, h3, h4]
      · simp [h1, h2, h3]
    · have h2' : ¬ ((x.am : Int) = (y.am : Int)) := fun e => h2 (by omega)
      simp [h1, h2, h2']
  · simp [h1]
end Go.Proofs.YtbhnnoejhbihhaaGreatDoor

/- The walk of the reference's Same. -/
namespace Go.Proofs.YtbhnnoejhbihhaaGreatDoor
set_option linter.unusedVariables false
set_option linter.unusedSimpArgs false
open Go.ChangeShapes Go.WideShapes Go.ChangeAt Go.RowKit Go.Maps

def strOf (bs : List Nat) : ByteArray := strOfNums (bs.map fun (n : Nat) => (n : Int))
theorem strOf_inj {a b : List Nat} (ha : ∀ x ∈ a, x < 256) (hb : ∀ x ∈ b, x < 256) (h : strOf a = strOf b) : a = b := by
  have e := congrArg (fun s : ByteArray => s.data.toList.map UInt8.toNat) h
  simp only [strOf, strOfNums_data, List.map_map] at e
  have go : ∀ l : List Nat, (∀ x ∈ l, x < 256) → l.map (UInt8.toNat ∘ (fun n : Int => UInt8.ofNat n.toNat) ∘ fun (n : Nat) => (n : Int)) = l := fun l hl => by
    conv => rhs; rw [← List.map_id l]
    refine List.map_congr_left fun x hx => ?_
    have := hl x hx
    simp
    omega
  rw [go a ha, go b hb] at e
  exact e
theorem conv_zero (w : World) (p : Option Addr) (c : Nat) : (convert 22 9 (.slice p 0 c)).run Tryz.prog w = .ok (.string ByteArray.empty) w := by
  rw [run_convert_bytes_string w 22 9 5 p 0 c Tryz.underlying22 Tryz.underlying5 Tryz.underlying9]
  cases p <;> simp [Conv.bytesToString, loadCells, loadCellsFrom]
theorem conv_bytes {w : World} {g : Nat} {v : Value} {bs : List Nat} (h : Bytes w g v bs) : (convert 22 9 v).run Tryz.prog w = .ok (.string (strOf bs)) w := by
  obtain ⟨a, c, rfl, h1, h2, h3⟩ := h
  rcases Nat.eq_zero_or_pos bs.length with h0 | h0
  · obtain rfl : bs = [] := List.eq_nil_of_length_eq_zero h0
    exact conv_zero w a c
  · obtain ⟨bg, bo, rfl, _, hc⟩ := h3 h0
    exact run_convert_bytes_arg w 22 5 Tryz.underlying22 Tryz.underlying5 bg bo bs.length c (bs.map fun (n : Nat) => (n : Int)) (by simp) (fun i hi => by
      rw [hc i hi]
      congr 2
      rw [List.getD_eq_getElem?_getD, List.getD_eq_getElem?_getD, List.getElem?_map, List.getElem?_eq_getElem hi]
      rfl) 9 Tryz.underlying9
set_option maxRecDepth 100000 in
theorem same_is (w : World) (va vb : Value) (a b : List Nat) (ha : Bytes w w.heap.size va a) (hb : Bytes w w.heap.size vb b) :
    Calls Tryz.prog 17 #[va, vb] w fun e w' => e = .returned (.bool (decide (a = b))) ∧ w' = w := by
  have h1 := conv_bytes ha
  have h2 := conv_bytes hb
  have ht : ((strOf a).toList == (strOf b).toList) = decide (a = b) := by
    obtain ⟨_, _, _, _, la, _⟩ := ha
    obtain ⟨_, _, _, _, lb, _⟩ := hb
    rw [Bool.eq_iff_iff, beq_iff_eq, decide_eq_true_eq]
    refine ⟨fun e => strOf_inj la lb ?_, fun e => by rw [e]⟩
    rw [ByteArray.toList_eq, ByteArray.toList_eq] at e
    exact ByteArray.ext (Array.toList_inj.1 e)
  have HT := Lib.hid ht
  clear ha hb ht
  go_enter Tryz.func17, Tryz.ntmps17
  go_wp2
  go_ret
  refine ⟨?_, rfl⟩
  rw [← HT.out]
  rfl
end Go.Proofs.YtbhnnoejhbihhaaGreatDoor

/- The walk of the reference's Copy. -/
namespace Go.Proofs.YtbhnnoejhbihhaaGreatDoor
set_option linter.unusedVariables false
set_option linter.unusedSimpArgs false
open Go.ChangeShapes Go.WideShapes Go.ChangeAt Go.RowKit Go.Maps

set_option maxRecDepth 100000 in
theorem copy_is (w : World) (v : Value) (bs : List Nat) (hb : Bytes w w.heap.size v bs) (hl : bs.length ≤ 1000000) :
    Calls Tryz.prog 13 #[v] w fun e w' => (∃ a c, e = .returned (.slice a bs.length c) ∧ w'.ownsRow w.heap.size 5 1 (.slice a bs.length c) bs.length (bcells bs)) ∧ Below w.heap.size w w' := by
  have hown0 : (w.alloc (.cells #[] 5)).ownsRow w.heap.size 5 1 (.slice (some ⟨w.heap.size, 0, none⟩) 0 0) 0 [] := World.ownsRow_made w #[] 0 (Nat.le_refl _) (by decide) rfl
  have hal : Below w.heap.size w (w.alloc (.cells #[] 5)) := (Below.refl _ _).alloc (Nat.le_refl _) _
  have HOWN0 := Lib.hid hown0
  have HAL := Lib.hid hal
  have HSRC := Lib.hid (hb.alive hal hal.size)
  have HLN := Lib.hid (show 0 + bs.length ≤ 100000000 by omega)
  have HBS := Lib.hid hal.size
  clear hown0 hal hb hl
  go_enter Tryz.func13, Tryz.ntmps13
  go_wp2_with (at_builtin; refine wpList_append_bytes rfl (.tmp 3) (.tmp 4) rfl w.heap.size _ 0 _ rfl HOWN0.out _ _ bs rfl HSRC.out HLN.out HBS.out ?_; intro oa1 oc1 w1 hown1 hgr1)
  rw [Nat.zero_add] at hown1
  try rw [Nat.zero_add]
  have HFIN := Lib.hid (And.intro hown1 (HAL.out.grown hgr1 HBS.out (own_blk HOWN0.out)))
  clear hown1 hgr1
  go_ret
  exact ⟨⟨_, _, rfl, HFIN.out.1⟩, HFIN.out.2⟩
end Go.Proofs.YtbhnnoejhbihhaaGreatDoor

/- How slices of structs among the arguments are read. -/
namespace Go.Proofs.YtbhnnoejhbihhaaGreatDoor
set_option linter.unusedVariables false
set_option linter.unusedSimpArgs false
open Go.ChangeShapes Go.WideShapes Go.ChangeAt Go.RowKit

section
variable {H : Type} {enc : TypeId × Value → H} {P : Program} {w : World} {base : Nat} {spare : Nat → Bool} {held : Bool} {t e m : Nat} {cs : List Value} {y : Option (DataW H × List MemPlace)}

end
end Go.Proofs.YtbhnnoejhbihhaaGreatDoor

/- How bytes, digests, a leaf and a node are read off the arguments. -/
namespace Go.Proofs.YtbhnnoejhbihhaaGreatDoor
set_option linter.unusedVariables false
set_option linter.unusedSimpArgs false
open Go.ChangeShapes Go.WideShapes Go.ChangeAt Go.RowKit Go.Maps

section
variable {H : Type} {enc : TypeId × Value → H} {P : Program} {w : World} {base : Nat} {spare : Nat → Bool} {held : Bool}
/-- a slice of bytes among the arguments. -/
theorem open_bytes {t e m : Nat} {A : Option Addr} {n c : Nat} {z : DataW H × List MemPlace} (ht : P.underlying t = some (.slice e)) (he : P.underlying e = some (.int .u8)) (h1 : P.cellsOf e = 1) (h : DataW.trod enc P w base spare held m t [.slice A n c] = some z) :
    ∃ bs : List Nat, bs.length = n ∧ n ≤ 9223372036854775807 ∧ Bytes w w.heap.size (.slice A n c) bs := by
  rcases Deep.open_slice1 ht h1 h with ⟨e0, _⟩ | ⟨a, len, cap, m2, n2, V, D, Pl, e0, hb, hl, hm, hmm, _, hall⟩
  · injection e0 with e0 _
    injection e0 with e1 e2 e3
    subst e1; subst e2; subst e3
    exact ⟨[], rfl, by decide, none, 0, rfl, Nat.le_refl _, (fun x hx => by cases hx), fun h => absurd h (by decide)⟩
  · injection e0 with e0 _
    injection e0 with e1 e2 e3
    subst e1; subst e2; subst e3
    have hnm : n ≤ m2 := by rw [hmm]; split <;> omega
    have hV : ∀ i, i < n → ∃ x : Nat, V i = .int .u8 (x : Int) ∧ x < 256 := fun i hi => by
      obtain ⟨x, hx, _, hw⟩ := DataW.trod_int he (hall i (by omega)).2
      injection hx with hx _
      have hb := bounds_u8 hw
      exact ⟨x.toNat, by rw [hx, Int.toNat_of_nonneg hb.1], by omega⟩
    refine ⟨(List.range n).map fun i => u8Of (V i), by simp, by unfold maxLen at hm; omega, some a, c, by simp, by simpa using hl, fun x hx => ?_, fun h0 => ?_⟩
    · obtain ⟨i, hi, rfl⟩ := List.mem_map.1 hx
      obtain ⟨y, hy, hlt⟩ := hV i (List.mem_range.1 hi)
      rw [hy]
      simpa [u8Of] using hlt
    · have hn0 : 0 < n := by simpa using h0
      have hc0 := (hall 0 (by omega)).1
      have ea : a.add 0 = a := by simp [Addr.add]
      rw [ea] at hc0
      have hlt := World.block_lt_of_cell? w _ hc0
      have hsp : a.spot = none := by
        unfold World.cell? at hc0
        split at hc0
        · split at hc0
          · cases hc0
          · rename_i hs
            cases hsp : a.spot
            · rfl
            · rw [hsp] at hs; simp at hs
        · cases hc0
      refine ⟨a.block, a.off, by cases a; simp at hsp; simp [hsp], by omega, fun i hi => ?_⟩
      have hi' : i < n := by simpa using hi
      obtain ⟨y, hy, hyl⟩ := hV i hi'
      have hc := (hall i (by omega)).1
      rw [hy] at hc
      have e3 : a.add i = ⟨a.block, a.off + i, none⟩ := by
        cases a
        simp at hsp
        subst hsp
        unfold Addr.add
        by_cases h1 : i = 0 <;> simp [h1]
      rw [e3] at hc
      rw [hc]
      simp [List.getD, hi', hy, u8Of]
end
section
variable {H : Type} {enc : TypeId × Value → H} {w : World} {base : Nat} {spare : Nat → Bool} {held : Bool}
end
end Go.Proofs.YtbhnnoejhbihhaaGreatDoor

/- How slices of structs are read off the arguments; nodes, a proof. -/
namespace Go.Proofs.YtbhnnoejhbihhaaGreatDoor
set_option linter.unusedVariables false
set_option linter.unusedSimpArgs false
open Go.ChangeShapes Go.WideShapes Go.ChangeAt Go.RowKit Go.Maps

section
variable {H : Type} {enc : TypeId × Value → H} {w : World} {base : Nat} {spare : Nat → Bool} {held : Bool}
end
end Go.Proofs.YtbhnnoejhbihhaaGreatDoor

/- What the listed variables give: the two tables of the digest hold 64 and 8 words. -/
namespace Go.Proofs.YtbhnnoejhbihhaaGreatDoor
set_option linter.unusedVariables false
set_option linter.unusedSimpArgs false
open Go.ChangeShapes Go.WideShapes Go.ChangeAt Go.RowKit

theorem own : ownKnob Tryz.prog.godebug = none := by kernel_rfl
theorem laidOut : laidOutB Tryz.prog = true := by kernel_rfl
theorem gStart : Tryz.prog.globalNamed "moneyer/sha.start" = some 2 := by kernel_rfl
theorem gRounds : Tryz.prog.globalNamed "moneyer/sha.rounds" = some 3 := by kernel_rfl
theorem tStart : (Tryz.prog.globals[2]?).map (·.type) = some 52 := by kernel_rfl
theorem tRounds : (Tryz.prog.globals[3]?).map (·.type) = some 53 := by kernel_rfl
end Go.Proofs.YtbhnnoejhbihhaaGreatDoor

/- What the listed variables hold, word by word: the reference's tables. -/
namespace Go.Proofs.YtbhnnoejhbihhaaGreatDoor
set_option linter.unusedVariables false
set_option linter.unusedSimpArgs false
open Go.ChangeShapes Go.WideShapes Go.ChangeAt Go.RowKit

def KS : List Wd := ks64.map (BitVec.ofNat 32)
def SS : List Wd := ss8.map (BitVec.ofNat 32)
theorem ss_len : SS.length = 8 := by decide
theorem words_at {H : Type} {enc : TypeId × Value → H} {P : Program} {w : World} {base : Nat} {spare : Nat → Bool} {held : Bool} {T e : TypeId} {n fuel : Nat} {cs : List Value} {d : DataW H} {p : List MemPlace} (l : List Nat)
    (ht : P.underlying T = some (.array n e)) (he : P.underlying e = some (.int .u32)) (h1 : P.cellsOf e = 1) (hT : P.cellsOf T = n) (hf : DataW.trod enc P w base spare held fuel T cs = some (d, p))
    (hd : d = .agg (l.map fun (k : Nat) => .lit (.int .u32 (k : Int)))) : ∀ i, i < n → cs[i]? = some (.int .u32 ((l.getD i 0 : Nat) : Int)) := by
  obtain ⟨xs, m, _, hx, hlen, hn, hall⟩ := DataW.trod_array ht hf
  rw [hT] at hlen
  subst hd
  have e3 : (xs.map (·.1)) = l.map fun (k : Nat) => (.lit (.int .u32 (k : Int)) : DataW H) := (DataW.agg.inj (Prod.mk.inj hx).1).symm
  have hll : l.length = n := by
    have := congrArg List.length e3
    simpa [hn] using this.symm
  intro i hi
  have hE := hall i hi
  rw [h1, Nat.mul_one, List.getElem?_eq_getElem (by omega)] at hE
  obtain ⟨k, hk1, e2, hw⟩ := DataW.trod_int he hE
  rw [List.drop_eq_getElem_cons (by omega)] at hk1
  simp only [List.take_succ_cons, List.take_zero, List.cons.injEq, and_true] at hk1
  have e4 : (xs.map (·.1))[i]? = (l.map fun (k : Nat) => (.lit (.int .u32 (k : Int)) : DataW H))[i]? := by rw [e3]
  rw [List.getElem?_map, List.getElem?_map, List.getElem?_eq_getElem (by omega : i < xs.length), List.getElem?_eq_getElem (by omega : i < l.length), e2] at e4
  simp only [Option.map_some, Option.some.injEq, DataW.lit.injEq, Lit.int.injEq, true_and] at e4
  rw [List.getElem?_eq_getElem (by omega), hk1, e4, List.getD_eq_getElem?_getD, List.getElem?_eq_getElem (by omega)]
  rfl
theorem ks_nat : ∀ i, i < 64 → (KS.getD i 0).toNat = ks64.getD i 0 := by decide
theorem ss_nat : ∀ i, i < 8 → (SS.getD i 0).toNat = ss8.getD i 0 := by decide
end Go.Proofs.YtbhnnoejhbihhaaGreatDoor

/- The plain law of leaves: the tree of a transfer is its leaves, each at its own place. -/
namespace Go.Proofs.YtbhnnoejhbihhaaGreatDoor
set_option linter.unusedVariables false
set_option linter.unusedSimpArgs false

/-- the first eight places differ. -/
theorem place_first : ∀ i : Fin 8, (placeK KS SS i.val).getD 0 0 = [216, 118, 61, 40, 43, 137, 243, 66].getD i.val 0 := by decide +kernel
theorem place_ne (i j : Nat) (hi : i < 8) (hj : j < 8) (h : placeK KS SS i = placeK KS SS j) : i = j := by
  have h1 := place_first ⟨i, hi⟩
  have h2 := place_first ⟨j, hj⟩
  rw [show (⟨i, hi⟩ : Fin 8).val = i from rfl, h, h2] at h1
  have : ∀ a b : Fin 8, [216, 118, 61, 40, 43, 137, 243, 66].getD a.val 0 = [216, 118, 61, 40, 43, 137, 243, 66].getD b.val 0 → a = b := by decide
  exact (congrArg Fin.val (this ⟨j, hj⟩ ⟨i, hi⟩ h1)).symm
/-- the leaves of a transfer as those of a tree. -/
def partsT (K s0 : List Wd) (ls : List LeafT) : List Lf := ls.mapIdx (partL K s0)
def amS (ls : List LeafT) : Nat := (ls.map (·.am)).sum
theorem amS_app (a b : List LeafT) : amS (a ++ b) = amS a + amS b := by simp [amS]
theorem am_le {ls : List LeafT} {l : LeafT} (h : l ∈ ls) : l.am ≤ amS ls := by
  induction ls with
  | nil => cases h
  | cons x ls ih =>
    have e : amS (x :: ls) = x.am + amS ls := by simp [amS]
    rcases List.mem_cons.1 h with rfl | h
    · omega
    · have := ih h; omega
theorem parts_sum (K s0 : List Wd) (ls : List LeafT) : sumT (partsT K s0 ls) = amS ls := by
  unfold sumT partsT amS
  congr 1
  apply List.ext_getElem?
  intro i
  simp only [List.getElem?_map, List.getElem?_mapIdx]
  cases ls[i]? <;> rfl
theorem find_get {T : List Lf} (hn : (T.map (·.k)).Nodup) {i : Nat} {t : Lf} (h : T[i]? = some t) : findT T t.k = some t := find_mem hn (List.mem_of_getElem? h)
theorem find_new {T : List Lf} {k : List Nat} (h : ∀ t ∈ T, t.k ≠ k) : findT T k = none := by
  cases e : findT T k with
  | none => rfl
  | some l => exact absurd (find_key e).1 (h l (find_key e).2)
theorem parts_take (K s0 : List Wd) (ls : List LeafT) (k : Nat) (l : LeafT) (h : ls[k]? = some l) : partsT K s0 (ls.take (k + 1)) = partsT K s0 (ls.take k) ++ [partL K s0 k l] := by
  have hk := (List.getElem?_eq_some_iff.1 h).1
  unfold partsT
  rw [List.take_add_one, h, List.mapIdx_append]
  simp [List.length_take, Nat.min_eq_left (Nat.le_of_lt hk)]
theorem parts_key {ls : List LeafT} {k : Nat} (hk : k < 8) : ∀ t ∈ partsT KS SS (ls.take k), t.k ≠ placeK KS SS k := by
  intro t ht e
  obtain ⟨i, hi⟩ := List.getElem?_of_mem ht
  have hil := (List.getElem?_eq_some_iff.1 hi).1
  simp only [partsT, List.length_mapIdx, List.length_take] at hil
  unfold partsT at hi
  rw [List.getElem?_mapIdx] at hi
  cases h : (ls.take k)[i]? with
  | none => rw [h] at hi; cases hi
  | some l =>
    rw [h] at hi
    injection hi with hi
    rw [← hi] at e
    have := place_ne i k (by omega) hk e
    omega
theorem putE_part {ls : List LeafT} {k : Nat} {l : LeafT} (hl : l.ok) (hk : k < 8) : putE (partsT KS SS (ls.take k)) (partL KS SS k l) = if amS (ls.take k) + l.am < 18446744073709551616 then 0 else 10 := by
  have h64 : (partL KS SS k l).v.length = 64 := by show (l.id ++ l.ow).length = 64; rw [List.length_append, hl.id.1, hl.ow.1]
  have hf : findT (partsT KS SS (ls.take k)) (partL KS SS k l).k = none := find_new (parts_key hk)
  have hlen : (partsT KS SS (ls.take k)).length ≤ k := by simp [partsT]; omega
  have hw : wasS (partsT KS SS (ls.take k)) (partL KS SS k l).k = 0 := by unfold wasS; rw [hf]
  unfold putE
  rw [h64, if_neg (by omega), if_neg (by omega), if_neg (by rintro ⟨_, h⟩; omega), hw, parts_sum]
  rfl
/-- one leaf more. -/
theorem tlStep_at {ls : List LeafT} {k : Nat} {l : LeafT} (hl : l.ok) (hk : k < 8) (h : ls[k]? = some l) : tlStep KS SS k l (partsT KS SS (ls.take k)) =
    if l.pl ≠ (k : Int) ∨ l.am = 0 then .error 22 else if amS (ls.take k) + l.am < 18446744073709551616 then .ok (partsT KS SS (ls.take (k + 1))) else .error 10 := by
  unfold tlStep
  rw [putE_part hl hk]
  by_cases h1 : l.pl ≠ (k : Int) ∨ l.am = 0
  · rw [if_pos h1, if_pos h1]
  · rw [if_neg h1, if_neg h1]
    by_cases h2 : amS (ls.take k) + l.am < 18446744073709551616
    · rw [if_pos h2, if_pos rfl, if_pos h2]
      have he := putE_part (ls := ls) hl hk
      rw [if_pos h2] at he
      rw [putN, if_pos he, put_new (find_new (parts_key hk)), parts_take KS SS ls k l h]
    · rw [if_neg h2, if_neg (by decide), if_neg h2]
/-- what is known of a tree of a transfer. -/
theorem tl_ok {ls : List LeafT} (hok : ∀ l ∈ ls, l.ok) : ∀ (k : Nat), k ≤ 8 → k ≤ ls.length → ∀ T, tlAt KS SS ls k = .ok T → T = partsT KS SS (ls.take k) ∧ amS (ls.take k) < 18446744073709551616 ∧ ∀ (i : Nat) l, i < k → ls[i]? = some l → l.pl = (i : Int) ∧ l.am ≠ 0
  | 0, _, _, T, h => by
    injection h with h
    subst h
    exact ⟨rfl, by simp [amS], fun i l hi => absurd hi (Nat.not_lt_zero i)⟩
  | k + 1, hk, hl, T, h => by
    cases e : tlAt KS SS ls k with
    | error x => rw [tlAt_err e (k + 1) (Nat.le_succ k)] at h; cases h
    | ok T0 =>
      obtain ⟨h1, h2, h3⟩ := tl_ok hok k (by omega) (by omega) T0 e
      obtain ⟨l, hlk⟩ : ∃ l, ls[k]? = some l := ⟨_, List.getElem?_eq_getElem (by omega)⟩
      have hlo := hok l (List.mem_of_getElem? hlk)
      rw [tlAt_succ e hlk, h1, tlStep_at hlo (by omega) hlk] at h
      split at h
      · cases h
      · rename_i h4
        split at h
        · rename_i h5
          injection h with h
          refine ⟨h.symm, ?_, fun i l' hi hl' => ?_⟩
          · rw [amS, List.take_add_one, hlk]
            simpa [amS] using h5
          · rcases Nat.lt_succ_iff_lt_or_eq.1 hi with q | q
            · exact h3 i l' q hl'
            · subst q
              rw [hlk] at hl'
              injection hl' with hl'
              subst hl'
              exact ⟨Decidable.byContradiction fun q => h4 (.inl q), fun q => h4 (.inr q)⟩
        · cases h
/-- leaves at their places whose sums fit have a tree. -/
theorem tl_makes {ls : List LeafT} (hok : ∀ l ∈ ls, l.ok) (hp : ∀ (i : Nat) l, ls[i]? = some l → l.pl = (i : Int) ∧ l.am ≠ 0) (hs : amS ls < 18446744073709551616) : ∀ (k : Nat), k ≤ 8 → k ≤ ls.length → tlAt KS SS ls k = .ok (partsT KS SS (ls.take k))
  | 0, _, _ => rfl
  | k + 1, hk, hl => by
    have e := tl_makes hok hp hs k (by omega) (by omega)
    obtain ⟨l, hlk⟩ : ∃ l, ls[k]? = some l := ⟨_, List.getElem?_eq_getElem (by omega)⟩
    obtain ⟨q1, q2⟩ := hp k l hlk
    have hle : amS (ls.take k) + l.am ≤ amS ls := by
      have h1 : amS ls = amS (ls.take (k + 1)) + amS (ls.drop (k + 1)) := by
        rw [← amS_app, List.take_append_drop]
      rw [h1, show amS (ls.take (k + 1)) = amS (ls.take k) + l.am by rw [amS, List.take_add_one, hlk]; simp [amS]]
      exact Nat.le_add_right _ _
    rw [tlAt_succ e hlk, tlStep_at (hok l (List.mem_of_getElem? hlk)) (by omega) hlk, if_neg (by rintro (h | h) <;> contradiction), if_pos (by omega)]
/-- a split is nothing to the tree. -/
theorem tl_split {K s0 : List Wd} (r : Nd) (ls : List LeafT) : ∀ k, tlAt K s0 (splitL r ls) k = tlAt K s0 ls k
  | 0 => rfl
  | k + 1 => by
    have ih := tl_split (K := K) (s0 := s0) r ls k
    cases e : tlAt K s0 ls k with
    | error x => rw [tlAt_err e (k + 1) (Nat.le_succ k), tlAt_err (ih.trans e) (k + 1) (Nat.le_succ k)]
    | ok T =>
      cases hl : ls[k]? with
      | none =>
        have h2 : (splitL r ls)[k]? = none := by rw [List.getElem?_eq_none_iff, splitL, turnTo_len]; exact List.getElem?_eq_none_iff.1 hl
        unfold tlAt
        rw [ih, e]
        simp only [hl, h2]
      | some l =>
        have h2 : (splitL r ls)[k]? = some (spF r k l) := by rw [splitL, turnTo_get _ _ _ k l hl, if_pos (List.getElem?_eq_some_iff.1 hl).1]
        rw [tlAt_succ e hl, tlAt_succ (ih.trans e) h2]
        rfl
theorem placed_get {ls : List LeafT} {i : Nat} {l : LeafT} (h : ls[i]? = some l) : (placed ls)[i]? = some (plF i l) := by
  rw [placed, turnTo_get _ _ _ i l h, if_pos (List.getElem?_eq_some_iff.1 h).1]
theorem split_get {r : Nd} {ls : List LeafT} {i : Nat} {l : LeafT} (h : ls[i]? = some l) : (splitL r ls)[i]? = some (spF r i l) := by
  rw [splitL, turnTo_get _ _ _ i l h, if_pos (List.getElem?_eq_some_iff.1 h).1]
theorem placed_len (ls : List LeafT) : (placed ls).length = ls.length := turnTo_len ..
theorem split_len (r : Nd) (ls : List LeafT) : (splitL r ls).length = ls.length := turnTo_len ..
theorem placed_ok {ls : List LeafT} (h : ∀ l ∈ ls, l.ok) (hn : ls.length ≤ 256) : ∀ l ∈ placed ls, l.ok := turnTo_ok plF _ ls LeafT.ok h (fun i x hi hx => plF_ok hx i (by omega))
theorem split_ok {r : Nd} (hr : IsHash r.h) (hs : r.s < 18446744073709551616) {ls : List LeafT} (h : ∀ l ∈ ls, l.ok) : ∀ l ∈ splitL r ls, l.ok := turnTo_ok (spF r) _ ls LeafT.ok h (fun i x hi hx => spF_ok hx r hr hs i)
theorem parts_keyed {ls : List LeafT} (hn : ls.length ≤ 8) : Keyed ((partsT KS SS ls).map (·.k)) := by
  refine ⟨fun k hk => ?_, ?_⟩
  · obtain ⟨t, ht, rfl⟩ := List.mem_map.1 hk
    obtain ⟨i, hi⟩ := List.getElem?_of_mem ht
    unfold partsT at hi
    rw [List.getElem?_mapIdx] at hi
    cases h : ls[i]? with
    | none => rw [h] at hi; cases hi
    | some l =>
      rw [h] at hi
      injection hi with hi
      rw [← hi]
      exact tagD_hash KS SS (by decide) plS [i]
  · rw [List.nodup_iff_pairwise_ne, List.pairwise_iff_getElem]
    intro i j hi hj hlt e
    simp only [List.length_map, partsT, List.length_mapIdx] at hi hj
    simp only [List.getElem_map, partsT, List.getElem_mapIdx] at e
    have := place_ne i j (by omega) (by omega) e
    omega
/-- each leaf of a transfer is one of them, by its proof. -/
theorem of_way {ls : List LeafT} (hok : ∀ l ∈ ls, l.ok) (hn : ls.length ≤ 8) {T : List Lf} (hT : tlAt KS SS ls ls.length = .ok T) {i : Nat} {l : LeafT} (hi : ls[i]? = some l) {bb : List Nat} (hb : ∀ h, h < 256 → bareB bb h = bareF KS SS (besF KS SS T (placeK KS SS i)) h) :
    leafBad { l with sp := partNd KS SS 256 T } = false ∧ pfRoot KS SS (bareB bb) (placeK KS SS i) (nodesF KS SS (besF KS SS T (placeK KS SS i)) 256) (leafNd KS SS (l.id ++ l.ow) l.am) = .ok (partNd KS SS 256 T) ∧ l.pl = (i : Int) := by
  have hil := (List.getElem?_eq_some_iff.1 hi).1
  obtain ⟨h1, h2, h3⟩ := tl_ok hok ls.length hn (Nat.le_refl _) T hT
  rw [List.take_of_length_le (Nat.le_refl _)] at h1 h2
  subst h1
  obtain ⟨q1, q2⟩ := h3 i l hil hi
  have hk := parts_keyed hn
  have hg : (partsT KS SS ls)[i]? = some (partL KS SS i l) := by unfold partsT; rw [List.getElem?_mapIdx, hi]; rfl
  have hf := find_get hk.2 hg
  have hv : valT (partsT KS SS ls) (placeK KS SS i) = l.id ++ l.ow := by
    unfold valT
    rw [show placeK KS SS i = (partL KS SS i l).k from rfl, hf]; rfl
  have hw : wasS (partsT KS SS ls) (placeK KS SS i) = l.am := by
    unfold wasS
    rw [show placeK KS SS i = (partL KS SS i l).k from rfl, hf]; rfl
  have hfit : sumT (partsT KS SS ls) < 18446744073709551616 := by rw [parts_sum]; exact h2
  have hp := pf_tree (K := KS) (s0 := SS) (key := placeK KS SS i) hk hfit (tagD_hash KS SS (by decide) plS [i]) hb
  rw [hv, hw] at hp
  refine ⟨?_, hp, q1⟩
  have hs : (partNd KS SS 256 (partsT KS SS ls)).s = amS ls := by rw [part_sum KS SS 256 _ hk (coh_top _), parts_sum]
  have hle : l.am ≤ amS ls := am_le (List.mem_of_getElem? hi)
  unfold leafBad
  rw [decide_eq_false_iff_not]
  rintro (h | h | h | h)
  · exact q2 h
  · have h' : l.pl < 0 := h; omega
  · have h' : 256 ≤ l.pl := h; omega
  · have h' : (partNd KS SS 256 (partsT KS SS ls)).s < l.am := h
    omega
end Go.Proofs.YtbhnnoejhbihhaaGreatDoor

/- The head of the laws of leaves: the document's example. -/
namespace Go.Proofs.YtbhnnoejhbihhaaGreatDoor
set_option linter.unusedVariables false
set_option linter.unusedSimpArgs false
open Go.ChangeShapes Go.WideShapes Go.ChangeAt Go.RowKit Go.Maps

theorem ofE_ok {K s0 : List Wd} {l : LeafT} {r : Nd} {bb : List Nat} {xs : List Nd} {i : Nat} (h1 : leafBad { l with sp := r } = false) (h2 : pfRoot K s0 (bareB bb) (placeK K s0 i) xs (leafNd K s0 (l.id ++ l.ow) l.am) = .ok r) (h3 : l.pl = (i : Int)) : ofE K s0 (spF r i l) bb xs = 0 := by
  unfold ofE
  rw [show leafBad (spF r i l) = false from h1, if_neg (by decide), show (spF r i l).pl = (i : Int) from h3, Int.toNat_natCast, show (spF r i l).id = l.id from rfl, show (spF r i l).ow = l.ow from rfl, show (spF r i l).am = l.am from rfl, show (spF r i l).sp = r from rfl, h2, chk_ok, if_pos (ndSame_iff.2 rfl)]
  rfl
/-- by its proof each leaf of a transfer is one of them. -/
theorem of_ok {ls : List LeafT} (hok : ∀ l ∈ ls, l.ok) (hn : ls.length ≤ 8) {T : List Lf} (hT : tlAt KS SS ls ls.length = .ok T) {i : Nat} {l : LeafT} (hi : ls[i]? = some l) {bb : List Nat} {a : Option Addr} {n : Nat} {w : World} (hp : ProofOf KS SS T (placeK KS SS i) bb a n w) :
    ofE KS SS (spF (partNd KS SS 256 T) i l) bb (nodesF KS SS (besF KS SS T (placeK KS SS i)) 256) = 0 :=
  ofE_ok (of_way hok hn hT hi hp.bits).1 (of_way hok hn hT hi hp.bits).2.1 (of_way hok hn hT hi hp.bits).2.2
/-- a leaf of nothing but an amount. -/
def zLf (n : Nat) : LeafT := ⟨List.replicate 32 0, n, List.replicate 32 0, 0, zNd⟩
theorem zLf_ok (n : Nat) (h : n < 18446744073709551616) : (zLf n).ok := ⟨zNd_hash, h, zNd_hash, (by show (-9223372036854775808 : Int) ≤ 0; decide), (by show (0 : Int) ≤ 9223372036854775807; decide), zNd_hash, (by show 0 < 18446744073709551616; decide)⟩
theorem zLf_build (n : Nat) (w : World) : (Instr.build 31 #[(1, .int .u64 (n : Int))]).run Tryz.prog w = .ok (.agg (zLf n).cells.toArray) w := by kernel_rfl
theorem leaf_at0 (b n c : Nat) (hn : 0 < n) (w : World) : (Instr.indexAt 62 (.slice (some ⟨b, 0, none⟩) n c) (.int .i64 0)).run Tryz.prog w = .ok (.pointer (some ⟨b, 0, none⟩)) w := by simpa using at_leaf0 b n c 0 hn w
theorem leaf_at1 (b n c : Nat) (hn : 1 < n) (w : World) : (Instr.indexAt 62 (.slice (some ⟨b, 0, none⟩) n c) (.int .i64 1)).run Tryz.prog w = .ok (.pointer (some ⟨b, 99, none⟩)) w := by simpa using at_leaf0 b n c 1 hn w
/-- the two leaves of the example. -/
def hls : List LeafT := [zLf 3, zLf 4]
theorem hls_ok : ∀ l ∈ hls, l.ok := fun l hl => by
  simp only [hls, List.mem_cons, List.not_mem_nil, or_false] at hl
  rcases hl with rfl | rfl <;> exact zLf_ok _ (by decide)
theorem hls_tree : tlAt KS SS (placed hls) 2 = .ok (partsT KS SS (placed hls)) := by
  have h := tl_makes (ls := placed hls) (placed_ok hls_ok (by decide)) (fun i l h => by
    have hi := (List.getElem?_eq_some_iff.1 h).1
    rw [placed_len] at hi
    have hi2 : i < 2 := hi
    rcases (by omega : i = 0 ∨ i = 1) with rfl | rfl
    · rw [placed_get (l := zLf 3) rfl] at h; injection h with h; subst h; exact ⟨rfl, by decide⟩
    · rw [placed_get (l := zLf 4) rfl] at h; injection h with h; subst h; exact ⟨rfl, by decide⟩) (by decide) 2 (by decide) (by decide)
  exact h
theorem hls_sum : (partNd KS SS 256 (partsT KS SS (placed hls))).s = 7 := by
  rw [part_sum KS SS 256 _ (parts_keyed (by decide)) (coh_top _), parts_sum]
  rfl
set_option maxRecDepth 100000 in
set_option maxHeartbeats 4000000 in
theorem headL_is (w : World) (hT : Tabs KS SS w) : Calls Tryz.prog 12 #[] w fun e w' => e = .returned (.bool true) ∧ Below w.heap.size w w' := by
  obtain ⟨Z, hinfo, hzs⟩ := info_leafT
  obtain ⟨Zp, hzp, -, hzps, hzpn, -⟩ := zero_proofB
  have hlow := hT.low
  have HT := Lib.hid hT
  have hb3 := zLf_build 3
  have hb4 := zLf_build 4
  obtain ⟨C3, hC3⟩ : ∃ L, L = (zLf 3).cells := ⟨_, rfl⟩
  obtain ⟨C4, hC4⟩ : ∃ L, L = (zLf 4).cells := ⟨_, rfl⟩
  rw [← hC3] at hb3
  rw [← hC4] at hb4
  have l3 : C3.length = 99 := by rw [hC3]; exact LeafT.len (zLf_ok 3 (by decide))
  have l4 : C4.length = 99 := by rw [hC4]; exact LeafT.len (zLf_ok 4 (by decide))
  have HINFO := Lib.hid hinfo
  have L3 := Lib.hid l3
  have L4 := Lib.hid l4
  have HN3 := Lib.hid (show ∀ v, (Instr.build 31 #[(1, .int .u64 3)]).run Tryz.prog v = .ok (.agg C3.toArray) v from hb3)
  have HN4 := Lib.hid (show ∀ v, (Instr.build 31 #[(1, .int .u64 4)]).run Tryz.prog v = .ok (.agg C4.toArray) v from hb4)
  obtain ⟨W1, hW1⟩ : ∃ W, W = w.alloc (.cells (C3 ++ C4).toArray 31) := ⟨_, rfl⟩
  have hh1 : Has W1 w.heap.size 31 (hls.flatMap LeafT.cells).toArray := by
    rw [hW1, hC3, hC4]
    simpa [hls] using Has.new w 31 ((zLf 3).cells ++ (zLf 4).cells).toArray
  have hb1 : Below w.heap.size w W1 := by rw [hW1]; exact (Below.refl _ _).alloc (Nat.le_refl _) _
  have hr1 := rows_has hh1 (len_cells hls_ok)
  have hcall := lfParts_is KS SS W1 (hT.below hb1 hlow) (some ⟨w.heap.size, 0, none⟩) 2 2 hls hr1 hls_ok (by decide)
  rw [hls_tree] at hcall
  have HCALL := Lib.hid hcall
  have HB1 := Lib.hid hb1
  have HW1 := Lib.hid hW1
  clear hcall hr1 hh1 hb1 hW1 hC3 hC4 hinfo l3 l4 hb3 hb4 hT
  go_enter Tryz.func12, Tryz.ntmps12
  go_wp2_with (first
    | (refine wpList_build_run rfl 31 #[(1, .const (.int .u64 3))] rfl #[(1, .int .u64 3)] (by kernel_rfl) (.agg C3.toArray) (HN3.out _) ?_)
    | (refine wpList_build_run rfl 31 #[(1, .const (.int .u64 4))] rfl #[(1, .int .u64 4)] (by kernel_rfl) (.agg C4.toArray) (HN4.out _) ?_)
    | (refine wpList_build2 rfl 62 31 (.tmp 6) (.tmp 7) rfl (.agg Z) 99 120 Tryz.underlying62 HINFO.out C3 C4 L3.out L4.out (by decide) (by decide) rfl rfl ?_))
  rw [← HW1.out]
  refine HCALL.out.mono ?_
  rintro _ w2 ⟨hb2, a, c, rfl, hown⟩
  obtain ⟨r, hr⟩ : ∃ r, r = partNd KS SS 256 (partsT KS SS (placed hls)) := ⟨_, rfl⟩
  have hrs : r.s = 7 := by rw [hr]; exact hls_sum
  have hrh : IsHash r.h := by rw [hr]; exact part_hash KS SS (by decide) 256 _
  rw [← hr] at hown
  have hok2 : ∀ l ∈ splitL r (placed hls), l.ok := split_ok hrh (by omega) (placed_ok hls_ok (by decide))
  have hlen2 : (splitL r (placed hls)).length = 2 := by rw [split_len, placed_len]; rfl
  obtain ⟨hrow, hfar⟩ := own_rows hown hlen2 (len_cells hok2)
  obtain ⟨b, o, rfl, hblt, hrr⟩ := hrow.at_ (by decide)
  have ho : o = 0 := by
    obtain ⟨g, cap, cur, e, _⟩ := own_open hown (by decide)
    injection e with e; injection e with e; injection e
  subst ho
  have g0 : (splitL r (placed hls))[0]? = some (spF r 0 (plF 0 (zLf 3))) := split_get (placed_get rfl)
  have g1 : (splitL r (placed hls))[1]? = some (spF r 1 (plF 1 (zLf 4))) := split_get (placed_get rfl)
  have o0 := hok2 _ (List.mem_of_getElem? g0)
  have o1 := hok2 _ (List.mem_of_getElem? g1)
  have c98 : w2.cell? ⟨b, 98, none⟩ = some (.int .u64 7) := by
    have := hrr 0 _ g0 98 _ (LeafT.at_ss o0)
    rw [show (spF r 0 (plF 0 (zLf 3))).sp.s = 7 from hrs] at this
    simpa using this
  have c164 : w2.cell? ⟨b, 164, none⟩ = some (.int .i64 1) := by
    have := hrr 1 _ g1 65 _ (LeafT.at_pl o1)
    simpa [spF, plF] using this
  have hway := lfWay_is KS SS w2 (HT.out.below (HB1.out.trans (hb2.mono HB1.out.size)) hlow) (some ⟨b, 0, none⟩) 2 c (splitL r (placed hls)) hrow hok2 (by decide) 1 (by decide) (by decide)
  rw [tl_split, hls_tree] at hway
  have HWAY := Lib.hid hway
  have hw2 : Below w.heap.size w w2 := HB1.out.trans (hb2.mono HB1.out.size)
  have HW2 := Lib.hid hw2
  have HRR := Lib.hid (hrr 1 _ g1)
  have HO1 := Lib.hid o1
  have HR := Lib.hid hr
  have ha0 := leaf_at0 b 2 c (by decide)
  have ha1 := leaf_at1 b 2 c (by decide)
  clear hway hw2 hrow hrr hown hfar g0 g1 o0 hok2 hlen2 hb2 hr hrs hrh o1 HCALL HW1
  go_wp2_with fail
  refine HWAY.out.mono ?_
  rintro _ w3 ⟨hb3, hm⟩
  dsimp only at hm
  rcases hm with ⟨hm, -⟩ | ⟨-, bb, pa, pn, pc, rfl, hpf, hnew⟩
  · omega
  replace hpf : ProofOf KS SS (partsT KS SS (placed hls)) (placeK KS SS 1) bb pa pn w3 := hpf
  have hpn : pn ≤ 1000000 := by have := nodesF_len (K := KS) (s0 := SS) (f := besF KS SS (partsT KS SS (placed hls)) (placeK KS SS 1)) 256; have := hpf.nodes.len; omega
  have hof0 : ofE KS SS (spF r 1 (plF 1 (zLf 4))) bb (nodesF KS SS (besF KS SS (partsT KS SS (placed hls)) (placeK KS SS 1)) 256) = 0 := by
    rw [HR.out]
    exact of_ok (ls := placed hls) (placed_ok hls_ok (by decide)) (by decide) hls_tree (placed_get rfl) hpf
  have h12 : IsHash bb := hpf.hash
  obtain ⟨LP, hLP⟩ : ∃ L, L = pcells bb pa pn pc := ⟨_, rfl⟩
  obtain ⟨LC, hLC⟩ : ∃ L, L = (spF r 1 (plF 1 (zLf 4))).cells := ⟨_, rfl⟩
  have lp : LP.length = 33 := by rw [hLP]; exact pcells_len h12 pa pn pc
  have lc : LC.length = 99 := by rw [hLC]; exact LeafT.len HO1.out
  have HRC := Lib.hid (show w3.rangeAt b 99 LC from by rw [hLC]; exact rangeAt_kept (by simpa using HRR.out) (Kept.of_below (S := fun _ => False) hb3) (fun e => e))
  obtain ⟨h4, hb4⟩ := new_row w3 90 Zp LP.toArray
  have hw3 := HW2.out.trans (hb3.mono HW2.out.size)
  have HOF := Lib.hid (show ∀ v : World, Below w3.heap.size w3 v → Calls Tryz.prog 59 #[.agg LC.toArray, .agg LP.toArray] v fun e w' => e = .returned (.int .i64 0) ∧ Below v.heap.size v w' from fun v hv => by
    have := lfOf_is KS SS v (HT.out.below (hw3.trans (hv.mono hw3.size)) hlow) (spF r 1 (plF 1 (zLf 4))) HO1.out bb h12 pa pn pc _ (hpf.nodes.below hv) hpn
    rw [hof0] at this
    rw [hLC, hLP]
    exact this)
  have HW3 := Lib.hid hw3
  have HRC4 := Lib.hid (rangeAt_kept HRC.out (Kept.of_below (S := fun _ => False) hb4) (fun e => e))
  have H4 := Lib.hid h4
  have HB4 := Lib.hid hb4
  have SZP := Lib.hid (show (Tryz.prog.info? 90).map (·.size) = some LP.toArray.size by rw [List.size_toArray, lp]; kernel_rfl)
  have SZPL := Lib.hid (show (Tryz.prog.info? 90).map (·.size) = some LP.length by rw [lp]; kernel_rfl)
  have SZC := Lib.hid (show (Tryz.prog.info? 31).map (·.size) = some LC.length by rw [lc]; kernel_rfl)
  have HZP := Lib.hid (show Zp.size = LP.toArray.size by rw [hzps, List.size_toArray, lp])
  have HOP := Lib.hid (show LP.toArray.all (·.oneCell') = true by rw [hLP]; exact pcells_one _ _ _ _)
  rw [← hLP]
  clear hLP hLC lp lc h4 hb4 hb3 hw3 hpf hnew hpn hof0 h12 HRR HO1 HR c98 c164 hzps
  go_wp2_with (refine wpList_store_row rfl 90 (.tmp 3) (.tmp 37) rfl w3.heap.size LP.toArray rfl rfl 90 Zp (heap_alloc_new w3 _) SZP.out HZP.out HOP.out ?_)
  obtain ⟨W4, hW4⟩ : ∃ W, W = (w3.alloc (.cells Zp 90)).setRow w3.heap.size LP.toArray := ⟨_, rfl⟩
  rw [← hW4] at HRC4 H4 HB4 ⊢
  clear hW4
  obtain ⟨G, hG⟩ : ∃ g, g = w3.heap.size := ⟨_, rfl⟩
  rw [← hG] at H4 ⊢
  clear hG
  have hS0 : w3.heap.size ≤ W4.drew.heap.size ∧ W4.drew.rangeAt b 99 LC ∧ Has W4.drew G 90 LP.toArray ∧ Below w3.heap.size w3 W4.drew := ⟨HB4.out.size, HRC4.out, H4.out, below_drew HB4.out⟩
  refine wp_region_noPanic ?_
  refine wp_region_held_drew (S := (fun v => w3.heap.size ≤ v.heap.size ∧ v.rangeAt b 99 LC ∧ Has v G 90 LP.toArray ∧ Below w3.heap.size w3 v)) (by kernel_rfl) hS0 (fun hH0 => ?_)
  apply wpAnyH_take (i := 0) (v := _) rfl (by kernel_rfl) (by kernel_rfl) (by kernel_rfl) (fun _ _ _ h => h) (Or.inl ⟨by kernel_rfl, ?hv⟩) hH0 ?_
  case hv => intro w' hS; go_simp; try exact rfl
  simp only [Act.put, List.getElem_toArray, List.getElem_cons_zero, List.getElem_cons_succ, List.setIfInBounds_toArray, List.set_cons_zero, List.set_cons_succ]
  apply wpAnyH_take (i := 1) (v := _) rfl (by kernel_rfl) (by kernel_rfl) (by kernel_rfl) (fun _ _ _ h => h) (Or.inl ⟨by kernel_rfl, ?hv⟩) hH0 ?_
  case hv => intro w' hS; go_simp; try exact rfl
  simp only [Act.put, List.getElem_toArray, List.getElem_cons_zero, List.getElem_cons_succ, List.setIfInBounds_toArray, List.set_cons_zero, List.set_cons_succ]
  apply wpAnyH_take (i := 2) (v := _) rfl (by kernel_rfl) (by kernel_rfl) (by kernel_rfl) (fun _ _ _ h => h) (Or.inl ⟨by kernel_rfl, ?hv⟩) hH0 ?_
  case hv => intro w' hS; go_simp; try exact rfl
  simp only [Act.put, List.getElem_toArray, List.getElem_cons_zero, List.getElem_cons_succ, List.setIfInBounds_toArray, List.set_cons_zero, List.set_cons_succ]
  apply wpAnyH_take (i := 3) (v := _) rfl (by kernel_rfl) (by kernel_rfl) (by kernel_rfl) (fun _ _ _ h => h) (Or.inl ⟨by kernel_rfl, ?hv⟩) hH0 ?_
  case hv => intro w' hS; go_simp; try exact rfl
  simp only [Act.put, List.getElem_toArray, List.getElem_cons_zero, List.getElem_cons_succ, List.setIfInBounds_toArray, List.set_cons_zero, List.set_cons_succ]
  apply wpAnyH_take (i := 4) (v := _) rfl (by kernel_rfl) (by kernel_rfl) (by kernel_rfl) (fun _ _ _ h => h) (Or.inl ⟨by kernel_rfl, ?hv⟩) hH0 ?_
  case hv => intro w' hS; go_simp; try exact rfl
  simp only [Act.put, List.getElem_toArray, List.getElem_cons_zero, List.getElem_cons_succ, List.setIfInBounds_toArray, List.set_cons_zero, List.set_cons_succ]
  refine wpAnyH_take (i := 5) (v := (.agg LC.toArray)) rfl (by kernel_rfl) (by kernel_rfl) (by kernel_rfl) (fun _ _ _ h => h) (yieldsIf_load_mid (by kernel_rfl) 31 (.tmp 43) rfl b 99 rfl LC _ (fun w' h => h.2.1) Tryz.underlying31 rfl SZC.out) hH0 ?_
  simp only [Act.put, List.getElem_toArray, List.getElem_cons_zero, List.getElem_cons_succ, List.setIfInBounds_toArray, List.set_cons_zero, List.set_cons_succ]
  refine wpAnyH_take (i := 6) (v := (.agg LP.toArray)) rfl (by kernel_rfl) (by kernel_rfl) (by kernel_rfl) (fun _ _ _ h => h) (yieldsIf_load_mid (by kernel_rfl) 90 (.tmp 3) rfl G 0 rfl LP _ (fun w' h => h.2.2.1.row0) Tryz.underlying90 rfl SZPL.out) hH0 ?_
  simp only [Act.put, List.getElem_toArray, List.getElem_cons_zero, List.getElem_cons_succ, List.setIfInBounds_toArray, List.set_cons_zero, List.set_cons_succ]
  refine wpAnyH_ready (rs := [7]) (by kernel_rfl) (by simp) ?_
  refine AllReadyH.cons rfl (fun KK hKK => ?_) AllReadyH.nil
  go_simp
  refine (HOF.out _ hS0.2.2.2).mono ?_
  rintro _ x5 ⟨rfl, hx5⟩
  have hs5 : w3.heap.size ≤ x5.heap.size ∧ x5.rangeAt b 99 LC ∧ Has x5 G 90 LP.toArray ∧ Below w3.heap.size w3 x5 := ⟨Nat.le_trans hS0.1 hx5.size, rangeAt_kept hS0.2.1 (Kept.of_below (S := fun _ => False) hx5) (fun e => e), hS0.2.2.1.below hx5 hS0.2.2.1.lt, hS0.2.2.2.trans (hx5.mono hS0.1)⟩
  clear hx5
  refine Shut.out hKK _ _ hs5 (fun hH1 => ?_)
  clear hKK KK
  try simp only [Act.put, List.getElem_toArray, List.getElem_cons_zero, List.getElem_cons_succ, List.setIfInBounds_toArray, List.set_cons_zero, List.set_cons_succ]
  apply wpAnyH_take (i := 8) (v := _) rfl (by kernel_rfl) (by kernel_rfl) (by kernel_rfl) (fun _ _ _ h => h) (Or.inl ⟨by kernel_rfl, ?hv⟩) hH1 ?_
  case hv => intro w' hS; go_simp; try exact rfl
  simp only [Act.put, List.getElem_toArray, List.getElem_cons_zero, List.getElem_cons_succ, List.setIfInBounds_toArray, List.set_cons_zero, List.set_cons_succ]
  apply wpAnyH_take (i := 9) (v := _) rfl (by kernel_rfl) (by kernel_rfl) (by kernel_rfl) (fun _ _ _ h => h) (Or.inl ⟨by kernel_rfl, ?hv⟩) hH1 ?_
  case hv => intro w' hS; go_simp; try exact rfl
  simp only [Act.put, List.getElem_toArray, List.getElem_cons_zero, List.getElem_cons_succ, List.setIfInBounds_toArray, List.set_cons_zero, List.set_cons_succ]
  apply wpAnyH_take (i := 10) (v := _) rfl (by kernel_rfl) (by kernel_rfl) (by kernel_rfl) (fun _ _ _ h => h) (Or.inl ⟨by kernel_rfl, ?hv⟩) hH1 ?_
  case hv => intro w' hS; go_simp; try exact rfl
  simp only [Act.put, List.getElem_toArray, List.getElem_cons_zero, List.getElem_cons_succ, List.setIfInBounds_toArray, List.set_cons_zero, List.set_cons_succ]
  refine wpAnyH_done (by kernel_rfl) ?_ _
  refine NoPanic.normal ?_
  have HFN := Lib.hid (HW3.out.trans (hs5.2.2.2.mono HW3.out.size))
  clear hS0 hs5
  go_wp2_with fail
  go_ret
  exact ⟨rfl, HFN.out⟩
end Go.Proofs.YtbhnnoejhbihhaaGreatDoor

/- What the three listed variables give: the tables of the digest, and the sizes of a leaf's records. -/
namespace Go.Proofs.YtbhnnoejhbihhaaGreatDoor
set_option linter.unusedVariables false
set_option linter.unusedSimpArgs false
open Go.ChangeShapes Go.WideShapes Go.ChangeAt Go.RowKit

def laid3 : List (String × DataW Unit) := [("moneyer/sha.start", Rows.laid_moneyer_sha_start), ("moneyer/sha.rounds", Rows.laid_moneyer_sha_rounds), ("moneyer/leaf.sizes", Rows.laid_moneyer_leaf_sizes)]
theorem gSizes : Tryz.prog.globalNamed "moneyer/leaf.sizes" = some 0 := by kernel_rfl
theorem tSizes : (Tryz.prog.globals[0]?).map (·.type) = some 128 := by kernel_rfl
theorem door_met3 (os : Os) (args : Array Value) : laidMetH Tryz.prog laid3 ((World.doorLaid Tryz.prog 4000 os).forCall (fun _ _ => 0) ⟨#[], args, []⟩).memory :=
  laidMetH_of_parts3 (fuel := 8) (laidMet_of_run' 8 (by kernel_rfl) (by kernel_rfl)) (by kernel_rfl) (by kernel_rfl)
theorem ints_at {H : Type} {enc : TypeId × Value → H} {P : Program} {w : World} {base : Nat} {spare : Nat → Bool} {held : Bool} {T e : TypeId} {n fuel : Nat} {cs : List Value} {d : DataW H} {p : List MemPlace} (l : List Nat)
    (ht : P.underlying T = some (.array n e)) (he : P.underlying e = some (.int .i64)) (h1 : P.cellsOf e = 1) (hT : P.cellsOf T = n) (hf : DataW.trod enc P w base spare held fuel T cs = some (d, p))
    (hd : d = .agg (l.map fun (k : Nat) => .lit (.int .i64 (k : Int)))) : ∀ i, i < n → cs[i]? = some (.int .i64 ((l.getD i 0 : Nat) : Int)) := by
  obtain ⟨xs, m, _, hx, hlen, hn, hall⟩ := DataW.trod_array ht hf
  rw [hT] at hlen
  subst hd
  have e3 : (xs.map (·.1)) = l.map fun (k : Nat) => (.lit (.int .i64 (k : Int)) : DataW H) := (DataW.agg.inj (Prod.mk.inj hx).1).symm
  have hll : l.length = n := by
    have := congrArg List.length e3
    simpa [hn] using this.symm
  intro i hi
  have hE := hall i hi
  rw [h1, Nat.mul_one, List.getElem?_eq_getElem (by omega)] at hE
  obtain ⟨k, hk1, e2, hw⟩ := DataW.trod_int he hE
  rw [List.drop_eq_getElem_cons (by omega)] at hk1
  simp only [List.take_succ_cons, List.take_zero, List.cons.injEq, and_true] at hk1
  have e4 : (xs.map (·.1))[i]? = (l.map fun (k : Nat) => (.lit (.int .i64 (k : Int)) : DataW H))[i]? := by rw [e3]
  rw [List.getElem?_map, List.getElem?_map, List.getElem?_eq_getElem (by omega : i < xs.length), List.getElem?_eq_getElem (by omega : i < l.length), e2] at e4
  simp only [Option.map_some, Option.some.injEq, DataW.lit.injEq, Lit.int.injEq, true_and] at e4
  rw [List.getElem?_eq_getElem (by omega), hk1, e4, List.getD_eq_getElem?_getD, List.getElem?_eq_getElem (by omega)]
  rfl
theorem of_laid3 {W : World} (h : laidMetH Tryz.prog laid3 W) : Tabs KS SS W ∧ SzAt W := by
  rw [MakeChecks.laidMetH_plain _ _ _ (by kernel_rfl)] at h
  obtain ⟨ps, ⟨g0, t0, cs0, f0, p0, q0, hg0, ht0, hv0, hd0, ⟨g1, t1, cs1, f1, p1, q1, hg1, ht1, hv1, hd1, ⟨g2, t2, cs2, f2, p2, q2, hg2, ht2, hv2, hd2, _, _⟩, _⟩, _⟩, _, _⟩ := h
  obtain rfl := Option.some.inj (gStart.symm.trans hg0)
  obtain rfl := Option.some.inj (gRounds.symm.trans hg1)
  obtain rfl := Option.some.inj (gSizes.symm.trans hg2)
  obtain rfl := Option.some.inj (tStart.symm.trans ht0)
  obtain rfl := Option.some.inj (tRounds.symm.trans ht1)
  obtain rfl := Option.some.inj (tSizes.symm.trans ht2)
  have hsc := words_at ss8 Tryz.underlying52 Tryz.underlying51 (by kernel_rfl) (by kernel_rfl) hd0 (by rfl)
  have hkc := words_at ks64 Tryz.underlying53 Tryz.underlying51 (by kernel_rfl) (by kernel_rfl) hd1 (by rfl)
  have hzc := ints_at [32, 8, 32, 1, 40] Tryz.underlying128 Tryz.underlying3 (by kernel_rfl) (by kernel_rfl) hd2 (by rfl)
  have c0 : ∀ i, i < 8 → W.cell? ⟨2, i, none⟩ = some (.int .u32 ((SS.getD i 0).toNat : Int)) := fun i hi => by
    rw [World.var?_cell hg0 hv0 i, ss_nat i hi]; simpa using hsc i hi
  have c1 : ∀ i, i < 64 → W.cell? ⟨3, i, none⟩ = some (.int .u32 ((KS.getD i 0).toNat : Int)) := fun i hi => by
    rw [World.var?_cell hg1 hv1 i, ks_nat i hi]; simpa using hkc i hi
  have c2 : ∀ i, i < 5 → W.cell? ⟨0, i, none⟩ = some (.int .i64 (([32, 8, 32, 1, 40].getD i 0 : Nat) : Int)) := fun i hi => by
    rw [World.var?_cell hg2 hv2 i]; simpa using hzc i hi
  have a0 := World.block_lt_of_cell? W _ (c0 0 (by decide))
  have a1 := World.block_lt_of_cell? W _ (c1 0 (by decide))
  have a2 := World.block_lt_of_cell? W _ (c2 0 (by decide))
  dsimp only at a0 a1 a2
  exact ⟨⟨c1, c0, by omega, ss_len⟩, ⟨c2, a2⟩⟩
theorem open_bytesV {H : Type} {enc : TypeId × Value → H} {P : Program} {w : World} {base base' : Nat} {spare : Nat → Bool} {held : Bool} {t e : TypeId} {v : Value} {d : DataW H} {p : List MemPlace} {r : Reach}
    (ht : P.underlying t = some (.slice e)) (he : P.underlying e = some (.int .u8)) (h1 : P.cellsOf e = 1) (hv : Value.okWide P w r base' t v) (h : DataW.Trod enc P w base spare held t v d p) :
    ∃ (A : Option Addr) (bs : List Nat) (c : Nat), v = .slice A bs.length c ∧ bs.length ≤ 9223372036854775807 ∧ Bytes w w.heap.size (.slice A bs.length c) bs := by
  obtain ⟨A, n, c, rfl⟩ := okWide_slice ht hv
  obtain ⟨m, hm⟩ := h
  obtain ⟨bs, e1, e2, e3⟩ := open_bytes (z := (d, p)) ht he h1 hm
  subst e1
  exact ⟨A, bs, c, rfl, e2, e3⟩
end Go.Proofs.YtbhnnoejhbihhaaGreatDoor

/- LeafReads: its plain, its walk. -/
namespace Go.Proofs.YtbhnnoejhbihhaaGreatDoor
set_option linter.unusedVariables false
set_option linter.unusedSimpArgs false
open Go.ChangeShapes Go.WideShapes Go.ChangeAt Go.RowKit Go.Maps

def ldL : Except Nat LeafT → LeafT
  | .ok l => l
  | .error _ => zLeaf
def ldE : Except Nat LeafT → Nat
  | .ok _ => 0
  | .error x => x
theorem zLeaf_ok : zLeaf.ok := ⟨zNd_hash, by decide, zNd_hash, by decide, by decide, zNd_hash, by decide⟩
theorem LdP.out {w : World} {R : Except Nat LeafT} {e : Ending} {w' : World} (h : LdP w R e w') : e = .returned (.tuple #[.agg (ldL R).cells.toArray, .int .i64 (ldE R : Int)]) ∧ Below w.heap.size w w' ∧ (ldL R).ok := by
  cases R with
  | ok l => exact ⟨h.2.1, h.1, h.2.2⟩
  | error x => exact ⟨h.2, h.1, zLeaf_ok⟩
set_option maxRecDepth 100000 in
set_option maxHeartbeats 4000000 in
theorem lwPlain_is (w : World) (l : LeafT) (h : l.ok) : Calls Tryz.prog 16 #[.agg l.cells.toArray] w fun e w' => e = .returned (.agg l.cells.toArray) ∧ Below w.heap.size w w' := by
  obtain ⟨Z, hz, -, hzs, hzn, -⟩ := zero_rleafT
  obtain ⟨LC, hLC⟩ : ∃ L, L = l.cells := ⟨_, rfl⟩
  have hbx : Has ((w.alloc (.cells LC.toArray 31)).alloc (.cells Z 38)) w.heap.size 31 LC.toArray := (Has.new w _ _).alloc _
  have hrx : Has ((w.alloc (.cells LC.toArray 31)).alloc (.cells Z 38)) (w.heap.size + 1) 38 Z := by
    have := Has.new (w.alloc (.cells LC.toArray 31)) 38 Z
    simpa using this
  have hbb : Below w.heap.size w ((w.alloc (.cells LC.toArray 31)).alloc (.cells Z 38)) := ((Below.refl _ _).alloc (Nat.le_refl _) _).alloc (by simp) _
  have hset := set_box hbb hrx (Nat.le_succ _) hbb.size (L := LC) (by rw [hzs, hLC, LeafT.len h])
  obtain ⟨W1, hW1⟩ : ∃ v, v = (w.alloc (.cells LC.toArray 31)).alloc (.cells Z 38) := ⟨_, rfl⟩
  rw [← hW1] at hbx hrx hbb hset
  have hR : W1.rangeAt w.heap.size 0 (bcells l.id) ∧ W1.rangeAt w.heap.size 33 (bcells l.ow) ∧ W1.rangeAt w.heap.size 66 (bcells l.sp.h) := by
    refine ⟨fun j u hu => ?_, fun j u hu => ?_, fun j u hu => ?_⟩ <;> have hj := (List.getElem?_eq_some_iff.1 hu).1 <;> rw [bcells_length] at hj
    · rw [bcells_get _ j hj] at hu
      rw [h.id.1] at hj
      rw [← hu, Nat.zero_add]
      exact hbx.cell_is (by rw [List.getElem?_toArray, hLC]; exact LeafT.at_id h j hj)
    · rw [bcells_get _ j hj] at hu
      rw [h.ow.1] at hj
      rw [← hu]
      exact hbx.cell_is (by rw [List.getElem?_toArray, hLC]; exact LeafT.at_ow h j hj)
    · refine hbx.cell_is ?_
      rw [List.getElem?_toArray, hLC, LeafT.at_sp h, ndV, ncells, List.getElem?_append_left (by rw [bcells_length]; exact hj)]
      exact hu
  have c32 : W1.cell? ⟨w.heap.size, 32, none⟩ = some (.int .u64 (l.am : Int)) := hbx.cell_is (by rw [List.getElem?_toArray, hLC]; exact LeafT.at_am h)
  have c65 : W1.cell? ⟨w.heap.size, 65, none⟩ = some (.int .i64 l.pl) := hbx.cell_is (by rw [List.getElem?_toArray, hLC]; exact LeafT.at_pl h)
  have c98 : W1.cell? ⟨w.heap.size, 98, none⟩ = some (.int .u64 (l.sp.s : Int)) := hbx.cell_is (by rw [List.getElem?_toArray, hLC]; exact LeafT.at_ss h)
  have HB5 := Lib.hid (build_rnode l.sp.h h.sp.1 l.sp.s)
  have HB6 := Lib.hid (build_rleaf l.id l.ow l.sp.h h.id.1 h.ow.1 h.sp.1 l.am l.sp.s l.pl)
  have SZH := Lib.hid (show ∀ z : List Nat, IsHash z → (Tryz.prog.info? 26).map (·.size) = some (bcells z).length from fun z hz => by rw [bcells_length, hz.1]; kernel_rfl)
  have SZL := Lib.hid (show (Tryz.prog.info? 38).map (·.size) = some LC.toArray.size by rw [List.size_toArray, hLC, LeafT.len h]; kernel_rfl)
  have HOC := Lib.hid (show LC.toArray.all (·.oneCell') = true by rw [hLC]; exact LeafT.one _)
  have HEQ := Lib.hid (show (LeafT.cells ⟨l.id, l.am, l.ow, l.pl, ⟨l.sp.h, l.sp.s⟩⟩) = LC from hLC.symm)
  rw [HEQ.out] at HB6
  have HZL := Lib.hid (show Z.size = LC.toArray.size by rw [hzs, List.size_toArray, hLC, LeafT.len h])
  rw [← hLC]
  obtain ⟨li, hli⟩ : ∃ x, x = l.id := ⟨_, rfl⟩
  obtain ⟨lo, hlo⟩ : ∃ x, x = l.ow := ⟨_, rfl⟩
  obtain ⟨lh, hlh⟩ : ∃ x, x = l.sp.h := ⟨_, rfl⟩
  obtain ⟨ls, hls⟩ : ∃ x, x = l.sp.s := ⟨_, rfl⟩
  obtain ⟨lp, hlp⟩ : ∃ x, x = l.pl := ⟨_, rfl⟩
  obtain ⟨la, hla⟩ : ∃ x, x = l.am := ⟨_, rfl⟩
  rw [← hli, ← hlo, ← hlh] at hR
  rw [← hla] at c32
  rw [← hlp] at c65
  rw [← hls] at c98
  rw [← hlh, ← hls] at HB5
  rw [← hli, ← hlo, ← hlh, ← hls, ← hlp, ← hla] at HB6
  have HHI := Lib.hid (show IsHash li ∧ IsHash lo ∧ IsHash lh from ⟨by rw [hli]; exact h.id, by rw [hlo]; exact h.ow, by rw [hlh]; exact h.sp⟩)
  have HR := Lib.hid hR
  have HRX := Lib.hid hrx
  have EW := Lib.hid hW1
  have HSET := Lib.hid hset
  have hst : Has (W1.setRow (w.heap.size + 1) LC.toArray) (w.heap.size + 1) 38 LC.toArray ∧ Below w.heap.size w (W1.setRow (w.heap.size + 1) LC.toArray) := ⟨hrx.setRow, hbb.trans ((kept_setRow (g := w.heap.size + 1) W1 LC.toArray).below hbb.size (fun k e => by have e' : k = w.heap.size + 1 := e; omega))⟩
  have HST := Lib.hid hst
  clear hbx hrx hbb hset hW1 hR hst hli hlo hlh hls hlp hla hLC h hzs
  go_enter Tryz.func16, Tryz.ntmps16
  go_upto_region 1 with (fail)
  rw [← EW.out]
  go_wp2_with (first
    | (refine wpList_load_mid rfl 26 (.tmp 3) rfl w.heap.size 0 rfl (bcells li) _ HR.out.1 Tryz.underlying26 rfl (SZH.out _ HHI.out.1) ?_)
    | (refine wpList_load_mid rfl 26 (.tmp 7) rfl w.heap.size 33 rfl (bcells lo) _ HR.out.2.1 Tryz.underlying26 rfl (SZH.out _ HHI.out.2.1) ?_)
    | (refine wpList_load_mid rfl 26 (.tmp 12) rfl w.heap.size 66 rfl (bcells lh) _ HR.out.2.2 Tryz.underlying26 rfl (SZH.out _ HHI.out.2.2) ?_)
    | (refine wpList_build_run (by kernel_rfl) 36 _ rfl #[(0, .agg (bcells lh).toArray), (1, .int .u64 (ls : Int))] (by kernel_rfl) (.agg (ndV ⟨lh, ls⟩).toArray) (HB5.out _) ?_)
    | (refine wpList_build_run (by kernel_rfl) 38 _ rfl #[(0, .agg (bcells li).toArray), (1, .int .u64 (la : Int)), (2, .agg (bcells lo).toArray), (3, .int .i64 lp), (4, .agg (ndV ⟨lh, ls⟩).toArray)] (by kernel_rfl) (.agg LC.toArray) (HB6.out _) ?_)
    | (refine wpList_store_row rfl 38 (.tmp 2) (.tmp 18) rfl (w.heap.size + 1) LC.toArray rfl rfl 38 Z HRX.out SZL.out HZL.out HOC.out ?_))
  refine bodyPost_ret (results_cell_row rfl _ _ (w.heap.size + 1) 38 LC.toArray (0, 0) _ rfl HST.out.1 Tryz.underlying38 rfl SZL.out) rfl ?_
  exact ⟨rfl, HST.out.2⟩
theorem ldE_nz {b : List Nat} {x : Nat} (h : ldec b = .error x) : x ≠ 0 := by
  intro e
  subst e
  unfold ldec at h
  cases c : tdec b with
  | error e => rw [c] at h; cases h; exact tdec_nz c
  | ok rs =>
    rw [c] at h
    dsimp only at h
    unfold ldecR at h
    split at h
    · cases h
    · split at h
      · rename_i h0
        injection h with h
        exact h0 h
      · split at h <;> cases h
set_option maxRecDepth 100000 in
set_option maxHeartbeats 8000000 in
theorem leafReads_walk (w : World) (hT : Tabs KS SS w) (hsz : SzAt w) (A : Option Addr) (n c : Nat) (b : List Nat) (hb : Bytes w w.heap.size (.slice A n c) b) :
    Calls Tryz.prog 3 #[.slice A n c] w fun e w' => e = .returned (.bool true) ∧ Below w.heap.size w w' := by
  have hlow := hT.low
  have HT := Lib.hid hT
  have HSZ := Lib.hid hsz
  have HB := Lib.hid hb
  have HNB := Lib.hid hb.openT.1
  have HBL := Lib.hid hb.openT.2.2.1
  obtain ⟨Z1, hz1, -, hz1s, hz1n, -⟩ := zero_leafT
  obtain ⟨Z2, hz2, -, hz2s, hz2n, -⟩ := zero_rleafT
  clear hb hsz hT
  go_enter Tryz.func3, Tryz.ntmps3
  go_wp2_with fail
  refine (headL_is _ HT.out).mono ?_
  rintro _ w2 ⟨rfl, hb2⟩
  have HB2 := Lib.hid hb2
  clear hb2
  by_cases h5 : 500 < n
  · have h5' : (500 : Int) < (n : Int) := by omega
    go_wp2_with fail
    go_ret
    exact ⟨rfl, HB2.out⟩
  have h5' : ¬ (500 : Int) < (n : Int) := by omega
  have HN := Lib.hid (show n ≤ 500 by omega)
  have HCP := Lib.hid (copy_is w2 _ b (HB.out.alive HB2.out HB2.out.size) (by rw [← HNB.out]; omega))
  clear h5
  go_wp2_with fail
  refine HCP.out.mono ?_
  rintro _ w3 ⟨⟨am, cm, rfl, hown⟩, hb3⟩
  have hq3 := HB2.out.trans (hb3.mono HB2.out.size)
  have HM3 := Lib.hid (own_bytes hown rfl HBL.out (Nat.le_refl _))
  have HQ3 := Lib.hid hq3
  obtain ⟨R, hR⟩ : ∃ R, R = ldec b := ⟨_, rfl⟩
  have HD := Lib.hid (lfDecode_is w3 (HSZ.out.below hq3) am b.length cm b HM3.out (by rw [← HNB.out]; omega))
  rw [← hR] at HD
  have ER := Lib.hid hR
  clear hown hb3 hq3 HCP hR
  go_wp2_with fail
  refine HD.out.mono ?_
  intro e4 w4 hm
  obtain ⟨he4, hb4, hok⟩ := hm.out
  obtain ⟨X, hX⟩ : ∃ X, X = ldL R := ⟨_, rfl⟩
  obtain ⟨ex, hex⟩ : ∃ x, x = ldE R := ⟨_, rfl⟩
  rw [← hX, ← hex] at he4
  rw [← hX] at hok
  subst he4
  obtain ⟨LX, hLX⟩ : ∃ L, L = X.cells := ⟨_, rfl⟩
  rw [← hLX]
  have lx : LX.length = 99 := by rw [hLX]; exact LeafT.len hok
  obtain ⟨h5, hb5⟩ := new_row w4 31 Z1 LX.toArray
  have SZL := Lib.hid (show (Tryz.prog.info? 31).map (·.size) = some LX.toArray.size by rw [List.size_toArray, lx]; kernel_rfl)
  have SZLL := Lib.hid (show (Tryz.prog.info? 31).map (·.size) = some LX.length by rw [lx]; kernel_rfl)
  have SZR := Lib.hid (show (Tryz.prog.info? 38).map (·.size) = some LX.toArray.size by rw [List.size_toArray, lx]; kernel_rfl)
  have SZRL := Lib.hid (show (Tryz.prog.info? 38).map (·.size) = some LX.length by rw [lx]; kernel_rfl)
  have HZ1 := Lib.hid (show Z1.size = LX.toArray.size by rw [hz1s, List.size_toArray, lx])
  have HZ2 := Lib.hid (show Z2.size = LX.toArray.size by rw [hz2s, List.size_toArray, lx])
  have HON := Lib.hid (show LX.toArray.all (·.oneCell') = true by rw [hLX]; exact LeafT.one _)
  have ELX := Lib.hid hLX
  have EX := Lib.hid hX
  have EEX := Lib.hid hex
  have HOK := Lib.hid hok
  have HQ4 := Lib.hid (HQ3.out.trans (hb4.mono HQ3.out.size))
  have HM4 := Lib.hid (HM3.out.alive hb4 hb4.size)
  have H5 := Lib.hid h5
  have HB5 := Lib.hid hb5
  clear hm hb4 hok hX hex hLX lx h5 hb5 HD HM3
  go_upto_region 7 with (refine wpList_store_row rfl 31 (.tmp 4) (.tmp 20) rfl w4.heap.size LX.toArray rfl rfl 31 Z1 (heap_alloc_new w4 _) SZL.out HZ1.out HON.out ?_)
  obtain ⟨W5, hW5⟩ : ∃ W, W = (w4.alloc (.cells Z1 31)).setRow w4.heap.size LX.toArray := ⟨_, rfl⟩
  rw [← hW5] at H5 HB5 ⊢
  obtain ⟨G1, hG1⟩ : ∃ g, g = w4.heap.size := ⟨_, rfl⟩
  have hq5 := HQ4.out.trans (HB5.out.mono HQ4.out.size)
  have HQ5 := Lib.hid hq5
  have HM5 := Lib.hid (HM4.out.alive HB5.out HB5.out.size)
  rw [← hG1] at H5 ⊢
  have HD2 := Lib.hid (rzDecode_is W5 A n c b (HB.out.alive hq5 hq5.size) (by omega))
  rw [← ER.out] at HD2
  clear hW5 hG1 hq5 HM4 HB5
  go_wp2_with fail
  refine HD2.out.mono ?_
  intro e6 w6 hm
  obtain ⟨he6, hb6, -⟩ := hm.out
  rw [← EX.out, ← EEX.out, ← ELX.out] at he6
  subst he6
  obtain ⟨h7, hb7⟩ := new_row w6 38 Z2 LX.toArray
  have HQ6 := Lib.hid (HQ5.out.trans (hb6.mono HQ5.out.size))
  have HM6 := Lib.hid (HM5.out.alive hb6 hb6.size)
  have H56 := Lib.hid (H5.out.below hb6 H5.out.lt)
  have H7 := Lib.hid h7
  have HB7 := Lib.hid hb7
  clear hm hb6 h7 hb7 HD2 HM5 H5
  go_upto_region 8 with (refine wpList_store_row rfl 38 (.tmp 6) (.tmp 25) rfl w6.heap.size LX.toArray rfl rfl 38 Z2 (heap_alloc_new w6 _) SZR.out HZ2.out HON.out ?_)
  obtain ⟨W7, hW7⟩ : ∃ W, W = (w6.alloc (.cells Z2 38)).setRow w6.heap.size LX.toArray := ⟨_, rfl⟩
  rw [← hW7] at H7 HB7 ⊢
  obtain ⟨G2, hG2⟩ : ∃ g, g = w6.heap.size := ⟨_, rfl⟩
  rw [← hG2] at H7 ⊢
  have HQ7 := Lib.hid (HQ6.out.trans (HB7.out.mono HQ6.out.size))
  have HM7 := Lib.hid (HM6.out.alive HB7.out HB7.out.size)
  have H57 := Lib.hid (H56.out.below HB7.out H56.out.lt)
  clear hW7 hG2 HB7 HM6 H56
  have HG1 := Lib.hid (show ∀ v, Below W7.heap.size W7 v → Has v G1 31 LX.toArray from fun v hv => H57.out.below hv H57.out.lt)
  have HG2 := Lib.hid (show ∀ v, Below W7.heap.size W7 v → Has v G2 38 LX.toArray from fun v hv => H7.out.below hv H7.out.lt)
  have HBV := Lib.hid (show ∀ v, Below W7.heap.size W7 v → Bytes v v.heap.size (.slice A n c) b ∧ Bytes v v.heap.size (.slice am b.length cm) b from fun v hv => ⟨HB.out.alive (HQ7.out.trans (hv.mono HQ7.out.size)) (HQ7.out.trans (hv.mono HQ7.out.size)).size, HM7.out.alive hv hv.size⟩)
  have HPL := Lib.hid (show ∀ v, Calls Tryz.prog 16 #[.agg LX.toArray] v fun e w' => e = .returned (.agg LX.toArray) ∧ Below v.heap.size v w' from fun v => by rw [ELX.out]; exact lwPlain_is v X HOK.out)
  have HSM := Lib.hid (show ∀ v, Below W7.heap.size W7 v → Calls Tryz.prog 17 #[.slice am b.length cm, .slice A n c] v fun e w' => e = .returned (.bool true) ∧ w' = v from fun v hv => by
    have := same_is v _ _ b b (HBV.out v hv).2 (HBV.out v hv).1
    rw [decide_eq_true rfl] at this
    exact this)
  have HEQ := Lib.hid (show ∀ v, (Op.equalIn 10000 38 (.agg LX.toArray) (.agg LX.toArray)).run Tryz.prog v = .ok true v from fun v => by
    have := lr_eq X X HOK.out HOK.out v
    rw [decide_eq_true rfl] at this
    rw [ELX.out]
    exact this)
  have hxx : ((ex : Int) != (ex : Int)) = false := by simp
  have heq := HEQ.out
  have hS0 : Below W7.heap.size W7 W7.drew := below_drew (Below.refl _ _)
  refine wp_region_noPanic ?_
  refine wp_region_held_drew (S := (fun v => Below W7.heap.size W7 v)) (by kernel_rfl) hS0 (fun hH0 => ?_)
  apply wpAnyH_take (i := 0) (v := _) rfl (by kernel_rfl) (by kernel_rfl) (by kernel_rfl) (fun _ _ _ h => h) (Or.inl ⟨by kernel_rfl, ?hv⟩) hH0 ?_
  case hv => intro w' hS; have z1 := hxx; go_simp; try exact rfl
  simp only [Act.put, List.getElem_toArray, List.getElem_cons_zero, List.getElem_cons_succ, List.setIfInBounds_toArray, List.set_cons_zero, List.set_cons_succ]
  apply wpAnyH_take (i := 1) (v := _) rfl (by kernel_rfl) (by kernel_rfl) (by kernel_rfl) (fun _ _ _ h => h) (Or.inl ⟨by kernel_rfl, ?hv⟩) hH0 ?_
  case hv => intro w' hS; have z1 := hxx; go_simp; try exact rfl
  simp only [Act.put, List.getElem_toArray, List.getElem_cons_zero, List.getElem_cons_succ, List.setIfInBounds_toArray, List.set_cons_zero, List.set_cons_succ]
  apply wpAnyH_take (i := 2) (v := _) rfl (by kernel_rfl) (by kernel_rfl) (by kernel_rfl) (fun _ _ _ h => h) (Or.inl ⟨by kernel_rfl, ?hv⟩) hH0 ?_
  case hv => intro w' hS; have z1 := hxx; go_simp; try exact rfl
  simp only [Act.put, List.getElem_toArray, List.getElem_cons_zero, List.getElem_cons_succ, List.setIfInBounds_toArray, List.set_cons_zero, List.set_cons_succ]
  apply wpAnyH_take (i := 3) (v := _) rfl (by kernel_rfl) (by kernel_rfl) (by kernel_rfl) (fun _ _ _ h => h) (Or.inl ⟨by kernel_rfl, ?hv⟩) hH0 ?_
  case hv => intro w' hS; have z1 := hxx; go_simp; try exact rfl
  simp only [Act.put, List.getElem_toArray, List.getElem_cons_zero, List.getElem_cons_succ, List.setIfInBounds_toArray, List.set_cons_zero, List.set_cons_succ]
  refine wpAnyH_take (i := 4) (v := (.agg LX.toArray)) rfl (by kernel_rfl) (by kernel_rfl) (by kernel_rfl) (fun _ _ _ h => h) (yieldsIf_load_mid (by kernel_rfl) 31 (.tmp 4) rfl G1 0 rfl LX _ (fun w' h => (HG1.out _ h).row0) Tryz.underlying31 rfl SZLL.out) hH0 ?_
  simp only [Act.put, List.getElem_toArray, List.getElem_cons_zero, List.getElem_cons_succ, List.setIfInBounds_toArray, List.set_cons_zero, List.set_cons_succ]
  refine wpAnyH_take (i := 6) (v := (.agg LX.toArray)) rfl (by kernel_rfl) (by kernel_rfl) (by kernel_rfl) (fun _ _ _ h => h) (yieldsIf_load_mid (by kernel_rfl) 38 (.tmp 6) rfl G2 0 rfl LX _ (fun w' h => (HG2.out _ h).row0) Tryz.underlying38 rfl SZRL.out) hH0 ?_
  simp only [Act.put, List.getElem_toArray, List.getElem_cons_zero, List.getElem_cons_succ, List.setIfInBounds_toArray, List.set_cons_zero, List.set_cons_succ]
  refine wpAnyH_ready (rs := [5]) (by kernel_rfl) (by simp) ?_
  refine AllReadyH.cons rfl (fun KK hKK => ?_) AllReadyH.nil
  go_simp
  refine (HPL.out _).mono ?_
  rintro _ x5 ⟨rfl, hx5⟩
  have hs5 := hS0.trans (hx5.mono hS0.size)
  clear hx5
  refine Shut.out hKK _ _ hs5 (fun hH1 => ?_)
  clear hKK KK
  try simp only [Act.put, List.getElem_toArray, List.getElem_cons_zero, List.getElem_cons_succ, List.setIfInBounds_toArray, List.set_cons_zero, List.set_cons_succ]
  apply wpAnyH_take (i := 7) (v := _) rfl (by kernel_rfl) (by kernel_rfl) (by kernel_rfl) (fun _ _ _ h => h) (Or.inl ⟨by kernel_rfl, ?hv⟩) hH1 ?_
  case hv => intro w' hS; have z1 := hxx; go_simp; try exact rfl
  simp only [Act.put, List.getElem_toArray, List.getElem_cons_zero, List.getElem_cons_succ, List.setIfInBounds_toArray, List.set_cons_zero, List.set_cons_succ]
  apply wpAnyH_take (i := 8) (v := _) rfl (by kernel_rfl) (by kernel_rfl) (by kernel_rfl) (fun _ _ _ h => h) (Or.inl ⟨by kernel_rfl, ?hv⟩) hH1 ?_
  case hv => intro w' hS; have z1 := hxx; go_simp; try exact rfl
  simp only [Act.put, List.getElem_toArray, List.getElem_cons_zero, List.getElem_cons_succ, List.setIfInBounds_toArray, List.set_cons_zero, List.set_cons_succ]
  apply wpAnyH_take (i := 9) (v := _) rfl (by kernel_rfl) (by kernel_rfl) (by kernel_rfl) (fun _ _ _ h => h) (Or.inl ⟨by kernel_rfl, ?hv⟩) hH1 ?_
  case hv => intro w' hS; have z1 := hxx; go_simp; try exact rfl
  simp only [Act.put, List.getElem_toArray, List.getElem_cons_zero, List.getElem_cons_succ, List.setIfInBounds_toArray, List.set_cons_zero, List.set_cons_succ]
  apply wpAnyH_take (i := 10) (v := _) rfl (by kernel_rfl) (by kernel_rfl) (by kernel_rfl) (fun _ _ _ h => h) (Or.inl ⟨by kernel_rfl, ?hv⟩) hH1 ?_
  case hv => intro w' hS; have z1 := hxx; go_simp; try exact rfl
  simp only [Act.put, List.getElem_toArray, List.getElem_cons_zero, List.getElem_cons_succ, List.setIfInBounds_toArray, List.set_cons_zero, List.set_cons_succ]
  apply wpAnyH_take (i := 11) (v := _) rfl (by kernel_rfl) (by kernel_rfl) (by kernel_rfl) (fun _ _ _ h => h) (Or.inl ⟨by kernel_rfl, ?hv⟩) hH1 ?_
  case hv => intro w' hS; have z1 := hxx; go_simp; try exact rfl
  simp only [Act.put, List.getElem_toArray, List.getElem_cons_zero, List.getElem_cons_succ, List.setIfInBounds_toArray, List.set_cons_zero, List.set_cons_succ]
  refine wpAnyH_ready (rs := [12]) (by kernel_rfl) (by simp) ?_
  refine AllReadyH.cons rfl (fun KK hKK => ?_) AllReadyH.nil
  go_simp
  refine (HSM.out _ hs5).mono ?_
  rintro _ x6 ⟨rfl, hx6⟩
  replace hx6 := hx6.symm
  subst hx6
  refine Shut.out hKK _ _ hs5 (fun hH2 => ?_)
  clear hKK KK
  try simp only [Act.put, List.getElem_toArray, List.getElem_cons_zero, List.getElem_cons_succ, List.setIfInBounds_toArray, List.set_cons_zero, List.set_cons_succ]
  apply wpAnyH_take (i := 13) (v := _) rfl (by kernel_rfl) (by kernel_rfl) (by kernel_rfl) (fun _ _ _ h => h) (Or.inl ⟨by kernel_rfl, ?hv⟩) hH2 ?_
  case hv => intro w' hS; have z1 := hxx; go_simp; try exact rfl
  simp only [Act.put, List.getElem_toArray, List.getElem_cons_zero, List.getElem_cons_succ, List.setIfInBounds_toArray, List.set_cons_zero, List.set_cons_succ]
  apply wpAnyH_take (i := 14) (v := _) rfl (by kernel_rfl) (by kernel_rfl) (by kernel_rfl) (fun _ _ _ h => h) (Or.inl ⟨by kernel_rfl, ?hv⟩) hH2 ?_
  case hv => intro w' hS; have z1 := hxx; go_simp; try exact rfl
  simp only [Act.put, List.getElem_toArray, List.getElem_cons_zero, List.getElem_cons_succ, List.setIfInBounds_toArray, List.set_cons_zero, List.set_cons_succ]
  refine wpAnyH_done (by kernel_rfl) ?_ _
  refine NoPanic.normal ?_
  have HS5 := Lib.hid hs5
  have HQ8 := Lib.hid (HQ7.out.trans (hs5.mono HQ7.out.size))
  clear hS0 hs5 hxx heq
  cases hRc : R with
  | error x =>
    have hnx := ldE_nz (ER.out.symm.trans hRc)
    have hex : ex = x := by rw [EEX.out, hRc]; rfl
    have hx2 : ((ex : Int) != 0) = true := by rw [bne_iff_ne, hex]; omega
    clear hRc hnx hex
    go_wp2_with fail
    go_ret
    exact ⟨rfl, HQ8.out⟩
  | ok l =>
    have hex : ex = 0 := by rw [EEX.out, hRc]; rfl
    have hXl : X = l := by rw [EX.out, hRc]; rfl
    obtain ⟨k1, k2, k3⟩ := ldec_ok HBL.out (ER.out.symm.trans hRc)
    have hlb : lenc X = .ok b := by
      have := enc_leaf l k1
      rw [this] at k3
      rw [hXl]
      unfold lenc
      rw [k2]
      exact k3
    have hx2 : ((ex : Int) != 0) = false := by rw [hex]; rfl
    have HEN := Lib.hid (lfEncode_is x5 X HOK.out)
    rw [hlb, ← ELX.out] at HEN
    have H5G := Lib.hid (HG1.out x5 HS5.out)
    clear hRc hex hXl k1 k2 k3 hlb
    go_wp2_with (refine wpList_load_row rfl 31 (.tmp 4) rfl G1 rfl 31 LX.toArray (0, 0) _ H5G.out Tryz.underlying31 rfl SZL.out ?_)
    refine HEN.out.mono ?_
    intro e9 w9 hm
    obtain ⟨v9, rfl, ⟨sa, sc, rfl, ho9⟩, hb9⟩ := (show ∃ v', e9 = .returned (.tuple #[v', .int .i64 0]) ∧ BigW _ _ b v' w9 from hm)
    have hs9 := HS5.out.trans (hb9.mono HS5.out.size)
    have HS9 := Lib.hid (HQ8.out.trans (hb9.mono HQ8.out.size))
    have HSM9 := Lib.hid (show Calls Tryz.prog 17 #[.slice A n c, .slice sa b.length sc] w9 fun e w' => e = .returned (.bool true) ∧ w' = w9 from by
      have := same_is w9 _ _ b b (HBV.out w9 hs9).1 (own_bytes ho9 rfl HBL.out (Nat.le_refl _))
      rw [decide_eq_true rfl] at this
      exact this)
    clear hm ho9 hb9 hs9
    go_wp2_with fail
    refine HSM9.out.mono ?_
    rintro _ x10 ⟨rfl, hx10⟩
    replace hx10 := hx10.symm
    subst hx10
    go_wp2_with fail
    go_ret
    exact ⟨rfl, HS9.out⟩
end Go.Proofs.YtbhnnoejhbihhaaGreatDoor

namespace Go.Proofs.YtbhnnoejhbihhaaGreatDoor.leafReads
set_option linter.unusedVariables false
set_option linter.unusedSimpArgs false
open Go.ChangeShapes Go.WideShapes Go.ChangeAt Go.RowKit Go.Maps

set_option maxRecDepth 100000 in
theorem lifted (os : Os) (started : os.Started) (H : Type) (enc : TypeId × Value → H) :
    ReturnsInHanded {} Tryz.checked os 3 .any (fun w args => (Rows.leafReadsSpec.pre enc Tryz.prog Tryz.f3 [] false w args ∧ laidMetH Tryz.prog laid3 w) ∧ sizedMet enc Tryz.prog Tryz.f3 (OpenSpec.ofChange Rows.leafReadsSpec) false w args)
      (Rows.leafReadsSpec.post enc Tryz.prog Tryz.f3 false true false false) := by
  refine returnsInHanded_of_change_and (C := Tryz.checked) (X := fun w _ => laidMetH Tryz.prog laid3 w) (fun _ _ _ hh h => h.of_heap hh) own started (by kernel_rfl) Tryz.func3
    (ChangeSpec.witness_shaped (enc := enc) (C := Tryz.checked) (os := os) (X := fun w _ => laidMetH Tryz.prog laid3 w) false (World.doorLaid Tryz.prog 4000 os) #[.slice none 0 0] 8 rfl (World.shaped_of_RefB (by kernel_rfl) (by kernel_rfl)) (by kernel_rfl) (by kernel_rfl) (by kernel_rfl) (door_met3 os _)) ?_
  intro W base args ds gs before hval0 hW _ _ hL _
  have hval : ∀ (j : Nat) t v, Tryz.f3.params[j]? = some t → args[j]? = some v → Value.okWide Tryz.prog W .any base t v := hval0
  have hW' := hW
  obtain ⟨p, q, hA0, hV, rfl, hfz, hnd⟩ := hW
  have hA : DataW.TrodAll enc Tryz.prog W 0 (fun _ => true) true Tryz.f3.params.toList args.toList ds p := hA0
  rw [Tryz.params3] at hA hval
  obtain ⟨v0, vs0, d0, ds0, p0, q0, hargs, rfl, rfl, h0, r0⟩ := trodAll_cons hA
  obtain ⟨rfl, rfl, rfl⟩ := trodAll_nil r0
  obtain rfl : args = #[v0] := by cases args; simp_all
  obtain ⟨rfl, rfl⟩ := trodVars_none hV
  have k0 := h0
  have lt0 : ∀ x ∈ p0, x.block < W.heap.size := by obtain ⟨m, hm⟩ := k0; exact DataW.trod_lt m _ _ _ hm
  obtain ⟨A0, bs0, c0, rfl, l0, y0⟩ := open_bytesV Tryz.underlying22 Tryz.underlying5 (by kernel_rfl) (hval 0 22 v0 rfl rfl) h0
  obtain ⟨hT, hS⟩ := of_laid3 hL
  clear hA0 hval0
  refine (leafReads_walk W hT hS A0 bs0.length c0 bs0 y0).mono fun e W' ⟨he, bel⟩ => ?_
  subst he
  exact ⟨_, rfl, _, _, _, [], _, [], hW', trodAll_mk1 (shut_bool Tryz.underlying4 _), (trodAll_cons_mk (Below.trod laidOut (by kernel_rfl) (of_decide_eq_true (by kernel_rfl)) k0 bel lt0) trodAll_mk0), rfl, bel.frame _, fun h => by cases h⟩

theorem over : Rows.leafReadsRow.holds Tryz.pinned (OpenSpec.ofChange Rows.leafReadsSpec) :=
  OpenClaim.holds_of_wide 3 Tryz.f3 rfl rfl rfl rfl rfl rfl rfl ⟨rfl, rfl, rfl, rfl, rfl⟩ rfl rfl rfl rfl rfl (by kernel_rfl) Tryz.func3 (by kernel_rfl)
    (of_decide_eq_true (by kernel_rfl)) (by unfold Func.isWrapper; first | (rw [if_pos (by decide +kernel)]; kernel_rfl) | (rw [if_neg (by decide +kernel)]; exact ⟨rfl, rfl⟩))
    (fun os started H enc _ => lifted os started H enc)

theorem proved : Rows.LeafReadsCardSaid :=
  Claim7.holds_tied_plain_at .later [] [.data, .data, .data] true (true, "158522fc8d7383550562e1c47712411dc112196078794a549a107b22be099f81") false
    over (fun _ h => by cases h) (by kernel_rfl) (fun _ h => by cases h) leafReads_row_tie rfl ⟨rfl, rfl⟩ (by kernel_rfl) rfl
    (fun f fn hf hfn => by
      obtain rfl : f = 3 := Option.some.inj ((show Tryz.prog.funcNamed "moneyer/moneyerlaw07.LeafReads" = some 3 by kernel_rfl).symm.trans hf) |>.symm
      obtain rfl : fn = Tryz.f3 := (Option.some.inj (Tryz.func3.symm.trans hfn)).symm
      exact ⟨by kernel_rfl, fun j t ht => by
        rw [Tryz.params3] at ht
        have hm : t ∈ [22] := by simpa using Array.mem_of_getElem? ht
        have hall : ([22].all fun u => !Tryz.prog.wantsStandIn u) = true := by kernel_rfl
        exact (show Tryz.prog.wantsStandIn t = false by simpa using List.all_eq_true.1 hall t hm)⟩)
    (by kernel_rfl)


end Go.Proofs.YtbhnnoejhbihhaaGreatDoor.leafReads
