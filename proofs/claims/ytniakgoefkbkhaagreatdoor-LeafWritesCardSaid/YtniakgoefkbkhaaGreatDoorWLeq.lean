/- The walk of the reference's Decode. -/
import Derived.Test.YtniakgoefkbkhaaGreatDoorWs
import Derived.Test.YtniakgoefkbkhaaGreatDoorWLz1
import Derived.Test.YtniakgoefkbkhaaGreatDoorWTv7
import Derived.Test.YtniakgoefkbkhaaGreatDoorWLb4
import Derived.BigQuiet
import Derived.Test.YtniakgoefkbkhaaGreatDoorWRnEq
import Derived.Test.YtniakgoefkbkhaaGreatDoorWLb0
namespace Go.Proofs.YtniakgoefkbkhaaGreatDoor
set_option linter.unusedVariables false
set_option linter.unusedSimpArgs false
open Go.ChangeShapes Go.WideShapes Go.ChangeAt Go.RowKit Go.Maps

theorem at_rrec (b o n c k : Nat) (hk : k < n) (w : World) : (Instr.indexAt 119 (.slice (some ⟨b, o, none⟩) n c) (.int .i64 (k : Int))).run Tryz.prog w = .ok (.pointer (some ⟨b, o + k * 2, none⟩)) w := by
 have hu : Tryz.prog.underlying 119 = some (.slice (Tryz.prog.elem 119)) := by kernel_rfl
 have he : Tryz.prog.elem 119 = 118 := by kernel_rfl
 have hz : ∀ w, (sizeOf 118).run Tryz.prog w = .ok 2 w := fun w => by kernel_rfl
 rw [run_indexAt_slice w 119 ⟨b, o, none⟩ n c .i64 (k : Int) hu, if_pos ⟨by omega, by omega⟩, he, hz]
 simp only [Result.andThen, Int.toNat_natCast, Addr.add_mid]
theorem info_rrec : (Tryz.prog.info? 118).map (fun i => (i.zero, i.size, i.bytes)) = some (some (.agg (RecM.cells ⟨0, none, [], 0⟩).toArray), 2, 32) := by kernel_rfl
theorem valr_kept {w w' : World} {base b2 : Nat} {v : Value} {n m : Nat} {xs cs : List Value} {vo : Value} (h : w.ownsRow base 5 1 v n xs) (ho : w.ownsRow b2 118 2 vo m cs) (hg : w.grownBy w' vo.ownBlock) : w'.ownsRow base 5 1 v n xs :=
 own_kept h (Kept.of_grown hg) (fun k e e2 => own_own_ne h ho (by decide) k e e2.symm)
structure TdR (w : World) (b0 : List Nat) (f k : Nat) (ms : List RecM) (oa : Option Addr) (oc : Nat) (wr : World) : Prop where
 go : tdec b0 = decF f (ms.map RecM.r) (b0.drop k)
 kl : k ≤ b0.length
 lt : b0.length - k < f
 own : wr.ownsRow w.heap.size 118 2 (.slice oa ms.length oc) ms.length (ms.flatMap RecM.cells)
 vals : ∀ x ∈ ms, x.t < 18446744073709551616 ∧ wr.ownsRow w.heap.size 5 1 (.slice x.a x.v.length x.c) x.v.length (bcells x.v) ∧ (∀ y ∈ x.v, y < 256) ∧ x.v.length ≤ 65536
 few : ms.length ≤ 256
 bel : Below w.heap.size w wr
theorem TdR.below {w wr w' : World} {b0 : List Nat} {f k : Nat} {ms : List RecM} {oa : Option Addr} {oc : Nat} (h : TdR w b0 f k ms oa oc wr) (hb : Below wr.heap.size wr w') : TdR w b0 f k ms oa oc w' :=
 ⟨h.go, h.kl, h.lt, own_kept h.own (Kept.of_below (S := fun _ => False) hb) (fun _ _ e => e), fun x hx => ⟨(h.vals x hx).1, own_kept (h.vals x hx).2.1 (Kept.of_below (S := fun _ => False) hb) (fun _ _ e => e), (h.vals x hx).2.2⟩, h.few, h.bel.trans (hb.mono h.bel.size)⟩
theorem TdR.step {w wr w1 w2 : World} {b0 : List Nat} {f f' k k' : Nat} {ms : List RecM} {oa oa' xa : Option Addr} {oc oc' xc tv : Nat} {bs : List Nat} {C0 : Obj} (h : TdR w b0 f k ms oa oc wr)
   (hx : w1.ownsRow wr.heap.size 5 1 (.slice xa bs.length xc) bs.length (bcells bs)) (hg1 : (wr.alloc C0).grownBy w1 (some wr.heap.size)) (hbs : ∀ y ∈ bs, y < 256) (hbl : bs.length ≤ 65536) (htv : tv < 18446744073709551616)
   (ho : w2.ownsRow w.heap.size 118 2 (.slice oa' (ms.length + 1) oc') (ms.length + 1) (ms.flatMap RecM.cells ++ RecM.cells (⟨tv, xa, bs, xc⟩ : RecM))) (C : Obj) (hg2 : (w1.alloc C).grownBy w2 (Value.slice oa ms.length oc).ownBlock)
   (hgo : tdec b0 = decF f' ((ms ++ [(⟨tv, xa, bs, xc⟩ : RecM)]).map RecM.r) (b0.drop k')) (hkl : k' ≤ b0.length) (hlt : b0.length - k' < f') (hfew : ms.length + 1 ≤ 256) :
   TdR w b0 f' k' (ms ++ [(⟨tv, xa, bs, xc⟩ : RecM)]) oa' oc' w2 := by
 have h0 := h.below ((Below.refl wr.heap.size wr).alloc (Nat.le_refl _) C0)
 have hk1 : Kept (fun k => some k = (some wr.heap.size : Option Nat)) (wr.alloc C0) w1 := Kept.of_grown hg1
 have hne : ∀ {e : TypeId} {s n : Nat} {v : Value} {xs : List Value}, wr.ownsRow w.heap.size e s v n xs → w1.ownsRow w.heap.size e s v n xs := fun hv => own_kept (hv.alloc C0) hk1 (fun k e e2 => by
   have := own_lt hv k e
   injection e2 with e2
   omega)
 have hb1 : Below w.heap.size w w1 := h0.bel.grown hg1 h0.bel.size (fun k e => by injection e with e; have := h.bel.size; omega)
 have hb1a : Below w.heap.size w (w1.alloc C) := hb1.alloc (by exact hb1.size) C
 have hown1 : (w1.alloc C).ownsRow w.heap.size 118 2 (.slice oa ms.length oc) ms.length (ms.flatMap RecM.cells) := (hne h.own).alloc C
 refine ⟨hgo, hkl, hlt, ?_, ?_, by rw [List.length_append]; exact hfew, hb1a.grown hg2 (by exact hb1a.size) (own_blk hown1)⟩
 · rw [List.flatMap_append, List.length_append]
   simpa using ho
 · intro x hx'
   rcases List.mem_append.1 hx' with h1 | h1
   · obtain ⟨p1, p2, p3, p4⟩ := h.vals x h1
     exact ⟨p1, valr_kept ((hne p2).alloc C) hown1 hg2, p3, p4⟩
   · rw [List.mem_singleton.1 h1]
     exact ⟨htv, valr_kept ((own_base hx h.bel.size).alloc C) hown1 hg2, hbs, hbl⟩
theorem TdR.done {w wr : World} {b0 : List Nat} {f k : Nat} {ms : List RecM} {oa : Option Addr} {oc : Nat} (h : TdR w b0 f k ms oa oc wr) (hk : b0.length ≤ k) : TdP w (tdec b0) (.returned (.tuple #[.slice oa ms.length oc, .int .i64 0])) wr := by
 obtain ⟨f', rfl⟩ : ∃ f', f = f' + 1 := ⟨f - 1, by have := h.lt; omega⟩
 rw [h.go, decF_stop (List.drop_eq_nil_iff.2 hk)]
 obtain ⟨p1, p2⟩ := own_rows h.own rfl (fun x _ => rfl)
 exact ⟨ms, oa, oc, rfl, rfl, ⟨p1, fun x hx => ⟨(h.vals x hx).1, by have := (h.vals x hx).2.2.2; omega, own_bytes (h.vals x hx).2.1 rfl (h.vals x hx).2.2.1 (Nat.le_refl _)⟩⟩, fun A e => (p2 A e).1, h.few, h.bel⟩
end Go.Proofs.YtniakgoefkbkhaaGreatDoor
/- The walk of the reference's Decode of leaves. -/
namespace Go.Proofs.YtniakgoefkbkhaaGreatDoor
set_option linter.unusedVariables false
set_option linter.unusedSimpArgs false
open Go.ChangeShapes Go.WideShapes Go.ChangeAt Go.RowKit Go.Maps

theorem zero_rleafT : ∃ Z : Array Value, (∀ w, (zeroValue 62).run Tryz.prog w = .ok (.agg Z) w) ∧ (∀ w, (Instr.build 62 #[]).run Tryz.prog w = .ok (.agg Z) w) ∧ Z.size = 99 ∧ ¬ Z = #[] ∧ Z = (LeafT.cells ⟨List.replicate 32 0, 0, List.replicate 32 0, 0, zNd⟩).toArray :=
 ⟨_, fun w => by kernel_rfl, fun w => by kernel_rfl, by kernel_rfl, by decide, rfl⟩
theorem build_rnode (h : List Nat) (hh : h.length = 32) (s : Nat) (w : World) : (Instr.build 60 #[(0, .agg (bcells h).toArray), (1, .int .u64 (s : Int))]).run Tryz.prog w = .ok (.agg (ndV ⟨h, s⟩).toArray) w := by
 obtain ⟨d0, d1, d2, d3, d4, d5, d6, d7, d8, d9, d10, d11, d12, d13, d14, d15, d16, d17, d18, d19, d20, d21, d22, d23, d24, d25, d26, d27, d28, d29, d30, d31, rfl⟩ := thirty_two h hh
 exact run_build w 60 _ _ (by kernel_rfl)
theorem build_rleaf (i o h : List Nat) (hi : i.length = 32) (ho : o.length = 32) (hh : h.length = 32) (am s : Nat) (pl : Int) (w : World) : (Instr.build 62 #[(0, .agg (bcells i).toArray), (1, .int .u64 (am : Int)), (2, .agg (bcells o).toArray), (3, .int .i64 pl), (4, .agg (ndV ⟨h, s⟩).toArray)]).run Tryz.prog w = .ok (.agg (LeafT.cells ⟨i, am, o, pl, ⟨h, s⟩⟩).toArray) w := by
 obtain ⟨d0, d1, d2, d3, d4, d5, d6, d7, d8, d9, d10, d11, d12, d13, d14, d15, d16, d17, d18, d19, d20, d21, d22, d23, d24, d25, d26, d27, d28, d29, d30, d31, rfl⟩ := thirty_two i hi
 obtain ⟨e0, e1, e2, e3, e4, e5, e6, e7, e8, e9, e10, e11, e12, e13, e14, e15, e16, e17, e18, e19, e20, e21, e22, e23, e24, e25, e26, e27, e28, e29, e30, e31, rfl⟩ := thirty_two o ho
 obtain ⟨f0, f1, f2, f3, f4, f5, f6, f7, f8, f9, f10, f11, f12, f13, f14, f15, f16, f17, f18, f19, f20, f21, f22, f23, f24, f25, f26, f27, f28, f29, f30, f31, rfl⟩ := thirty_two h hh
 exact run_build w 62 _ _ (by kernel_rfl)
theorem at_int (b o n c k : Nat) (hk : k < n) (w : World) : (Instr.indexAt 48 (.slice (some ⟨b, o, none⟩) n c) (.int .i64 (k : Int))).run Tryz.prog w = .ok (.pointer (some ⟨b, o + k, none⟩)) w := by
 have hu : Tryz.prog.underlying 48 = some (.slice (Tryz.prog.elem 48)) := by kernel_rfl
 have he : Tryz.prog.elem 48 = 3 := by kernel_rfl
 have hz : ∀ w, (sizeOf 3).run Tryz.prog w = .ok 1 w := fun w => by kernel_rfl
 rw [run_indexAt_slice w 48 ⟨b, o, none⟩ n c .i64 (k : Int) hu, if_pos ⟨by omega, by omega⟩, he, hz]
 simp only [Result.andThen, Int.toNat_natCast, Nat.mul_one, Addr.add_mid]
end Go.Proofs.YtniakgoefkbkhaaGreatDoor
/- Leaves compared, field by field. -/
namespace Go.Proofs.YtniakgoefkbkhaaGreatDoor
set_option linter.unusedVariables false
set_option linter.unusedSimpArgs false
open Go.ChangeShapes Go.WideShapes Go.ChangeAt Go.RowKit Go.Maps

theorem lq_num {t : TypeId} {k : IntKind} {T : TypeId} (ht : t = T) (hu : Tryz.prog.underlying T = some (.int k)) {l : List Value} {off : Nat} {v : Value} (h : l[off]? = some v) (w : World) : (part t l.toArray off).run Tryz.prog w = .ok v w := by
 subst ht
 exact part_int hu (by simpa using h) w
theorem lq_eq {t : TypeId} {k : IntKind} {T : TypeId} (ht : t = T) (hu : Tryz.prog.underlying T = some (.int k)) (d : Nat) (a b : Int) (w : World) : (Op.equalIn (d + 1) t (.int k a) (.int k b)).run Tryz.prog w = .ok (a == b) w := by
 subst ht
 exact run_equalIn_int w d t k k a b hu
instance : DecidableEq LeafT := fun a b => decidable_of_iff (a.id = b.id ∧ a.am = b.am ∧ a.ow = b.ow ∧ a.pl = b.pl ∧ a.sp.h = b.sp.h ∧ a.sp.s = b.sp.s) (by
  obtain ⟨a1, a2, a3, a4, ⟨a5, a6⟩⟩ := a
  obtain ⟨b1, b2, b3, b4, ⟨b5, b6⟩⟩ := b
  simp)
theorem lf_id {l : LeafT} (h : l.ok) : (l.cells.drop 0).take 32 = bcells l.id := by
 rw [List.drop_zero, LeafT.cells, List.take_append_of_le_length (by rw [bcells_length, h.id.1]; exact Nat.le_refl _)]
 exact List.take_of_length_le (by rw [bcells_length, h.id.1]; exact Nat.le_refl _)
theorem lf_ow {l : LeafT} (h : l.ok) : (l.cells.drop 33).take 32 = bcells l.ow := by
 have e : l.cells = (bcells l.id ++ [Value.int .u64 (l.am : Int)]) ++ (bcells l.ow ++ (.int .i64 l.pl :: ndV l.sp)) := by unfold LeafT.cells; simp
 have hl : (bcells l.id ++ [Value.int .u64 (l.am : Int)]).length = 33 := by simp [bcells_length, h.id.1]
 rw [e, ← hl, List.drop_left, List.take_append_of_le_length (by rw [bcells_length, h.ow.1]; exact Nat.le_refl _)]
 exact List.take_of_length_le (by rw [bcells_length, h.ow.1]; exact Nat.le_refl _)
theorem lf_sp {l : LeafT} (h : l.ok) : (l.cells.drop 66).take 33 = ndV l.sp := by
 have e : l.cells = (bcells l.id ++ [Value.int .u64 (l.am : Int)] ++ bcells l.ow ++ [Value.int .i64 l.pl]) ++ ndV l.sp := by unfold LeafT.cells; simp
 have hl : (bcells l.id ++ [Value.int .u64 (l.am : Int)] ++ bcells l.ow ++ [Value.int .i64 l.pl]).length = 66 := by simp [bcells_length, h.id.1, h.ow.1]
 rw [e, ← hl, List.drop_left]
 exact List.take_of_length_le (by rw [ndV_len h.sp]; exact Nat.le_refl _)
theorem nd_h {x : Nd} (h : IsHash x.h) : ((ndV x).drop 0).take 32 = bcells x.h := by
 rw [List.drop_zero, ndV, ncells, List.take_append_of_le_length (by rw [bcells_length, h.1]; exact Nat.le_refl _)]
 exact List.take_of_length_le (by rw [bcells_length, h.1]; exact Nat.le_refl _)
theorem nd_s {x : Nd} (h : IsHash x.h) : (ndV x)[32]? = some (.int .u64 (x.s : Int)) := by
 rw [ndV, ncells, List.getElem?_append_right (by rw [bcells_length, h.1]; exact Nat.le_refl _), bcells_length, h.1]
 rfl
theorem le_hash {t : TypeId} (ht : t = 25) {l : List Value} {off : Nat} {k : List Nat} (h : (l.drop off).take 32 = bcells k) (w : World) : (part t l.toArray off).run Tryz.prog w = .ok (.agg (bcells k).toArray) w := by
 subst ht
 rw [part_agg Tryz.underlying25 (k := 32) (by kernel_rfl), extract_list, h]
theorem le_heq {t : TypeId} (ht : t = 25) (d : Nat) {a b : List Nat} (ha : IsHash a) (hb : IsHash b) (w : World) : (Op.equalIn (d + 2) t (.agg (bcells a).toArray) (.agg (bcells b).toArray)).run Tryz.prog w = .ok (decide (a = b)) w := by
 subst ht
 exact hash_eq_at d a b ha hb w
theorem le_node {t : TypeId} (ht : t = 39) (d : Nat) (x y : Nd) (hx : IsHash x.h) (hy : IsHash y.h) (w : World) : (Op.equalIn (d + 4) t (.agg (ndV x).toArray) (.agg (ndV y).toArray)).run Tryz.prog w = .ok (decide (x.h = y.h ∧ x.s = y.s)) w := by
 subst ht
 obtain ⟨f0, f1, hf, ⟨n0, t0, o0⟩, ⟨n1, t1, o1⟩⟩ := mn_fields
 rw [run_equalIn_struct w (d + 3) 39 _ _ mn_struct (by kernel_rfl), hf, eqF_any n0 (le_hash t0 (off := f0.offset) (by rw [o0]; exact nd_h hx) w) (le_hash t0 (off := f0.offset) (by rw [o0]; exact nd_h hy) w) (le_heq t0 (d + 1) hx hy w),
   eqF_any n1 (lq_num t1 Tryz.underlying37 (off := f1.offset) (by rw [o1]; exact nd_s hx) w) (lq_num t1 Tryz.underlying37 (off := f1.offset) (by rw [o1]; exact nd_s hy) w) (lq_eq t1 Tryz.underlying37 (d + 2) _ _ w), eqF_nil]
 by_cases h1 : x.h = y.h
 · by_cases h2 : x.s = y.s
   · simp [h1, h2]
   · have h2' : ¬ ((x.s : Int) = (y.s : Int)) := fun e => h2 (by omega)
     simp [h1, h2, h2']
 · simp [h1]
theorem le_part {t : TypeId} (ht : t = 39) {l : List Value} {off : Nat} {x : Nd} (h : (l.drop off).take 33 = ndV x) (w : World) : (part t l.toArray off).run Tryz.prog w = .ok (.agg (ndV x).toArray) w := by
 subst ht
 obtain ⟨i, hi⟩ := info_of_underlying mn_struct
 have hc : Tryz.prog.cellsOf 39 = 33 := by kernel_rfl
 have e : l.toArray.extract off (off + Tryz.prog.cellsOf 39) = (ndV x).toArray := by rw [hc, extract_list, h]
 simp [part, isAgg, run_underlying mn_struct, run_sizeOf w hi, e, h]
theorem le_fields : ∃ f0 f1 f2 f3 f4, (Tryz.prog.fieldsOf 41).toList = [f0, f1, f2, f3, f4] ∧ (f0.name ≠ "_" ∧ f0.type = 25 ∧ f0.offset = 0) ∧ (f1.name ≠ "_" ∧ f1.type = 37 ∧ f1.offset = 32) ∧ (f2.name ≠ "_" ∧ f2.type = 25 ∧ f2.offset = 33) ∧
  (f3.name ≠ "_" ∧ f3.type = 3 ∧ f3.offset = 65) ∧ (f4.name ≠ "_" ∧ f4.type = 39 ∧ f4.offset = 66) := by
 unfold Program.fieldsOf
 rw [Tryz.underlying41]
 exact ⟨_, _, _, _, _, rfl, ⟨by decide, rfl, rfl⟩, ⟨by decide, rfl, rfl⟩, ⟨by decide, rfl, rfl⟩, ⟨by decide, rfl, rfl⟩, ⟨by decide, rfl, rfl⟩⟩
theorem le_struct : Tryz.prog.underlying 41 = some (.struct (Tryz.prog.fieldsOf 41)) := by
 unfold Program.fieldsOf
 rw [Tryz.underlying41]
theorem le_eq (x y : LeafT) (hx : x.ok) (hy : y.ok) (w : World) : (Op.equalIn 10000 41 (.agg x.cells.toArray) (.agg y.cells.toArray)).run Tryz.prog w = .ok (decide (x = y)) w := by
 obtain ⟨f0, f1, f2, f3, f4, hf, ⟨n0, t0, o0⟩, ⟨n1, t1, o1⟩, ⟨n2, t2, o2⟩, ⟨n3, t3, o3⟩, ⟨n4, t4, o4⟩⟩ := le_fields
 rw [run_equalIn_struct w 9999 41 _ _ le_struct (by kernel_rfl), hf,
   eqF_any n0 (le_hash t0 (off := f0.offset) (by rw [o0]; exact lf_id hx) w) (le_hash t0 (off := f0.offset) (by rw [o0]; exact lf_id hy) w) (le_heq t0 9997 hx.id hy.id w),
   eqF_any n1 (lq_num t1 Tryz.underlying37 (off := f1.offset) (by rw [o1]; exact LeafT.at_am hx) w) (lq_num t1 Tryz.underlying37 (off := f1.offset) (by rw [o1]; exact LeafT.at_am hy) w) (lq_eq t1 Tryz.underlying37 9998 _ _ w),
   eqF_any n2 (le_hash t2 (off := f2.offset) (by rw [o2]; exact lf_ow hx) w) (le_hash t2 (off := f2.offset) (by rw [o2]; exact lf_ow hy) w) (le_heq t2 9997 hx.ow hy.ow w),
   eqF_any n3 (lq_num t3 Tryz.underlying3 (off := f3.offset) (by rw [o3]; exact LeafT.at_pl hx) w) (lq_num t3 Tryz.underlying3 (off := f3.offset) (by rw [o3]; exact LeafT.at_pl hy) w) (lq_eq t3 Tryz.underlying3 9998 _ _ w),
   eqF_any n4 (le_part t4 (off := f4.offset) (by rw [o4]; exact lf_sp hx) w) (le_part t4 (off := f4.offset) (by rw [o4]; exact lf_sp hy) w) (le_node t4 9995 x.sp y.sp hx.sp hy.sp w), eqF_nil]
 have hd : (x = y) ↔ (x.id = y.id ∧ x.am = y.am ∧ x.ow = y.ow ∧ x.pl = y.pl ∧ x.sp.h = y.sp.h ∧ x.sp.s = y.sp.s) := by
   obtain ⟨a1, a2, a3, a4, ⟨a5, a6⟩⟩ := x
   obtain ⟨b1, b2, b3, b4, ⟨b5, b6⟩⟩ := y
   simp
 have hdd : decide (x = y) = decide (x.id = y.id ∧ x.am = y.am ∧ x.ow = y.ow ∧ x.pl = y.pl ∧ x.sp.h = y.sp.h ∧ x.sp.s = y.sp.s) := decide_eq_decide.2 hd
 rw [hdd]
 by_cases h1 : x.id = y.id
 · by_cases h2 : x.am = y.am
   · by_cases h3 : x.ow = y.ow
     · by_cases h4 : x.pl = y.pl
       · simp [h1, h2, h3, h4]
         by_cases h5 : x.sp.h = y.sp.h ∧ x.sp.s = y.sp.s
         · simp [h5]
         · simp [h5]
           exact fun e1 e2 => h5 ⟨e1, e2⟩
       · simp [h1, h2, h3, h4]
     · simp [h1, h2, h3]
   · have h2' : ¬ ((x.am : Int) = (y.am : Int)) := fun e => h2 (by omega)
     simp [h1, h2, h2']
 · simp [h1]

end Go.Proofs.YtniakgoefkbkhaaGreatDoor
