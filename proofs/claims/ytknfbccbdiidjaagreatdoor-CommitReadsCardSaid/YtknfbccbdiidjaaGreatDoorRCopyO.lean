/- The walk of the reference's Decode. -/
import Derived.Test.YtknfbccbdiidjaaGreatDoorWs
import Derived.Test.YtknfbccbdiidjaaGreatDoorRRz2
import Derived.Test.YtknfbccbdiidjaaGreatDoorRTv7
import Derived.Test.YtknfbccbdiidjaaGreatDoorRGr
import Derived.Laws.BytesArg
namespace Go.Proofs.YtknfbccbdiidjaaGreatDoor
set_option linter.unusedVariables false
set_option linter.unusedSimpArgs false
open Go.ChangeShapes Go.WideShapes Go.ChangeAt Go.RowKit Go.Maps

theorem bytes_mid {w : World} {a : Option Addr} {n c k m : Nat} {l : List Nat} (h : Bytes w w.heap.size (.slice a n c) l) (hk : k ≤ m) (hm : m ≤ n) : ∃ a', (∀ v : World, (Instr.slice 48 (.slice a n c) (some (.int .i64 (k : Int))) (some (.int .i64 (m : Int))) none).run Tryz.prog v = .ok (.slice a' (m - k) (c - k)) v) ∧ Bytes w w.heap.size (.slice a' (m - k) (c - k)) ((l.drop k).take (m - k)) := by
 obtain ⟨h1, h2, h3, h4⟩ := h.openT
 have hu : Tryz.prog.underlying 48 = some (.slice (Tryz.prog.elem 48)) := by kernel_rfl
 have he : Tryz.prog.elem 48 = 5 := by kernel_rfl
 have hz : ∀ w, (sizeOf 5).run Tryz.prog w = .ok 1 w := fun w => by kernel_rfl
 have hlt : ((l.drop k).take (m - k)).length = m - k := by rw [List.length_take, List.length_drop]; omega
 refine ⟨if c = k then a else a.map fun x => x.add (k * 1), fun v => ?_, ?_⟩
 · rw [run_slice_lh v 48 a n c hu .i64 .i64 (k : Int) (m : Int) (by omega) (by omega) (by omega), he, hz]
   simp only [Result.andThen, sliced, Int.toNat_natCast]
 · refine ⟨_, _, by rw [hlt], by rw [hlt]; omega, fun x hx => h3 x (List.mem_of_mem_drop (List.mem_of_mem_take hx)), fun hpos => ?_⟩
   rw [hlt] at hpos
   obtain ⟨bg, bo, rfl, hbg, hc⟩ := h4 (by omega)
   refine ⟨bg, bo + k, by rw [if_neg (by omega)]; simp [Addr.add_mid], by omega, fun i hi => ?_⟩
   rw [hlt] at hi
   have := hc (k + i) (by omega)
   rw [Nat.add_assoc, this]
   simp [List.getD_eq_getElem?_getD, List.getElem?_drop, List.getElem?_take, hi]
theorem at_rrec (b o n c k : Nat) (hk : k < n) (w : World) : (Instr.indexAt 84 (.slice (some ⟨b, o, none⟩) n c) (.int .i64 (k : Int))).run Tryz.prog w = .ok (.pointer (some ⟨b, o + k * 2, none⟩)) w := by
 have hu : Tryz.prog.underlying 84 = some (.slice (Tryz.prog.elem 84)) := by kernel_rfl
 have he : Tryz.prog.elem 84 = 88 := by kernel_rfl
 have hz : ∀ w, (sizeOf 88).run Tryz.prog w = .ok 2 w := fun w => by kernel_rfl
 rw [run_indexAt_slice w 84 ⟨b, o, none⟩ n c .i64 (k : Int) hu, if_pos ⟨by omega, by omega⟩, he, hz]
 simp only [Result.andThen, Int.toNat_natCast, Addr.add_mid]
theorem info_rrec : (Tryz.prog.info? 88).map (fun i => (i.zero, i.size, i.bytes)) = some (some (.agg (RecM.cells ⟨0, none, [], 0⟩).toArray), 2, 32) := by kernel_rfl
theorem rows_rrec (w : World) (r : RecM) : RowsAt RecM.cells 2 (w.alloc (.cells r.cells.toArray 88)) (some ⟨w.heap.size, 0, none⟩) 1 [r] :=
 rows_has (xs := [r]) (by simpa using Has.new w 88 r.cells.toArray) (fun x _ => rfl)
theorem valr_kept {w w' : World} {base b2 : Nat} {v : Value} {n m : Nat} {xs cs : List Value} {vo : Value} (h : w.ownsRow base 5 1 v n xs) (ho : w.ownsRow b2 88 2 vo m cs) (hg : w.grownBy w' vo.ownBlock) : w'.ownsRow base 5 1 v n xs :=
 own_kept h (Kept.of_grown hg) (fun k e e2 => own_own_ne h ho (by decide) k e e2.symm)
theorem rr_own {w3 w5 : World} {base : Nat} {e : TypeId} {s n : Nat} {v : Value} {xs : List Value} {C0 : Obj} (h : w3.ownsRow base e s v n xs) (hg : (w3.alloc C0).grownBy w5 (some w3.heap.size)) : w5.ownsRow base e s v n xs :=
 own_kept (h.alloc C0) (Kept.of_grown hg) (fun k e e2 => by
  have := own_lt h k e
  injection e2 with e2
  omega)
structure TdR (w : World) (b0 : List Nat) (f k : Nat) (ms : List RecM) (oa : Option Addr) (oc : Nat) (wr : World) : Prop where
 go : tdec b0 = decF f (ms.map RecM.r) (b0.drop k)
 kl : k ≤ b0.length
 lt : b0.length - k < f
 own : wr.ownsRow w.heap.size 88 2 (.slice oa ms.length oc) ms.length (ms.flatMap RecM.cells)
 vals : ∀ x ∈ ms, x.t < 18446744073709551616 ∧ wr.ownsRow w.heap.size 5 1 (.slice x.a x.v.length x.c) x.v.length (bcells x.v) ∧ (∀ y ∈ x.v, y < 256) ∧ x.v.length ≤ 65536
 few : ms.length ≤ 256
 bel : Below w.heap.size w wr
theorem TdR.below {w wr w' : World} {b0 : List Nat} {f k : Nat} {ms : List RecM} {oa : Option Addr} {oc : Nat} (h : TdR w b0 f k ms oa oc wr) (hb : Below wr.heap.size wr w') : TdR w b0 f k ms oa oc w' :=
 ⟨h.go, h.kl, h.lt, own_kept h.own (Kept.of_below (S := fun _ => False) hb) (fun _ _ e => e), fun x hx => ⟨(h.vals x hx).1, own_kept (h.vals x hx).2.1 (Kept.of_below (S := fun _ => False) hb) (fun _ _ e => e), (h.vals x hx).2.2⟩, h.few, h.bel.trans (hb.mono h.bel.size)⟩
theorem TdR.step {w wr w1 w2 : World} {b0 : List Nat} {f f' k k' : Nat} {ms : List RecM} {oa oa' xa : Option Addr} {oc oc' xc tv : Nat} {bs : List Nat} {C0 : Obj} (h : TdR w b0 f k ms oa oc wr)
   (hx : w1.ownsRow wr.heap.size 5 1 (.slice xa bs.length xc) bs.length (bcells bs)) (hg1 : (wr.alloc C0).grownBy w1 (some wr.heap.size)) (hbs : ∀ y ∈ bs, y < 256) (hbl : bs.length ≤ 65536) (htv : tv < 18446744073709551616)
   (ho : w2.ownsRow w.heap.size 88 2 (.slice oa' (ms.length + 1) oc') (ms.length + 1) (ms.flatMap RecM.cells ++ RecM.cells (⟨tv, xa, bs, xc⟩ : RecM))) (C : Obj) (hg2 : (w1.alloc C).grownBy w2 (Value.slice oa ms.length oc).ownBlock)
   (hgo : tdec b0 = decF f' ((ms ++ [(⟨tv, xa, bs, xc⟩ : RecM)]).map RecM.r) (b0.drop k')) (hkl : k' ≤ b0.length) (hlt : b0.length - k' < f') (hfew : ms.length + 1 ≤ 256) :
   TdR w b0 f' k' (ms ++ [(⟨tv, xa, bs, xc⟩ : RecM)]) oa' oc' w2 := by
 have h0 := h.below ((Below.refl wr.heap.size wr).alloc (Nat.le_refl _) C0)
 have hk1 : Kept (fun k => some k = (some wr.heap.size : Option Nat)) (wr.alloc C0) w1 := Kept.of_grown hg1
 have hne : ∀ {e : TypeId} {s n : Nat} {v : Value} {xs : List Value}, wr.ownsRow w.heap.size e s v n xs → w1.ownsRow w.heap.size e s v n xs := fun hv => own_kept (hv.alloc C0) hk1 (fun k e e2 => by
   have := own_lt hv k e
   injection e2 with e2
   omega)
 have hb1 : Below w.heap.size w w1 := h0.bel.grown hg1 h0.bel.size (fun k e => by injection e with e; have := h.bel.size; omega)
 have hb1a : Below w.heap.size w (w1.alloc C) := hb1.alloc (by exact hb1.size) C
 have hown1 : (w1.alloc C).ownsRow w.heap.size 88 2 (.slice oa ms.length oc) ms.length (ms.flatMap RecM.cells) := (hne h.own).alloc C
 refine ⟨hgo, hkl, hlt, ?_, ?_, by rw [List.length_append]; exact hfew, hb1a.grown hg2 (by exact hb1a.size) (own_blk hown1)⟩
 · rw [List.flatMap_append, List.length_append]
   simpa using ho
 · intro x hx'
   rcases List.mem_append.1 hx' with h1 | h1
   · obtain ⟨p1, p2, p3, p4⟩ := h.vals x h1
     exact ⟨p1, valr_kept ((hne p2).alloc C) hown1 hg2, p3, p4⟩
   · rw [List.mem_singleton.1 h1]
     exact ⟨htv, valr_kept ((own_base hx h.bel.size).alloc C) hown1 hg2, hbs, hbl⟩
theorem TdR.done {w wr : World} {b0 : List Nat} {f k : Nat} {ms : List RecM} {oa : Option Addr} {oc : Nat} (h : TdR w b0 f k ms oa oc wr) (hk : b0.length ≤ k) : TdP w (tdec b0) (.returned (.tuple #[.slice oa ms.length oc, .int .i64 0])) wr := by
 obtain ⟨f', rfl⟩ : ∃ f', f = f' + 1 := ⟨f - 1, by have := h.lt; omega⟩
 rw [h.go, decF_stop (List.drop_eq_nil_iff.2 hk)]
 obtain ⟨p1, p2⟩ := own_rows h.own rfl (fun x _ => rfl)
 exact ⟨ms, oa, oc, rfl, rfl, ⟨p1, fun x hx => ⟨(h.vals x hx).1, by have := (h.vals x hx).2.2.2; omega, own_bytes (h.vals x hx).2.1 rfl (h.vals x hx).2.2.1 (Nat.le_refl _)⟩⟩, fun A e => (p2 A e).1, h.few, h.bel⟩
set_option maxRecDepth 100000 in
set_option maxHeartbeats 4000000 in
theorem rzDec_is (w : World) (a : Option Addr) (L cv : Nat) (b : List Nat) (hb : Bytes w w.heap.size (.slice a L cv) b) (hL : L ≤ 1000000000) :
  Calls Tryz.prog 36 #[.slice a L cv] w (TdP w (tdec b)) := by
 have hl := hb.openT.1
 have HB := Lib.hid hb
 have HL := Lib.hid hl
 have HB256 := Lib.hid hb.openT.2.2.1
 obtain ⟨T, hT⟩ : ∃ T, T = tdec b := ⟨_, rfl⟩
 rw [← hT]
 have ET := Lib.hid hT
 have HI0 := Lib.hid (show TdR w b (b.length + 1) 0 [] (some ⟨w.heap.size, 0, none⟩) 0 (w.alloc (.cells #[] 88)) from ⟨rfl, Nat.zero_le _, by omega, own_empty (Nat.le_refl _) _ _, (fun x hx => by cases hx), Nat.zero_le _, (Below.refl _ _).alloc (Nat.le_refl _) _⟩)
 clear hb hT hl
 go_enter Tryz.func36, Tryz.ntmps36
 go_wp2_with fail
 go_loopw [4, 5] (fun ov kv wr => ∃ (f k : Nat) (ms : List RecM) (oa : Option Addr) (oc : Nat), ov = .slice oa ms.length oc ∧ kv = .int .i64 (k : Int) ∧ TdR w b f k ms oa oc wr) (fun _ kv _ => L - (intOf kv).toNat)
 case atStart => exact ⟨b.length + 1, 0, [], _, 0, rfl, rfl, HI0.out⟩
 case round =>
  clear HI0
  obtain ⟨f, k, ms, oa, oc, rfl, rfl, hw⟩ := hrel
  have HW := Lib.hid hw
  clear hw
  by_cases hk : k < L
  rotate_left
  · have hk' : ¬ (k : Int) < (L : Int) := by omega
    have HK := Lib.hid (show b.length ≤ k by have := HL.out; omega)
    clear hk
    go_wp2_with fail
    go_ret2
    rw [ET.out]
    exact HW.out.done HK.out
  have hk' : (k : Int) < (L : Int) := by omega
  obtain ⟨rest, hrest⟩ : ∃ l, l = b.drop k := ⟨_, rfl⟩
  have hrl : rest.length = L - k := by rw [hrest, List.length_drop, ← HL.out]
  have hne : rest ≠ [] := fun e => by rw [e] at hrl; simp at hrl; omega
  obtain ⟨f', hf'⟩ : ∃ f', f = f' + 1 := ⟨f - 1, by have := HW.out.lt; omega⟩
  have hgo := HW.out.go
  rw [hf', ← hrest] at hgo
  have HGO := Lib.hid hgo
  have HFF := Lib.hid hf'
  have HNE := Lib.hid hne
  obtain ⟨a0, hsl0, hby0⟩ := bytes_from HB.out (Nat.le_of_lt hk)
  rw [← hrest] at hby0
  have HBY0 := Lib.hid hby0
  obtain ⟨R1, hR1⟩ : ∃ R, R = rdX (rdB rest) := ⟨_, rfl⟩
  have HRD := Lib.hid (rzRead_is wr a0 (L - k) (cv - k) rest (hby0.alive HW.out.bel HW.out.bel.size) (by omega) R1 hR1)
  obtain ⟨L0, hL0⟩ : ∃ z, z = L - k := ⟨_, rfl⟩
  obtain ⟨cc0, hcc0⟩ : ∃ z, z = cv - k := ⟨_, rfl⟩
  rw [← hL0] at hsl0 HRD HBY0 hrl
  rw [← hcc0] at hsl0 HRD HBY0
  have HREST := Lib.hid hrest
  have HL0 := Lib.hid hL0
  have HKL := Lib.hid hk
  clear hrest hne hgo hL0 hcc0 hby0 hf'
  cases h1 : rdB rest with
  | error e =>
    rw [h1] at hR1
    have e1 : R1 = (0, 0, e) := hR1
    subst e1
    have hnz := rd_nz h1
    have he : ((e : Int) != 0) = true := by rw [bne_iff_ne]; omega
    have HE := Lib.hid (show T = .error e by rw [ET.out, HGO.out]; exact decF_err HNE.out (decS_e1 h1))
    clear h1 hR1 hnz
    go_wp2_with fail
    refine HRD.out.mono ?_
    rintro _ w2 ⟨rfl, hb2⟩
    have HB2 := Lib.hid (HW.out.bel.trans (hb2.mono HW.out.bel.size))
    clear hb2
    go_wp2_with fail
    go_ret2
    rw [HE.out]
    exact ⟨rfl, HB2.out⟩
  | ok p =>
    obtain ⟨tv, nv⟩ := p
    rw [h1] at hR1
    have e1 : R1 = (tv, nv, 0) := hR1
    subst e1
    have HRD1 : Hid (Calls Tryz.prog 68 #[.slice a0 L0 cc0] wr fun e w' => e = .returned (.tuple #[.int .u64 (tv : Int), .int .i64 (nv : Int), .int .i64 0]) ∧ Below wr.heap.size wr w') := HRD
    obtain ⟨hn0, hnl, ht64⟩ := rd_le HBY0.out.openT.2.2.1 h1
    have H1 := Lib.hid h1
    have HT64 := Lib.hid ht64
    obtain ⟨k1, hk1⟩ : ∃ z, z = k + nv := ⟨_, rfl⟩
    have hk1L : k1 ≤ L := by rw [hk1]; have := HL0.out; omega
    obtain ⟨a1, hsl1, hby1⟩ := bytes_from HB.out hk1L
    have hrest1 : b.drop k1 = rest.drop nv := by rw [HREST.out, List.drop_drop, hk1]
    rw [hrest1] at hby1
    obtain ⟨L1, hL1⟩ : ∃ z, z = L - k1 := ⟨_, rfl⟩
    obtain ⟨cc1, hcc1⟩ : ∃ z, z = cv - k1 := ⟨_, rfl⟩
    rw [← hL1, ← hcc1] at hsl1 hby1
    have HBY1 := Lib.hid hby1
    have hka : (k : Int) + (nv : Int) = (k1 : Int) := by omega
    have HK1 := Lib.hid (And.intro hk1L (show k < k1 by omega))
    have HL1 := Lib.hid hL1
    have HR1 := Lib.hid hrest1
    clear h1 hR1 hn0 hnl ht64 hby1 hL1 hcc1 hrest1 hk1 HRD hrl
    go_wp2_with fail
    refine HRD1.out.mono ?_
    rintro _ w2 ⟨rfl, hb2⟩
    have HW2 := Lib.hid (HW.out.below hb2)
    clear HW HRD1 hb2
    obtain ⟨R2, hR2⟩ : ∃ R, R = rdX (rdB (rest.drop nv)) := ⟨_, rfl⟩
    have HRD2 := Lib.hid (rzRead_is w2 a1 L1 cc1 (rest.drop nv) (HBY1.out.alive HW2.out.bel HW2.out.bel.size) (by have := HL1.out; omega) R2 hR2)
    obtain ⟨tl, htl⟩ : ∃ z, z = lastT (ms.map RecM.r) := ⟨_, rfl⟩
    have htl2 := lastT_map ms
    rw [← htl] at htl2
    obtain ⟨ml, hml⟩ : ∃ z, z = ms.length := ⟨_, rfl⟩
    have hfew := HW2.out.few
    rw [← hml] at hfew htl2 ⊢
    have EML := Lib.hid hml
    have HMAP := Lib.hid (show (ms.map RecM.r).length = ml by rw [List.length_map, ← hml])
    clear hml
    by_cases hm0 : 0 < ml
    · have hm0' : (0 : Int) < (ml : Int) := by omega
      obtain ⟨x, hx⟩ : ∃ x, ms[ml - 1]? = some x := ⟨_, List.getElem?_eq_getElem (by rw [← EML.out]; omega)⟩
      have e3 : tl = x.t := by rw [htl2, hx]; rfl
      obtain ⟨ob, oo, hoa, _, hrow⟩ := (own_rows HW2.out.own rfl (fun x _ => rfl)).1.at_ (by rw [← EML.out]; exact hm0)
      have hcl : w2.cell? ⟨ob, oo + (ml - 1) * 2, none⟩ = some (.int .u64 (tl : Int)) := by
        rw [e3]
        exact hrow (ml - 1) x hx 0 _ rfl
      have hix : ∀ v, (Instr.indexAt 84 (.slice (some ⟨ob, oo, none⟩) ml oc) (.int .i64 ((ml : Int) - 1))).run Tryz.prog v = .ok (.pointer (some ⟨ob, oo + (ml - 1) * 2, none⟩)) v := fun v => by
        rw [show ((ml : Int) - 1) = ((ml - 1 : Nat) : Int) by omega]
        exact at_rrec ob oo ml oc (ml - 1) (by omega) v
      subst hoa
      obtain ⟨op, hop⟩ : ∃ z, z = oo + (ml - 1) * 2 := ⟨_, rfl⟩
      rw [← hop] at hcl hix
      obtain ⟨oa, hoa⟩ : ∃ z, z = (some (⟨ob, oo, none⟩ : Addr)) := ⟨_, rfl⟩
      rw [← hoa] at hix HW2 ⊢
      clear hop hx e3 hrow htl2 hoa
      by_cases hle : tv ≤ tl
      · have hle' : (tl : Int) ≥ (tv : Int) := by omega
        have HE := Lib.hid (show T = .error 22 by rw [ET.out, HGO.out]; exact decF_err HNE.out (decS_ord H1.out ⟨by rw [HMAP.out]; exact hm0, by rw [← htl]; exact hle⟩))
        clear htl hle hR2
        go_wp2_with fail
        go_ret2
        rw [HE.out]
        exact ⟨rfl, HW2.out.bel⟩
      · have hle' : ¬ (tl : Int) ≥ (tv : Int) := by omega
        have HNO := Lib.hid (show ¬ (0 < (ms.map RecM.r).length ∧ tv ≤ lastT (ms.map RecM.r)) from fun h => hle (by rw [htl]; exact h.2))
        clear htl hle
        go_wp2_with fail
        clear hcl hix
        cases h2 : rdB (rest.drop nv) with
        | error e =>
          rw [h2] at hR2
          have e2 : R2 = (0, 0, e) := hR2
          subst e2
          have hnz := rd_nz h2
          have he : ((e : Int) != 0) = true := by rw [bne_iff_ne]; omega
          have HE := Lib.hid (show T = .error e by rw [ET.out, HGO.out]; exact decF_err HNE.out (decS_e2 H1.out HNO.out h2))
          clear h2 hR2 hnz
          refine HRD2.out.mono ?_
          rintro _ w3 ⟨rfl, hb3⟩
          have HB3 := Lib.hid (HW2.out.bel.trans (hb3.mono HW2.out.bel.size))
          clear hb3
          go_wp2_with fail
          go_ret2
          rw [HE.out]
          exact ⟨rfl, HB3.out⟩
        | ok q =>
          obtain ⟨sv, mv⟩ := q
          rw [h2] at hR2
          have e2 : R2 = (sv, mv, 0) := hR2
          subst e2
          have HRD3 : Hid (Calls Tryz.prog 68 #[.slice a1 L1 cc1] w2 fun e w' => e = .returned (.tuple #[.int .u64 (sv : Int), .int .i64 (mv : Int), .int .i64 0]) ∧ Below w2.heap.size w2 w') := HRD2
          obtain ⟨hq0, hql, hs64⟩ := rd_le HBY1.out.openT.2.2.1 h2
          obtain ⟨k2, hk2⟩ : ∃ z, z = k1 + mv := ⟨_, rfl⟩
          have hl1 := HBY1.out.openT.1
          have hk2L : k2 ≤ L := by rw [hk2]; have := HL1.out; have := HK1.out; omega
          obtain ⟨r2, hr2⟩ : ∃ z, z = (rest.drop nv).drop mv := ⟨_, rfl⟩
          have hr2b : b.drop k2 = r2 := by rw [hr2, ← HR1.out, List.drop_drop, hk2]
          have hr2l : r2.length = L - k2 := by rw [← hr2b, List.length_drop, ← HL.out]
          have HIN := Lib.hid (decS_in H1.out HNO.out h2)
          dsimp only at HIN
          rw [← hr2] at HIN
          have hkb : (k1 : Int) + (mv : Int) = (k2 : Int) := by omega
          have HK2 := Lib.hid (show k2 ≤ L ∧ k < k2 ∧ b.drop k2 = r2 ∧ r2.length = L - k2 from ⟨hk2L, by have := HK1.out; omega, hr2b, hr2l⟩)
          have HS64 := Lib.hid hs64
          clear h2 hR2 hql hr2 hq0 HRD2 hk2 hr2b hl1 hs64
          refine HRD3.out.mono ?_
          rintro _ w3 ⟨rfl, hb3⟩
          have HW3 := Lib.hid (HW2.out.below hb3)
          clear HW2 HRD3 hb3
          by_cases c1 : 65536 < sv
          · have c1' : (sv : Int) > 65536 := by omega
            have HE := Lib.hid (show T = .error 3 by rw [ET.out, HGO.out]; exact decF_err HNE.out (by rw [HIN.out, if_pos c1]))
            clear c1
            go_wp2_with fail
            go_ret2
            rw [HE.out]
            exact ⟨rfl, HW3.out.bel⟩
          have c1' : ¬ (sv : Int) > 65536 := by omega
          have hsw : IntKind.i64.wrap (sv : Int) = (sv : Int) := by rw [IntKind.wrap_i64]; omega
          by_cases c2 : L - k2 < sv
          · have c2' : (sv : Int) > (L : Int) - (k2 : Int) := by omega
            have HE := Lib.hid (show T = .error 20 by rw [ET.out, HGO.out]; exact decF_err HNE.out (by rw [HIN.out, if_neg c1, if_pos (by rw [hr2l]; exact c2)]))
            clear c1 c2
            go_wp2_with fail
            go_ret2
            rw [HE.out]
            exact ⟨rfl, HW3.out.bel⟩
          have c2' : ¬ (sv : Int) > (L : Int) - (k2 : Int) := by omega
          by_cases c3 : ml = 256
          · have c3' : (ml : Int) ≥ 256 := by omega
            have HE := Lib.hid (show T = .error 4 by rw [ET.out, HGO.out]; exact decF_err HNE.out (by rw [HIN.out, if_neg c1, if_neg (by rw [hr2l]; exact c2), if_pos (by rw [HMAP.out]; exact c3)]))
            clear c1 c2 c3
            go_wp2_with fail
            go_ret2
            rw [HE.out]
            exact ⟨rfl, HW3.out.bel⟩
          have c3' : ¬ (ml : Int) ≥ 256 := by omega
          obtain ⟨k3, hk3⟩ : ∃ z, z = k2 + sv := ⟨_, rfl⟩
          have hk3L : k3 ≤ L := by omega
          obtain ⟨a3, hsl3, hby3⟩ := bytes_mid (k := k2) (m := k3) HB.out (by omega) hk3L
          have hks : k3 - k2 = sv := by omega
          rw [hks, HK2.out.2.2.1] at hby3
          rw [hks] at hsl3
          obtain ⟨bs, hbs⟩ : ∃ z, z = r2.take sv := ⟨_, rfl⟩
          have HSTEP := Lib.hid (show decS (ms.map RecM.r) rest = .ok (ms.map RecM.r ++ [⟨tv, bs⟩], b.drop k3) by rw [HIN.out, if_neg c1, if_neg (by rw [hr2l]; exact c2), if_neg (by rw [HMAP.out]; exact c3), hbs, hk3, ← List.drop_drop, HK2.out.2.2.1])
          rw [← hbs] at hby3
          have hlb : bs.length = sv := hby3.openT.1.symm
          have HLB := Lib.hid hlb
          have HBS3 := Lib.hid hby3.openT.2.2.1
          have HBY3 := Lib.hid (show ∀ C, Bytes (w3.alloc C) (w3.alloc C).heap.size (.slice a3 sv (cv - k2)) bs from fun C => (hby3.alive HW3.out.bel HW3.out.bel.size).alive ((Below.refl w3.heap.size w3).alloc (Nat.le_refl _) C) (by simp))
          have hkc : (k2 : Int) + (sv : Int) = (k3 : Int) := by omega
          have HLEN := Lib.hid (show 0 + bs.length ≤ 100000000 by omega)
          have HM256 := Lib.hid (show ml + 1 ≤ 256 by omega)
          have HMX := Lib.hid (show ml + 1 ≤ maxLen by unfold maxLen; omega)
          have HBYT := Lib.hid (show (ml + 1) * 32 ≤ 140737488355328 by omega)
          have HBS64 := Lib.hid (show bs.length ≤ 65536 by omega)
          have HK3 := Lib.hid (show k3 ≤ L ∧ k2 ≤ k3 ∧ k2 ≤ L from ⟨hk3L, by omega, by omega⟩)
          have HEO := Lib.hid (own_empty (w := w3) (Nat.le_refl w3.heap.size) 5 1)
          have HSC := Lib.hid (show ∀ C, w3.heap.size ≤ (w3.alloc C).heap.size from fun C => by simp)
          have HOWN0 := Lib.hid HW3.out.own
          rw [← EML.out] at HOWN0
          obtain ⟨cc3, hcc3⟩ : ∃ z, z = cv - k2 := ⟨_, rfl⟩
          rw [← hcc3] at hsl3 HBY3
          clear hby3 hbs hk3 hlb c1 c2 c3 hks hcc3
          go_wp2_with (first
            | (at_builtin; refine wpList_append_rows (cl := RecM.cells) rfl _ _ 84 rfl w.heap.size 88 _ 32 Tryz.underlying84 info_rrec rfl (by decide) _ ml (ms.flatMap RecM.cells) rfl (HO6.out _) _ 1 1 [⟨tv, xa, bs, xc⟩] rfl HR6.out (fun x _ => rec_one x) HMX.out HBYT.out (HS6.out _) ?_; intro oa7 oc7 w7 hown7 hgr7; (have HO7 := Lib.hid hown7); (have HG7 := Lib.hid hgr7); clear hown7 hgr7)
            | (at_builtin; refine wpList_append_bytes rfl _ _ rfl w3.heap.size _ 0 [] rfl HEO.out _ _ bs rfl (HBY3.out _) HLEN.out (HSC.out _) ?_; intro xa xc w5 hown5 hgr5; rw [Nat.zero_add] at hown5 ⊢; (have HO5 := Lib.hid hown5); (have HG5 := Lib.hid (show (w3.alloc (.cells #[] 5)).grownBy w5 (some w3.heap.size) from hgr5)); (have HO6 := Lib.hid (show ∀ C, (w5.alloc C).ownsRow w.heap.size 88 2 (.slice oa ml oc) ml (ms.flatMap RecM.cells) from fun C => (rr_own HOWN0.out HG5.out).alloc C)); (have HS6 := Lib.hid (show ∀ C, w.heap.size ≤ (w5.alloc C).heap.size from fun C => by have h1 := HW3.out.bel.size; have h2 := (Kept.of_grown hgr5).size; simp at h2 ⊢; omega)); (have HR6 := Lib.hid (rows_rrec w5 ⟨tv, xa, bs, xc⟩)); clear hown5 hgr5))
          have HNEW := Lib.hid (show TdR w b f' k3 (ms ++ [(⟨tv, xa, bs, xc⟩ : RecM)]) oa7 oc7 w7 from by
            refine HW3.out.step HO5.out HG5.out HBS3.out HBS64.out HT64.out (by rw [← EML.out]; simpa using HO7.out) _ (by rw [← EML.out]; exact HG7.out) ?_ (by have h1 := HK3.out; have h2 := HL.out; omega) ?_ (by rw [← EML.out]; exact HM256.out)
            · rw [HGO.out, decF_step HNE.out HSTEP.out]
              simp [RecM.r]
            · have h1 := HW3.out.lt
              have h2 := HK2.out
              have h3 := HK3.out
              have h4 := HFF.out
              have h5 := HL.out
              omega)
          have HOL := Lib.hid (show ml + 1 = (ms ++ [(⟨tv, xa, bs, xc⟩ : RecM)]).length by rw [List.length_append, ← EML.out]; rfl)
          have HMEAS := Lib.hid (show L - k3 < L - k by have h2 := HK2.out; have h3 := HK3.out; omega)
          clear HO5 HG5 HO6 HO7 HG7 HS6 HR6 HOWN0
          go_wp2_with fail
          go_roundw
          case rel => exact ⟨f', k3, ms ++ [(⟨tv, xa, bs, xc⟩ : RecM)], oa7, oc7, by rw [← HOL.out], by go_num, HNEW.out⟩
          case measure => have := HMEAS.out; simp [intOf]; omega
    · have hm0' : ¬ (0 : Int) < (ml : Int) := by omega
      have HNO := Lib.hid (show ¬ (0 < (ms.map RecM.r).length ∧ tv ≤ lastT (ms.map RecM.r)) from fun h => hm0 (by rw [← HMAP.out]; exact h.1))
      clear htl htl2
      go_wp2_with fail
      cases h2 : rdB (rest.drop nv) with
      | error e =>
        rw [h2] at hR2
        have e2 : R2 = (0, 0, e) := hR2
        subst e2
        have hnz := rd_nz h2
        have he : ((e : Int) != 0) = true := by rw [bne_iff_ne]; omega
        have HE := Lib.hid (show T = .error e by rw [ET.out, HGO.out]; exact decF_err HNE.out (decS_e2 H1.out HNO.out h2))
        clear h2 hR2 hnz
        refine HRD2.out.mono ?_
        rintro _ w3 ⟨rfl, hb3⟩
        have HB3 := Lib.hid (HW2.out.bel.trans (hb3.mono HW2.out.bel.size))
        clear hb3
        go_wp2_with fail
        go_ret2
        rw [HE.out]
        exact ⟨rfl, HB3.out⟩
      | ok q =>
        obtain ⟨sv, mv⟩ := q
        rw [h2] at hR2
        have e2 : R2 = (sv, mv, 0) := hR2
        subst e2
        have HRD3 : Hid (Calls Tryz.prog 68 #[.slice a1 L1 cc1] w2 fun e w' => e = .returned (.tuple #[.int .u64 (sv : Int), .int .i64 (mv : Int), .int .i64 0]) ∧ Below w2.heap.size w2 w') := HRD2
        obtain ⟨hq0, hql, hs64⟩ := rd_le HBY1.out.openT.2.2.1 h2
        obtain ⟨k2, hk2⟩ : ∃ z, z = k1 + mv := ⟨_, rfl⟩
        have hl1 := HBY1.out.openT.1
        have hk2L : k2 ≤ L := by rw [hk2]; have := HL1.out; have := HK1.out; omega
        obtain ⟨r2, hr2⟩ : ∃ z, z = (rest.drop nv).drop mv := ⟨_, rfl⟩
        have hr2b : b.drop k2 = r2 := by rw [hr2, ← HR1.out, List.drop_drop, hk2]
        have hr2l : r2.length = L - k2 := by rw [← hr2b, List.length_drop, ← HL.out]
        have HIN := Lib.hid (decS_in H1.out HNO.out h2)
        dsimp only at HIN
        rw [← hr2] at HIN
        have hkb : (k1 : Int) + (mv : Int) = (k2 : Int) := by omega
        have HK2 := Lib.hid (show k2 ≤ L ∧ k < k2 ∧ b.drop k2 = r2 ∧ r2.length = L - k2 from ⟨hk2L, by have := HK1.out; omega, hr2b, hr2l⟩)
        have HS64 := Lib.hid hs64
        clear h2 hR2 hql hr2 hq0 HRD2 hk2 hr2b hl1 hs64
        refine HRD3.out.mono ?_
        rintro _ w3 ⟨rfl, hb3⟩
        have HW3 := Lib.hid (HW2.out.below hb3)
        clear HW2 HRD3 hb3
        by_cases c1 : 65536 < sv
        · have c1' : (sv : Int) > 65536 := by omega
          have HE := Lib.hid (show T = .error 3 by rw [ET.out, HGO.out]; exact decF_err HNE.out (by rw [HIN.out, if_pos c1]))
          clear c1
          go_wp2_with fail
          go_ret2
          rw [HE.out]
          exact ⟨rfl, HW3.out.bel⟩
        have c1' : ¬ (sv : Int) > 65536 := by omega
        have hsw : IntKind.i64.wrap (sv : Int) = (sv : Int) := by rw [IntKind.wrap_i64]; omega
        by_cases c2 : L - k2 < sv
        · have c2' : (sv : Int) > (L : Int) - (k2 : Int) := by omega
          have HE := Lib.hid (show T = .error 20 by rw [ET.out, HGO.out]; exact decF_err HNE.out (by rw [HIN.out, if_neg c1, if_pos (by rw [hr2l]; exact c2)]))
          clear c1 c2
          go_wp2_with fail
          go_ret2
          rw [HE.out]
          exact ⟨rfl, HW3.out.bel⟩
        have c2' : ¬ (sv : Int) > (L : Int) - (k2 : Int) := by omega
        have c3 : ¬ ml = 256 := by omega
        have c3' : ¬ (ml : Int) ≥ 256 := by omega
        obtain ⟨k3, hk3⟩ : ∃ z, z = k2 + sv := ⟨_, rfl⟩
        have hk3L : k3 ≤ L := by omega
        obtain ⟨a3, hsl3, hby3⟩ := bytes_mid (k := k2) (m := k3) HB.out (by omega) hk3L
        have hks : k3 - k2 = sv := by omega
        rw [hks, HK2.out.2.2.1] at hby3
        rw [hks] at hsl3
        obtain ⟨bs, hbs⟩ : ∃ z, z = r2.take sv := ⟨_, rfl⟩
        have HSTEP := Lib.hid (show decS (ms.map RecM.r) rest = .ok (ms.map RecM.r ++ [⟨tv, bs⟩], b.drop k3) by rw [HIN.out, if_neg c1, if_neg (by rw [hr2l]; exact c2), if_neg (by rw [HMAP.out]; exact c3), hbs, hk3, ← List.drop_drop, HK2.out.2.2.1])
        rw [← hbs] at hby3
        have hlb : bs.length = sv := hby3.openT.1.symm
        have HLB := Lib.hid hlb
        have HBS3 := Lib.hid hby3.openT.2.2.1
        have HBY3 := Lib.hid (show ∀ C, Bytes (w3.alloc C) (w3.alloc C).heap.size (.slice a3 sv (cv - k2)) bs from fun C => (hby3.alive HW3.out.bel HW3.out.bel.size).alive ((Below.refl w3.heap.size w3).alloc (Nat.le_refl _) C) (by simp))
        have hkc : (k2 : Int) + (sv : Int) = (k3 : Int) := by omega
        have HLEN := Lib.hid (show 0 + bs.length ≤ 100000000 by omega)
        have HM256 := Lib.hid (show ml + 1 ≤ 256 by omega)
        have HMX := Lib.hid (show ml + 1 ≤ maxLen by unfold maxLen; omega)
        have HBYT := Lib.hid (show (ml + 1) * 32 ≤ 140737488355328 by omega)
        have HBS64 := Lib.hid (show bs.length ≤ 65536 by omega)
        have HK3 := Lib.hid (show k3 ≤ L ∧ k2 ≤ k3 ∧ k2 ≤ L from ⟨hk3L, by omega, by omega⟩)
        have HEO := Lib.hid (own_empty (w := w3) (Nat.le_refl w3.heap.size) 5 1)
        have HSC := Lib.hid (show ∀ C, w3.heap.size ≤ (w3.alloc C).heap.size from fun C => by simp)
        have HOWN0 := Lib.hid HW3.out.own
        rw [← EML.out] at HOWN0
        obtain ⟨cc3, hcc3⟩ : ∃ z, z = cv - k2 := ⟨_, rfl⟩
        rw [← hcc3] at hsl3 HBY3
        clear hby3 hbs hk3 hlb c1 c2 c3 hks hcc3
        go_wp2_with (first
          | (at_builtin; refine wpList_append_rows (cl := RecM.cells) rfl _ _ 84 rfl w.heap.size 88 _ 32 Tryz.underlying84 info_rrec rfl (by decide) _ ml (ms.flatMap RecM.cells) rfl (HO6.out _) _ 1 1 [⟨tv, xa, bs, xc⟩] rfl HR6.out (fun x _ => rec_one x) HMX.out HBYT.out (HS6.out _) ?_; intro oa7 oc7 w7 hown7 hgr7; (have HO7 := Lib.hid hown7); (have HG7 := Lib.hid hgr7); clear hown7 hgr7)
          | (at_builtin; refine wpList_append_bytes rfl _ _ rfl w3.heap.size _ 0 [] rfl HEO.out _ _ bs rfl (HBY3.out _) HLEN.out (HSC.out _) ?_; intro xa xc w5 hown5 hgr5; rw [Nat.zero_add] at hown5 ⊢; (have HO5 := Lib.hid hown5); (have HG5 := Lib.hid (show (w3.alloc (.cells #[] 5)).grownBy w5 (some w3.heap.size) from hgr5)); (have HO6 := Lib.hid (show ∀ C, (w5.alloc C).ownsRow w.heap.size 88 2 (.slice oa ml oc) ml (ms.flatMap RecM.cells) from fun C => (rr_own HOWN0.out HG5.out).alloc C)); (have HS6 := Lib.hid (show ∀ C, w.heap.size ≤ (w5.alloc C).heap.size from fun C => by have h1 := HW3.out.bel.size; have h2 := (Kept.of_grown hgr5).size; simp at h2 ⊢; omega)); (have HR6 := Lib.hid (rows_rrec w5 ⟨tv, xa, bs, xc⟩)); clear hown5 hgr5))
        have HNEW := Lib.hid (show TdR w b f' k3 (ms ++ [(⟨tv, xa, bs, xc⟩ : RecM)]) oa7 oc7 w7 from by
          refine HW3.out.step HO5.out HG5.out HBS3.out HBS64.out HT64.out (by rw [← EML.out]; simpa using HO7.out) _ (by rw [← EML.out]; exact HG7.out) ?_ (by have h1 := HK3.out; have h2 := HL.out; omega) ?_ (by rw [← EML.out]; exact HM256.out)
          · rw [HGO.out, decF_step HNE.out HSTEP.out]
            simp [RecM.r]
          · have h1 := HW3.out.lt
            have h2 := HK2.out
            have h3 := HK3.out
            have h4 := HFF.out
            have h5 := HL.out
            omega)
        have HOL := Lib.hid (show ml + 1 = (ms ++ [(⟨tv, xa, bs, xc⟩ : RecM)]).length by rw [List.length_append, ← EML.out]; rfl)
        have HMEAS := Lib.hid (show L - k3 < L - k by have h2 := HK2.out; have h3 := HK3.out; omega)
        clear HO5 HG5 HO6 HO7 HG7 HS6 HR6 HOWN0
        go_wp2_with fail
        go_roundw
        case rel => exact ⟨f', k3, ms ++ [(⟨tv, xa, bs, xc⟩ : RecM)], oa7, oc7, by rw [← HOL.out], by go_num, HNEW.out⟩
        case measure => have := HMEAS.out; simp [intOf]; omega
end Go.Proofs.YtknfbccbdiidjaaGreatDoor
/- The walk of the reference's Copy. -/
namespace Go.Proofs.YtknfbccbdiidjaaGreatDoor
set_option linter.unusedVariables false
set_option linter.unusedSimpArgs false
open Go.ChangeShapes Go.WideShapes Go.ChangeAt Go.RowKit Go.Maps

set_option maxRecDepth 100000 in
theorem copy_is (w : World) (v : Value) (bs : List Nat) (hb : Bytes w w.heap.size v bs) (hl : bs.length ≤ 1000000) :
  Calls Tryz.prog 34 #[v] w fun e w' => (∃ a c, e = .returned (.slice a bs.length c) ∧ w'.ownsRow w.heap.size 5 1 (.slice a bs.length c) bs.length (bcells bs)) ∧ Below w.heap.size w w' := by
 have hown0 : (w.alloc (.cells #[] 5)).ownsRow w.heap.size 5 1 (.slice (some ⟨w.heap.size, 0, none⟩) 0 0) 0 [] := World.ownsRow_made w #[] 0 (Nat.le_refl _) (by decide) rfl
 have hal : Below w.heap.size w (w.alloc (.cells #[] 5)) := (Below.refl _ _).alloc (Nat.le_refl _) _
 have HOWN0 := Lib.hid hown0
 have HAL := Lib.hid hal
 have HSRC := Lib.hid (hb.alive hal hal.size)
 have HLN := Lib.hid (show 0 + bs.length ≤ 100000000 by omega)
 have HBS := Lib.hid hal.size
 clear hown0 hal hb hl
 go_enter Tryz.func34, Tryz.ntmps34
 go_wp2_with (at_builtin; refine wpList_append_bytes rfl (.tmp 3) (.tmp 4) rfl w.heap.size _ 0 _ rfl HOWN0.out _ _ bs rfl HSRC.out HLN.out HBS.out ?_; intro oa1 oc1 w1 hown1 hgr1)
 rw [Nat.zero_add] at hown1
 try rw [Nat.zero_add]
 have HFIN := Lib.hid (And.intro hown1 (HAL.out.grown hgr1 HBS.out (own_blk HOWN0.out)))
 clear hown1 hgr1
 go_ret
 exact ⟨⟨_, _, rfl, HFIN.out.1⟩, HFIN.out.2⟩
end Go.Proofs.YtknfbccbdiidjaaGreatDoor
