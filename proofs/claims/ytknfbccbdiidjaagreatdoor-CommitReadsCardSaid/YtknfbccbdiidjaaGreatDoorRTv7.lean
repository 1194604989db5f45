/- The walk of tlv's Decode. -/
import Derived.Test.YtknfbccbdiidjaaGreatDoorWs
import Derived.Test.YtknfbccbdiidjaaGreatDoorRTv6
namespace Go.Proofs.YtknfbccbdiidjaaGreatDoor
set_option linter.unusedVariables false
set_option linter.unusedSimpArgs false
open Go.ChangeShapes Go.WideShapes Go.ChangeAt Go.RowKit Go.Maps

theorem rd_nz {b : List Nat} {e : Nat} (h : rdB b = .error e) : e ≠ 0 := by
 unfold rdB at h
 split at h
 · cases h; decide
 · split at h
   · cases h
   · split at h
     · cases h; decide
     · split at h
       · cases h; decide
       · cases h
theorem decS_e1 {acc : List Rec} {b : List Nat} {e : Nat} (h : rdB b = .error e) : decS acc b = .error e := by unfold decS; rw [h]
theorem decS_ord {acc : List Rec} {b : List Nat} {p : Nat × Nat} (h : rdB b = .ok p) (ho : 0 < acc.length ∧ p.1 ≤ lastT acc) : decS acc b = .error 22 := by unfold decS; rw [h]; exact if_pos ho
theorem decS_e2 {acc : List Rec} {b : List Nat} {p : Nat × Nat} {e : Nat} (h : rdB b = .ok p) (ho : ¬ (0 < acc.length ∧ p.1 ≤ lastT acc)) (h2 : rdB (b.drop p.2) = .error e) : decS acc b = .error e := by
 unfold decS
 rw [h]
 dsimp only
 rw [if_neg ho, h2]
theorem decS_in {acc : List Rec} {b : List Nat} {p q : Nat × Nat} (h : rdB b = .ok p) (ho : ¬ (0 < acc.length ∧ p.1 ≤ lastT acc)) (h2 : rdB (b.drop p.2) = .ok q) : decS acc b =
  if 65536 < q.1 then .error 3 else if ((b.drop p.2).drop q.2).length < q.1 then .error 20 else if acc.length = 256 then .error 4
   else .ok (acc ++ [⟨p.1, ((b.drop p.2).drop q.2).take q.1⟩], ((b.drop p.2).drop q.2).drop q.1) := by
 conv => lhs; unfold decS
 rw [h]
 dsimp only
 rw [if_neg ho, h2]
theorem rd_le {b : List Nat} (hb : ∀ y ∈ b, y < 256) {x n : Nat} (h : rdB b = .ok (x, n)) : 0 < n ∧ n ≤ b.length ∧ x < 18446744073709551616 := by
 obtain ⟨e1, e2, e3⟩ := sz_rd hb h
 have := (szB_len x).2
 have e4 : b.length = (szB x).length + (b.drop n).length := by conv => lhs; rw [e2, List.length_append]
 omega
theorem lastT_map (ms : List RecM) : lastT (ms.map RecM.r) = (ms[ms.length - 1]?.map (·.t)).getD 0 := by
 unfold lastT
 rw [List.length_map, List.getElem?_map, Option.map_map]
 rfl
structure TdW (w : World) (b0 : List Nat) (f : Nat) (rest : List Nat) (ms : List RecM) (ra : Option Addr) (rc : Nat) (oa : Option Addr) (oc : Nat) (wr : World) : Prop where
 go : tdec b0 = decF f (ms.map RecM.r) rest
 lt : rest.length < f
 src : Bytes w w.heap.size (.slice ra rest.length rc) rest
 own : wr.ownsRow w.heap.size 139 2 (.slice oa ms.length oc) ms.length (ms.flatMap RecM.cells)
 vals : ∀ x ∈ ms, x.t < 18446744073709551616 ∧ wr.ownsRow w.heap.size 5 1 (.slice x.a x.v.length x.c) x.v.length (bcells x.v) ∧ (∀ y ∈ x.v, y < 256) ∧ x.v.length ≤ 65536
 few : ms.length ≤ 256
 bel : Below w.heap.size w wr
theorem bytes_from64 {w : World} {a : Option Addr} {n c k : Nat} {l : List Nat} (h : Bytes w w.heap.size (.slice a n c) l) (hk : k ≤ n) : ∃ a', (∀ v : World, (Instr.slice 48 (.slice a n c) (some (.int .u64 (k : Int))) none none).run Tryz.prog v = .ok (.slice a' (n - k) (c - k)) v) ∧ Bytes w w.heap.size (.slice a' (n - k) (c - k)) (l.drop k) := by
 obtain ⟨a', h1, h2⟩ := bytes_from h hk
 have hu : Tryz.prog.underlying 48 = some (.slice (Tryz.prog.elem 48)) := by kernel_rfl
 obtain ⟨q1, q2, _⟩ := h.openT
 refine ⟨a', fun v => ?_, h2⟩
 rw [← h1 v, run_slice_l v 48 a n c hu .i64 (k : Int) (by omega) (by omega), run_slice_l v 48 a n c hu .u64 (k : Int) (by omega) (by omega)]
theorem vals_kept {w w' : World} {base b2 : Nat} {v : Value} {n m : Nat} {xs cs : List Value} {vo : Value} (h : w.ownsRow base 5 1 v n xs) (ho : w.ownsRow b2 139 2 vo m cs) (hg : w.grownBy w' vo.ownBlock) : w'.ownsRow base 5 1 v n xs :=
 own_kept h (Kept.of_grown hg) (fun k e e2 => own_own_ne h ho (by decide) k e e2.symm)
theorem TdW.step {w wr w1 w2 : World} {b0 : List Nat} {f f' : Nat} {rest rest' : List Nat} {ms : List RecM} {ra ra' : Option Addr} {rc rc' : Nat} {oa oa' xa : Option Addr} {oc oc' xc tv : Nat} {bs : List Nat} (h : TdW w b0 f rest ms ra rc oa oc wr)
   (hx : w1.ownsRow w.heap.size 5 1 (.slice xa bs.length xc) bs.length (bcells bs)) (hg1 : wr.grownBy w1 none) (hbs : ∀ y ∈ bs, y < 256) (hbl : bs.length ≤ 65536) (htv : tv < 18446744073709551616)
   (ho : w2.ownsRow w.heap.size 139 2 (.slice oa' (ms.length + 1) oc') (ms.length + 1) (ms.flatMap RecM.cells ++ RecM.cells ⟨tv, xa, bs, xc⟩)) (C : Obj) (hg2 : (w1.alloc C).grownBy w2 (Value.slice oa ms.length oc).ownBlock)
   (hgo : tdec b0 = decF f' ((ms ++ [(⟨tv, xa, bs, xc⟩ : RecM)]).map RecM.r) rest') (hlt : rest'.length < f') (hfew : ms.length + 1 ≤ 256) (hsrc : Bytes w w.heap.size (.slice ra' rest'.length rc') rest') :
   TdW w b0 f' rest' (ms ++ [(⟨tv, xa, bs, xc⟩ : RecM)]) ra' rc' oa' oc' w2 := by
 have hk1 : Kept (fun k => some k = (none : Option Nat)) wr w1 := Kept.of_grown hg1
 have hb1 : Below w.heap.size w w1 := h.bel.grown hg1 h.bel.size (fun k e => by cases e)
 have hb1a : Below w.heap.size w (w1.alloc C) := hb1.alloc (by exact hb1.size) C
 have hown1 : (w1.alloc C).ownsRow w.heap.size 139 2 (.slice oa ms.length oc) ms.length (ms.flatMap RecM.cells) := (own_kept h.own hk1 (fun k _ e => by cases e)).alloc C
 refine ⟨hgo, hlt, hsrc, ?_, ?_, by rw [List.length_append]; exact hfew, hb1a.grown hg2 (by exact hb1a.size) (own_blk hown1)⟩
 · rw [List.flatMap_append, List.length_append]
   simpa using ho
 · intro x hx'
   rcases List.mem_append.1 hx' with h1 | h1
   · obtain ⟨p1, p2, p3, p4⟩ := h.vals x h1
     exact ⟨p1, vals_kept ((own_kept p2 hk1 (fun k _ e => by cases e)).alloc C) hown1 hg2, p3, p4⟩
   · rw [List.mem_singleton.1 h1]
     exact ⟨htv, vals_kept (hx.alloc C) hown1 hg2, hbs, hbl⟩
def TdP (w : World) (R : Except Nat (List Rec)) (e : Ending) (w' : World) : Prop :=
 match R with
  | .ok rs => ∃ ms a c, e = .returned (.tuple #[.slice a ms.length c, .int .i64 0]) ∧ ms.map RecM.r = rs ∧ RecsAt w' a ms.length ms ∧ (∀ A, a = some A → w.heap.size ≤ A.block) ∧ ms.length ≤ 256 ∧ Below w.heap.size w w'
  | .error x => e = .returned (.tuple #[.slice none 0 0, .int .i64 (x : Int)]) ∧ Below w.heap.size w w'
theorem TdW.done {w wr : World} {b0 : List Nat} {f : Nat} {ms : List RecM} {ra : Option Addr} {rc : Nat} {oa : Option Addr} {oc : Nat} (h : TdW w b0 f [] ms ra rc oa oc wr) : TdP w (tdec b0) (.returned (.tuple #[.slice oa ms.length oc, .int .i64 0])) wr := by
 obtain ⟨f', rfl⟩ : ∃ f', f = f' + 1 := ⟨f - 1, by have := h.lt; omega⟩
 rw [h.go, decF_stop rfl]
 obtain ⟨p1, p2⟩ := own_rows h.own rfl (fun x _ => rfl)
 exact ⟨ms, oa, oc, rfl, rfl, ⟨p1, fun x hx => ⟨(h.vals x hx).1, by have := (h.vals x hx).2.2.2; omega, own_bytes (h.vals x hx).2.1 rfl (h.vals x hx).2.2.1 (Nat.le_refl _)⟩⟩, fun A e => (p2 A e).1, h.few, h.bel⟩
theorem info_rec : (Tryz.prog.info? 139).map (fun i => (i.zero, i.size, i.bytes)) = some (some (.agg (RecM.cells ⟨0, none, [], 0⟩).toArray), 2, 32) := by kernel_rfl
theorem rec_one (r : RecM) : ∀ u ∈ r.cells, u.oneCell' = true := by
 intro u hu
 simp only [RecM.cells, List.mem_cons, List.not_mem_nil, or_false] at hu
 rcases hu with rfl | rfl <;> rfl
theorem rows_rec (w : World) (r : RecM) : RowsAt RecM.cells 2 (w.alloc (.cells r.cells.toArray 139)) (some ⟨w.heap.size, 0, none⟩) 1 [r] :=
 rows_has (xs := [r]) (by simpa using Has.new w 139 r.cells.toArray) (fun x _ => rfl)
set_option maxRecDepth 100000 in
set_option maxHeartbeats 4000000 in
theorem tvDec_is (w : World) (a : Option Addr) (L cv : Nat) (b : List Nat) (hb : Bytes w w.heap.size (.slice a L cv) b) (hL : L ≤ 9223372036854775807) :
  Calls Tryz.prog 67 #[.slice a L cv] w (TdP w (tdec b)) := by
 have hl := hb.openT.1
 have HB := Lib.hid hb
 obtain ⟨ii, hii, hii0, hii1, -⟩ := info_parts info_rec
 have HII := Lib.hid (And.intro hii (And.intro hii0 (show ii.size = 2 from hii1)))
 clear hii hii0 hii1
 obtain ⟨T, hT⟩ : ∃ T, T = tdec b := ⟨_, rfl⟩
 rw [← hT]
 have ET := Lib.hid hT
 clear hb hT
 go_enter Tryz.func67, Tryz.ntmps67
 go_wp2_with fail
 go_loopw [0, 4] (fun bv ov wr => ∃ (f : Nat) (rest : List Nat) (ms : List RecM) (ra : Option Addr) (rc : Nat) (oa : Option Addr) (oc : Nat), bv = .slice ra rest.length rc ∧ ov = .slice oa ms.length oc ∧ rest.length ≤ L ∧ TdW w b f rest ms ra rc oa oc wr) (fun bv _ _ => match bv with | .slice _ n _ => n | _ => 0)
 case atStart => exact ⟨b.length + 1, b, [], a, cv, none, 0, by rw [hl], rfl, by rw [hl]; exact Nat.le_refl _, ⟨rfl, Nat.lt_succ_self _, by rw [← hl]; exact HB.out, World.ownsRow_nil _ _ _ _, (fun x hx => by cases hx), Nat.zero_le _, Below.refl _ _⟩⟩
 case round =>
  obtain ⟨f, rest, ms, ra, rc, oa, oc, rfl, rfl, hrl, hw⟩ := hrel
  have HW := Lib.hid hw
  clear hw
  cases rest with
  | nil =>
   go_wp2_with fail
   go_ret2
   rw [ET.out]
   exact HW.out.done
  | cons c0 r0 =>
   obtain ⟨rest, hrest⟩ : ∃ l, l = c0 :: r0 := ⟨_, rfl⟩
   have hne : rest ≠ [] := by rw [hrest]; exact List.cons_ne_nil _ _
   rw [← hrest] at HW hrl ⊢
   have hpos : 0 < rest.length := by rw [hrest]; exact Nat.succ_pos _
   have hpos' : (0 : Int) < (rest.length : Int) := by omega
   have hfp : 0 < f := by have := HW.out.lt; omega
   obtain ⟨f', hf'⟩ : ∃ f', f = f' + 1 := ⟨f - 1, by omega⟩
   have hgo := HW.out.go
   rw [hf'] at hgo
   have HGO := Lib.hid hgo
   have HNE := Lib.hid hne
   obtain ⟨R1, hR1⟩ : ∃ R, R = rdX (rdB rest) := ⟨_, rfl⟩
   have HRD := Lib.hid (read_is wr ra rest.length rc rest (HW.out.src.alive HW.out.bel HW.out.bel.size) (by omega) R1 hR1)
   clear hrest hne hgo hfp
   cases h1 : rdB rest with
   | error e =>
    rw [h1] at hR1
    have e1 : R1 = (0, 0, e) := hR1
    subst e1
    have hnz := rd_nz h1
    have he : ((e : Int) != 0) = true := by rw [bne_iff_ne]; omega
    have HE := Lib.hid (show T = .error e by rw [ET.out, HGO.out]; exact decF_err HNE.out (by unfold decS; rw [h1]))
    clear h1 hR1 hnz
    go_wp2_with fail
    refine HRD.out.mono ?_
    rintro _ w2 ⟨rfl, rfl⟩
    go_wp2_with fail
    go_ret2
    rw [HE.out]
    exact ⟨rfl, HW.out.bel⟩
   | ok p =>
    obtain ⟨tv, nv⟩ := p
    rw [h1] at hR1
    have e1 : R1 = (tv, nv, 0) := hR1
    subst e1
    have HRD1 : Hid (Calls Tryz.prog 96 #[.slice ra rest.length rc] wr fun e w' => e = .returned (.tuple #[.int .u64 (tv : Int), .int .i64 (nv : Int), .int .i64 0]) ∧ w' = wr) := HRD
    obtain ⟨hn0, hnl, ht64⟩ := rd_le HW.out.src.openT.2.2.1 h1
    have H1 := Lib.hid h1
    have HT64 := Lib.hid ht64
    obtain ⟨a1, hsl1, hby1⟩ := bytes_from HW.out.src hnl
    obtain ⟨L1, hL1⟩ : ∃ z, z = rest.length - nv := ⟨_, rfl⟩
    obtain ⟨cc1, hcc1⟩ : ∃ z, z = rc - nv := ⟨_, rfl⟩
    rw [← hL1, ← hcc1] at hsl1 hby1
    have HL1 := Lib.hid (show L1 < rest.length by omega)
    have HBY1 := Lib.hid hby1
    obtain ⟨R2, hR2⟩ : ∃ R, R = rdX (rdB (rest.drop nv)) := ⟨_, rfl⟩
    have HRD2 := Lib.hid (read_is wr a1 L1 cc1 (rest.drop nv) (hby1.alive HW.out.bel HW.out.bel.size) (by omega) R2 hR2)
    obtain ⟨tl, htl⟩ : ∃ z, z = lastT (ms.map RecM.r) := ⟨_, rfl⟩
    have htl2 := lastT_map ms
    rw [← htl] at htl2
    obtain ⟨ml, hml⟩ : ∃ z, z = ms.length := ⟨_, rfl⟩
    have hfew := HW.out.few
    have HOWN0 := Lib.hid HW.out.own
    rw [← hml] at hfew htl2 HOWN0 ⊢
    have EML := Lib.hid hml
    have hmap : (ms.map RecM.r).length = ml := by rw [List.length_map, ← hml]
    have HMAP := Lib.hid hmap
    clear h1 hR1 hn0 ht64 hby1 hL1 hcc1 hmap hml HRD
    go_wp2_with fail
    refine HRD1.out.mono ?_
    rintro _ w2 ⟨rfl, hw2⟩
    replace hw2 := hw2.symm
    subst hw2
    by_cases hm0 : 0 < ml
    · have hm0' : (0 : Int) < (ml : Int) := by omega
      obtain ⟨x, hx⟩ : ∃ x, ms[ml - 1]? = some x := ⟨_, List.getElem?_eq_getElem (by rw [← EML.out]; omega)⟩
      have e3 : tl = x.t := by rw [htl2, hx]; rfl
      obtain ⟨ob, oo, hoa, _, hrow⟩ := (own_rows HW.out.own rfl (fun x _ => rfl)).1.at_ (by rw [← EML.out]; exact hm0)
      have hcl : wr.cell? ⟨ob, oo + (ml - 1) * 2, none⟩ = some (.int .u64 (tl : Int)) := by
        rw [e3]
        exact hrow (ml - 1) x hx 0 _ rfl
      have hix : ∀ v, (Instr.indexAt 136 (.slice (some ⟨ob, oo, none⟩) ml oc) (.int .i64 ((ml : Int) - 1))).run Tryz.prog v = .ok (.pointer (some ⟨ob, oo + (ml - 1) * 2, none⟩)) v := fun v => by
        rw [show ((ml : Int) - 1) = ((ml - 1 : Nat) : Int) by omega]
        exact at_rec ob oo ml oc (ml - 1) (by omega) v
      subst hoa
      obtain ⟨op, hop⟩ : ∃ z, z = oo + (ml - 1) * 2 := ⟨_, rfl⟩
      rw [← hop] at hcl hix
      obtain ⟨oa, hoa⟩ : ∃ z, z = (some (⟨ob, oo, none⟩ : Addr)) := ⟨_, rfl⟩
      rw [← hoa] at hix HW HOWN0 ⊢
      clear hop hx e3 hrow htl2 hoa
      by_cases hle : tv ≤ tl
      · have hle' : (tv : Int) ≤ (tl : Int) := by omega
        have HE := Lib.hid (show T = .error 22 by rw [ET.out, HGO.out]; exact decF_err HNE.out (decS_ord H1.out ⟨by rw [HMAP.out]; exact hm0, by rw [← htl]; exact hle⟩))
        clear htl hle
        go_wp2_with fail
        go_ret2
        rw [HE.out]
        exact ⟨rfl, HW.out.bel⟩
      · have hle' : ¬ (tv : Int) ≤ (tl : Int) := by omega
        have HNO := Lib.hid (show ¬ (0 < (ms.map RecM.r).length ∧ tv ≤ lastT (ms.map RecM.r)) from fun h => hle (by rw [htl]; exact h.2))
        clear htl hle
        go_wp2_with fail
        clear hcl hix
        cases h2 : rdB (rest.drop nv) with
        | error e =>
          rw [h2] at hR2
          have e2 : R2 = (0, 0, e) := hR2
          subst e2
          have hnz := rd_nz h2
          have he : ((e : Int) != 0) = true := by rw [bne_iff_ne]; omega
          have HE := Lib.hid (show T = .error e by rw [ET.out, HGO.out]; exact decF_err HNE.out (decS_e2 H1.out HNO.out h2))
          clear h2 hR2 hnz
          refine HRD2.out.mono ?_
          rintro _ w2 ⟨rfl, hw2⟩
          replace hw2 := hw2.symm
          subst hw2
          go_wp2_with fail
          go_ret2
          rw [HE.out]
          exact ⟨rfl, HW.out.bel⟩
        | ok q =>
          obtain ⟨sv, mv⟩ := q
          rw [h2] at hR2
          have e2 : R2 = (sv, mv, 0) := hR2
          subst e2
          have HRD3 : Hid (Calls Tryz.prog 96 #[.slice a1 L1 cc1] wr fun e w' => e = .returned (.tuple #[.int .u64 (sv : Int), .int .i64 (mv : Int), .int .i64 0]) ∧ w' = wr) := HRD2
          obtain ⟨hq0, hql, hs64⟩ := rd_le HBY1.out.openT.2.2.1 h2
          have hmL : mv ≤ L1 := by rw [HBY1.out.openT.1]; exact hql
          obtain ⟨a2, hsl2, hby2⟩ := bytes_from HBY1.out hmL
          obtain ⟨L2, hL2⟩ : ∃ z, z = L1 - mv := ⟨_, rfl⟩
          obtain ⟨cc2, hcc2⟩ : ∃ z, z = cc1 - mv := ⟨_, rfl⟩
          rw [← hL2, ← hcc2] at hsl2 hby2
          obtain ⟨r2, hr2⟩ : ∃ z, z = (rest.drop nv).drop mv := ⟨_, rfl⟩
          rw [← hr2] at hby2
          have HIN := Lib.hid (decS_in H1.out HNO.out h2)
          dsimp only at HIN
          rw [← hr2] at HIN
          have hl2 : L2 = r2.length := hby2.openT.1
          have hL2b : L2 ≤ 9223372036854775807 := by have := HL1.out; omega
          have HL2R := Lib.hid (show L2 < rest.length by have := HL1.out; omega)
          have HBY2 := Lib.hid hby2
          have hwu : IntKind.u64.wrap (L2 : Int) = (L2 : Int) := by rw [IntKind.wrap_u64]; omega
          have HL2 := Lib.hid hl2
          clear h2 hR2 hql hmL hby2 hL2 hcc2 hr2 hl2 hq0 HRD2
          by_cases c1 : 65536 < sv
          · have c1' : (65536 : Int) < (sv : Int) := by omega
            have HE := Lib.hid (show T = .error 3 by rw [ET.out, HGO.out]; exact decF_err HNE.out (by rw [HIN.out, if_pos c1]))
            clear c1
            refine HRD3.out.mono ?_
            rintro _ w2 ⟨rfl, hw2⟩
            replace hw2 := hw2.symm
            subst hw2
            go_wp2_with fail
            go_ret2
            rw [HE.out]
            exact ⟨rfl, HW.out.bel⟩
          have c1' : ¬ (65536 : Int) < (sv : Int) := by omega
          by_cases c2 : L2 < sv
          · have c2' : (L2 : Int) < (sv : Int) := by omega
            have HE := Lib.hid (show T = .error 20 by rw [ET.out, HGO.out]; exact decF_err HNE.out (by rw [HIN.out, if_neg c1, if_pos (by rw [← HL2.out]; exact c2)]))
            clear c1 c2
            refine HRD3.out.mono ?_
            rintro _ w2 ⟨rfl, hw2⟩
            replace hw2 := hw2.symm
            subst hw2
            go_wp2_with fail
            go_ret2
            rw [HE.out]
            exact ⟨rfl, HW.out.bel⟩
          have c2' : ¬ (L2 : Int) < (sv : Int) := by omega
          by_cases c3 : ml = 256
          · have c3' : ((ml : Int) == 256) = true := by rw [beq_iff_eq]; omega
            have HE := Lib.hid (show T = .error 4 by rw [ET.out, HGO.out]; exact decF_err HNE.out (by rw [HIN.out, if_neg c1, if_neg (by rw [← HL2.out]; exact c2), if_pos (by rw [HMAP.out]; exact c3)]))
            clear c1 c2 c3
            refine HRD3.out.mono ?_
            rintro _ w2 ⟨rfl, hw2⟩
            replace hw2 := hw2.symm
            subst hw2
            go_wp2_with fail
            go_ret2
            rw [HE.out]
            exact ⟨rfl, HW.out.bel⟩
          have c3' : ((ml : Int) == 256) = false := by rw [beq_eq_false_iff_ne]; omega
          have hsv2 : sv ≤ L2 := by omega
          obtain ⟨a3, hsl3, hby3⟩ := bytes_upto HBY2.out hsv2
          obtain ⟨a4, hsl4, hby4⟩ := bytes_from64 HBY2.out hsv2
          obtain ⟨bs, hbs⟩ : ∃ z, z = r2.take sv := ⟨_, rfl⟩
          obtain ⟨r3, hr3⟩ : ∃ z, z = r2.drop sv := ⟨_, rfl⟩
          have HSTEP := Lib.hid (show decS (ms.map RecM.r) rest = .ok (ms.map RecM.r ++ [⟨tv, bs⟩], r3) by rw [HIN.out, if_neg c1, if_neg (by rw [← HL2.out]; exact c2), if_neg (by rw [HMAP.out]; exact c3), hbs, hr3])
          rw [← hbs] at hby3
          rw [← hr3] at hby4
          have hlb : bs.length = sv := hby3.openT.1.symm
          have HLB := Lib.hid hlb
          have HBS3 := Lib.hid hby3.openT.2.2.1
          have HBY3 := Lib.hid (hby3.alive HW.out.bel HW.out.bel.size)
          obtain ⟨L4, hL4⟩ : ∃ z, z = L2 - sv := ⟨_, rfl⟩
          obtain ⟨cc4, hcc4⟩ : ∃ z, z = cc2 - sv := ⟨_, rfl⟩
          rw [← hL4, ← hcc4] at hsl4 hby4
          have hl4 : L4 = r3.length := hby4.openT.1
          have HBY4 := Lib.hid hby4
          have HL4 := Lib.hid hl4
          have HL4R := Lib.hid (show L4 < rest.length by have := HL2R.out; omega)
          have HLEN := Lib.hid (show 0 + bs.length ≤ 100000000 by omega)
          have HM256 := Lib.hid (show ml + 1 ≤ 256 by omega)
          have HMX := Lib.hid (show ml + 1 ≤ maxLen by unfold maxLen; omega)
          have HBYT := Lib.hid (show (ml + 1) * 32 ≤ 140737488355328 by omega)
          have HBS64 := Lib.hid (show bs.length ≤ 65536 by omega)
          clear hby3 hby4 hbs hr3 hlb hL4 hcc4 hl4 c1 c2 c3
          refine HRD3.out.mono ?_
          rintro _ w2 ⟨rfl, hw2⟩
          replace hw2 := hw2.symm
          subst hw2
          go_upto_region 19 with (fail)
          have HB5 := Lib.hid HW.out.bel.size
          go_wp2_with (first
            | (at_builtin; refine wpList_append_bytes rfl _ _ rfl w.heap.size _ 0 [] rfl (World.ownsRow_nil _ _ _ _) _ _ bs rfl HBY3.out HLEN.out HB5.out ?_; intro xa xc w5 hown5 hgr5; rw [Nat.zero_add] at hown5 ⊢; (have HO5 := Lib.hid hown5); (have HG5 := Lib.hid hgr5); (have HO6 := Lib.hid (show ∀ C, (w5.alloc C).ownsRow w.heap.size 139 2 (.slice oa ml oc) ml (ms.flatMap RecM.cells) from fun C => (own_kept HOWN0.out (Kept.of_grown hgr5) (fun k _ e => by cases e)).alloc C)); (have HS6 := Lib.hid (show ∀ C, w.heap.size ≤ (w5.alloc C).heap.size from fun C => ((HW.out.bel.grown hgr5 HB5.out (fun k e => by cases e)).alloc (HW.out.bel.grown hgr5 HB5.out (fun k e => by cases e)).size C).size)); (have HR6 := Lib.hid (rows_rec w5 ⟨tv, xa, bs, xc⟩)); clear hown5 hgr5)
            | (at_builtin; refine wpList_append_rows (cl := RecM.cells) rfl _ _ 136 rfl w.heap.size 139 _ 32 Tryz.underlying136 info_rec rfl (by decide) _ ml (ms.flatMap RecM.cells) rfl (HO6.out _) _ 1 1 [⟨tv, xa, bs, xc⟩] rfl HR6.out (fun x _ => rec_one x) HMX.out HBYT.out (HS6.out _) ?_; intro oa7 oc7 w7 hown7 hgr7; (have HO7 := Lib.hid hown7); (have HG7 := Lib.hid hgr7); clear hown7 hgr7))
          have HNEW := Lib.hid (show TdW w b f' r3 (ms ++ [(⟨tv, xa, bs, xc⟩ : RecM)]) a4 cc4 oa7 oc7 w7 from by
            refine HW.out.step HO5.out HG5.out HBS3.out HBS64.out HT64.out (by rw [← EML.out]; simpa using HO7.out) _ (by rw [← EML.out]; exact HG7.out) ?_ ?_ (by rw [← EML.out]; exact HM256.out) (by rw [← HL4.out]; exact HBY4.out)
            · rw [HGO.out, decF_step HNE.out HSTEP.out]
              simp [RecM.r]
            · have h1 := HW.out.lt
              have h2 := HL4R.out
              have h3 := HL4.out
              omega)
          have HLE := Lib.hid (show r3.length ≤ L by have h2 := HL4R.out; have h3 := HL4.out; omega)
          have HOL := Lib.hid (show ml + 1 = (ms ++ [(⟨tv, xa, bs, xc⟩ : RecM)]).length by rw [List.length_append, ← EML.out]; rfl)
          clear HO5 HG5 HO6 HO7 HG7 HS6 HR6
          go_wp2_with fail
          go_roundw
          case rel => exact ⟨f', r3, ms ++ [(⟨tv, xa, bs, xc⟩ : RecM)], a4, cc4, oa7, oc7, by rw [← HL4.out], by rw [← HOL.out], HLE.out, HNEW.out⟩
          case measure => have := HL4R.out; simpa using this
    · have hm0' : ¬ (0 : Int) < (ml : Int) := by omega
      have HNO := Lib.hid (show ¬ (0 < (ms.map RecM.r).length ∧ tv ≤ lastT (ms.map RecM.r)) from fun h => hm0 (by rw [← HMAP.out]; exact h.1))
      clear htl htl2
      go_wp2_with fail
      cases h2 : rdB (rest.drop nv) with
      | error e =>
        rw [h2] at hR2
        have e2 : R2 = (0, 0, e) := hR2
        subst e2
        have hnz := rd_nz h2
        have he : ((e : Int) != 0) = true := by rw [bne_iff_ne]; omega
        have HE := Lib.hid (show T = .error e by rw [ET.out, HGO.out]; exact decF_err HNE.out (decS_e2 H1.out HNO.out h2))
        clear h2 hR2 hnz
        refine HRD2.out.mono ?_
        rintro _ w2 ⟨rfl, hw2⟩
        replace hw2 := hw2.symm
        subst hw2
        go_wp2_with fail
        go_ret2
        rw [HE.out]
        exact ⟨rfl, HW.out.bel⟩
      | ok q =>
        obtain ⟨sv, mv⟩ := q
        rw [h2] at hR2
        have e2 : R2 = (sv, mv, 0) := hR2
        subst e2
        have HRD3 : Hid (Calls Tryz.prog 96 #[.slice a1 L1 cc1] wr fun e w' => e = .returned (.tuple #[.int .u64 (sv : Int), .int .i64 (mv : Int), .int .i64 0]) ∧ w' = wr) := HRD2
        obtain ⟨hq0, hql, hs64⟩ := rd_le HBY1.out.openT.2.2.1 h2
        have hmL : mv ≤ L1 := by rw [HBY1.out.openT.1]; exact hql
        obtain ⟨a2, hsl2, hby2⟩ := bytes_from HBY1.out hmL
        obtain ⟨L2, hL2⟩ : ∃ z, z = L1 - mv := ⟨_, rfl⟩
        obtain ⟨cc2, hcc2⟩ : ∃ z, z = cc1 - mv := ⟨_, rfl⟩
        rw [← hL2, ← hcc2] at hsl2 hby2
        obtain ⟨r2, hr2⟩ : ∃ z, z = (rest.drop nv).drop mv := ⟨_, rfl⟩
        rw [← hr2] at hby2
        have HIN := Lib.hid (decS_in H1.out HNO.out h2)
        dsimp only at HIN
        rw [← hr2] at HIN
        have hl2 : L2 = r2.length := hby2.openT.1
        have hL2b : L2 ≤ 9223372036854775807 := by have := HL1.out; omega
        have HL2R := Lib.hid (show L2 < rest.length by have := HL1.out; omega)
        have HBY2 := Lib.hid hby2
        have hwu : IntKind.u64.wrap (L2 : Int) = (L2 : Int) := by rw [IntKind.wrap_u64]; omega
        have HL2 := Lib.hid hl2
        clear h2 hR2 hql hmL hby2 hL2 hcc2 hr2 hl2 hq0 HRD2
        by_cases c1 : 65536 < sv
        · have c1' : (65536 : Int) < (sv : Int) := by omega
          have HE := Lib.hid (show T = .error 3 by rw [ET.out, HGO.out]; exact decF_err HNE.out (by rw [HIN.out, if_pos c1]))
          clear c1
          refine HRD3.out.mono ?_
          rintro _ w2 ⟨rfl, hw2⟩
          replace hw2 := hw2.symm
          subst hw2
          go_wp2_with fail
          go_ret2
          rw [HE.out]
          exact ⟨rfl, HW.out.bel⟩
        have c1' : ¬ (65536 : Int) < (sv : Int) := by omega
        by_cases c2 : L2 < sv
        · have c2' : (L2 : Int) < (sv : Int) := by omega
          have HE := Lib.hid (show T = .error 20 by rw [ET.out, HGO.out]; exact decF_err HNE.out (by rw [HIN.out, if_neg c1, if_pos (by rw [← HL2.out]; exact c2)]))
          clear c1 c2
          refine HRD3.out.mono ?_
          rintro _ w2 ⟨rfl, hw2⟩
          replace hw2 := hw2.symm
          subst hw2
          go_wp2_with fail
          go_ret2
          rw [HE.out]
          exact ⟨rfl, HW.out.bel⟩
        have c2' : ¬ (L2 : Int) < (sv : Int) := by omega
        by_cases c3 : ml = 256
        · have c3' : ((ml : Int) == 256) = true := by rw [beq_iff_eq]; omega
          have HE := Lib.hid (show T = .error 4 by rw [ET.out, HGO.out]; exact decF_err HNE.out (by rw [HIN.out, if_neg c1, if_neg (by rw [← HL2.out]; exact c2), if_pos (by rw [HMAP.out]; exact c3)]))
          clear c1 c2 c3
          refine HRD3.out.mono ?_
          rintro _ w2 ⟨rfl, hw2⟩
          replace hw2 := hw2.symm
          subst hw2
          go_wp2_with fail
          go_ret2
          rw [HE.out]
          exact ⟨rfl, HW.out.bel⟩
        have c3' : ((ml : Int) == 256) = false := by rw [beq_eq_false_iff_ne]; omega
        have hsv2 : sv ≤ L2 := by omega
        obtain ⟨a3, hsl3, hby3⟩ := bytes_upto HBY2.out hsv2
        obtain ⟨a4, hsl4, hby4⟩ := bytes_from64 HBY2.out hsv2
        obtain ⟨bs, hbs⟩ : ∃ z, z = r2.take sv := ⟨_, rfl⟩
        obtain ⟨r3, hr3⟩ : ∃ z, z = r2.drop sv := ⟨_, rfl⟩
        have HSTEP := Lib.hid (show decS (ms.map RecM.r) rest = .ok (ms.map RecM.r ++ [⟨tv, bs⟩], r3) by rw [HIN.out, if_neg c1, if_neg (by rw [← HL2.out]; exact c2), if_neg (by rw [HMAP.out]; exact c3), hbs, hr3])
        rw [← hbs] at hby3
        rw [← hr3] at hby4
        have hlb : bs.length = sv := hby3.openT.1.symm
        have HLB := Lib.hid hlb
        have HBS3 := Lib.hid hby3.openT.2.2.1
        have HBY3 := Lib.hid (hby3.alive HW.out.bel HW.out.bel.size)
        obtain ⟨L4, hL4⟩ : ∃ z, z = L2 - sv := ⟨_, rfl⟩
        obtain ⟨cc4, hcc4⟩ : ∃ z, z = cc2 - sv := ⟨_, rfl⟩
        rw [← hL4, ← hcc4] at hsl4 hby4
        have hl4 : L4 = r3.length := hby4.openT.1
        have HBY4 := Lib.hid hby4
        have HL4 := Lib.hid hl4
        have HL4R := Lib.hid (show L4 < rest.length by have := HL2R.out; omega)
        have HLEN := Lib.hid (show 0 + bs.length ≤ 100000000 by omega)
        have HM256 := Lib.hid (show ml + 1 ≤ 256 by omega)
        have HMX := Lib.hid (show ml + 1 ≤ maxLen by unfold maxLen; omega)
        have HBYT := Lib.hid (show (ml + 1) * 32 ≤ 140737488355328 by omega)
        have HBS64 := Lib.hid (show bs.length ≤ 65536 by omega)
        clear hby3 hby4 hbs hr3 hlb hL4 hcc4 hl4 c1 c2 c3
        refine HRD3.out.mono ?_
        rintro _ w2 ⟨rfl, hw2⟩
        replace hw2 := hw2.symm
        subst hw2
        go_upto_region 19 with (fail)
        have HB5 := Lib.hid HW.out.bel.size
        go_wp2_with (first
          | (at_builtin; refine wpList_append_bytes rfl _ _ rfl w.heap.size _ 0 [] rfl (World.ownsRow_nil _ _ _ _) _ _ bs rfl HBY3.out HLEN.out HB5.out ?_; intro xa xc w5 hown5 hgr5; rw [Nat.zero_add] at hown5 ⊢; (have HO5 := Lib.hid hown5); (have HG5 := Lib.hid hgr5); (have HO6 := Lib.hid (show ∀ C, (w5.alloc C).ownsRow w.heap.size 139 2 (.slice oa ml oc) ml (ms.flatMap RecM.cells) from fun C => (own_kept HOWN0.out (Kept.of_grown hgr5) (fun k _ e => by cases e)).alloc C)); (have HS6 := Lib.hid (show ∀ C, w.heap.size ≤ (w5.alloc C).heap.size from fun C => ((HW.out.bel.grown hgr5 HB5.out (fun k e => by cases e)).alloc (HW.out.bel.grown hgr5 HB5.out (fun k e => by cases e)).size C).size)); (have HR6 := Lib.hid (rows_rec w5 ⟨tv, xa, bs, xc⟩)); clear hown5 hgr5)
          | (at_builtin; refine wpList_append_rows (cl := RecM.cells) rfl _ _ 136 rfl w.heap.size 139 _ 32 Tryz.underlying136 info_rec rfl (by decide) _ ml (ms.flatMap RecM.cells) rfl (HO6.out _) _ 1 1 [⟨tv, xa, bs, xc⟩] rfl HR6.out (fun x _ => rec_one x) HMX.out HBYT.out (HS6.out _) ?_; intro oa7 oc7 w7 hown7 hgr7; (have HO7 := Lib.hid hown7); (have HG7 := Lib.hid hgr7); clear hown7 hgr7))
        have HNEW := Lib.hid (show TdW w b f' r3 (ms ++ [(⟨tv, xa, bs, xc⟩ : RecM)]) a4 cc4 oa7 oc7 w7 from by
          refine HW.out.step HO5.out HG5.out HBS3.out HBS64.out HT64.out (by rw [← EML.out]; simpa using HO7.out) _ (by rw [← EML.out]; exact HG7.out) ?_ ?_ (by rw [← EML.out]; exact HM256.out) (by rw [← HL4.out]; exact HBY4.out)
          · rw [HGO.out, decF_step HNE.out HSTEP.out]
            simp [RecM.r]
          · have h1 := HW.out.lt
            have h2 := HL4R.out
            have h3 := HL4.out
            omega)
        have HLE := Lib.hid (show r3.length ≤ L by have h2 := HL4R.out; have h3 := HL4.out; omega)
        have HOL := Lib.hid (show ml + 1 = (ms ++ [(⟨tv, xa, bs, xc⟩ : RecM)]).length by rw [List.length_append, ← EML.out]; rfl)
        clear HO5 HG5 HO6 HO7 HG7 HS6 HR6
        go_wp2_with fail
        go_roundw
        case rel => exact ⟨f', r3, ms ++ [(⟨tv, xa, bs, xc⟩ : RecM)], a4, cc4, oa7, oc7, by rw [← HL4.out], by rw [← HOL.out], HLE.out, HNEW.out⟩
        case measure => have := HL4R.out; simpa using this
end Go.Proofs.YtknfbccbdiidjaaGreatDoor

