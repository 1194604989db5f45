/- The walk of tlv's Encode. -/
import Derived.Test.YtknfbccbdiidjaaGreatDoorWs
import Derived.Test.YtknfbccbdiidjaaGreatDoorRTv1
namespace Go.Proofs.YtknfbccbdiidjaaGreatDoor
set_option linter.unusedVariables false
set_option linter.unusedSimpArgs false
open Go.ChangeShapes Go.WideShapes Go.ChangeAt Go.RowKit Go.Maps

structure RecM where
 t : Nat
 a : Option Addr
 v : List Nat
 c : Nat
def RecM.cells (r : RecM) : List Value := [.int .u64 (r.t : Int), .slice r.a r.v.length r.c]
def RecM.r (r : RecM) : Rec := ⟨r.t, r.v⟩
structure RecM.ok (w : World) (r : RecM) : Prop where
 t : r.t < 18446744073709551616
 l : r.v.length ≤ 9223372036854775807
 b : Bytes w w.heap.size (.slice r.a r.v.length r.c) r.v
theorem RecM.ok.below {w w' : World} {r : RecM} (h : r.ok w) (hb : Below w.heap.size w w') : r.ok w' := ⟨h.t, h.l, h.b.alive hb hb.size⟩
structure RecsAt (w : World) (A : Option Addr) (n : Nat) (xs : List RecM) : Prop where
 row : RowsAt RecM.cells 2 w A n xs
 ok : ∀ x ∈ xs, x.ok w
theorem RecsAt.below {w w' : World} {A : Option Addr} {n : Nat} {xs : List RecM} (h : RecsAt w A n xs) (hb : Below w.heap.size w w') : RecsAt w' A n xs := ⟨h.row.below hb, fun x hx => (h.ok x hx).below hb⟩
theorem at_rec (b o n c k : Nat) (hk : k < n) (w : World) : (Instr.indexAt 136 (.slice (some ⟨b, o, none⟩) n c) (.int .i64 (k : Int))).run Tryz.prog w = .ok (.pointer (some ⟨b, o + k * 2, none⟩)) w := by
 have hu : Tryz.prog.underlying 136 = some (.slice (Tryz.prog.elem 136)) := by kernel_rfl
 have he : Tryz.prog.elem 136 = 139 := by kernel_rfl
 have hz : ∀ w, (sizeOf 139).run Tryz.prog w = .ok 2 w := fun w => by kernel_rfl
 rw [run_indexAt_slice w 136 ⟨b, o, none⟩ n c .i64 (k : Int) hu, if_pos ⟨by omega, by omega⟩, he, hz]
 simp only [Result.andThen, Int.toNat_natCast, Addr.add_mid]
theorem zero_rec : ∃ Z : Array Value, (∀ w, (zeroValue 139).run Tryz.prog w = .ok (.agg Z) w) ∧ Z.size = 2 ∧ ¬ Z = #[] ∧ Z = (RecM.cells ⟨0, none, [], 0⟩).toArray :=
 ⟨(RecM.cells ⟨0, none, [], 0⟩).toArray, fun w => by kernel_rfl, rfl, by decide, rfl⟩
def TvP (w : World) (R : Except Nat (List Nat)) (e : Ending) (w' : World) : Prop :=
 match R with
  | .ok b => ∃ v', e = .returned (.tuple #[v', .int .i64 0]) ∧ BigW w.heap.size w b v' w'
  | .error x => e = .returned (.tuple #[.slice none 0 0, .int .i64 (x : Int)]) ∧ Below w.heap.size w w'
set_option maxRecDepth 100000 in
set_option maxHeartbeats 2000000 in
theorem tvEnc_is (w : World) (A : Option Addr) (n c : Nat) (xs : List RecM) (hxs : RecsAt w A n xs) (hn : n ≤ 9223372036854775807) :
   Calls Tryz.prog 69 #[.slice A n c] w (TvP w (tvEnc (xs.map RecM.r))) := by
 have hlen := hxs.row.len
 by_cases hbig : 256 < n
 · have hb' : (256 : Int) < (n : Int) := by omega
   have HR := Lib.hid (show tvEnc (xs.map RecM.r) = .error 4 by unfold tvEnc; rw [List.length_map, hlen, if_pos hbig])
   clear hbig hxs hlen
   go_enter Tryz.func69, Tryz.ntmps69
   go_wp2_with fail
   go_ret2
   rw [HR.out]
   exact ⟨rfl, Below.refl _ _⟩
 have hb' : ¬ (256 : Int) < (n : Int) := by omega
 have HR := Lib.hid (show tvEnc (xs.map RecM.r) = tvAt (xs.map RecM.r) n by unfold tvEnc; rw [List.length_map, hlen, if_neg hbig])
 obtain ⟨Z, hz, hzs, hzn, -⟩ := zero_rec
 obtain ⟨rs, hrs⟩ : ∃ rs, rs = xs.map RecM.r := ⟨_, rfl⟩
 have HR := Lib.hid (show tvEnc (xs.map RecM.r) = tvAt rs n by rw [hrs]; exact HR.out)
 have HXS := Lib.hid hxs
 have ERS := Lib.hid hrs
 have HAT := Lib.hid at_rec
 clear hxs hrs hbig
 go_enter Tryz.func69, Tryz.ntmps69
 go_wp2_with fail
 go_loopw [4, 12] (fun bv iv wr => ∃ (k : Nat) (bs : List Nat), iv = .int .i64 (k : Int) ∧ k ≤ n ∧ tvAt rs k = .ok bs ∧ BigW w.heap.size w bs bv wr) (fun _ iv _ => n - (intOf iv).toNat)
 case atStart => exact ⟨0, [], rfl, Nat.zero_le _, rfl, ⟨none, 0, rfl, World.ownsRow_nil _ _ _ _⟩, Below.refl _ _⟩
 case round =>
   obtain ⟨k, bs, rfl, hk, htv, hbw⟩ := hrel
   have HTV := Lib.hid htv
   have HBW := Lib.hid hbw
   clear htv hbw
   by_cases hlt : k < n
   · have hlt' : (k : Int) < (n : Int) := by omega
     obtain ⟨x, hx⟩ : ∃ x, xs[k]? = some x := ⟨_, List.getElem?_eq_getElem (by rw [HXS.out.row.len]; exact hlt)⟩
     have hxok := HXS.out.ok x (List.mem_of_getElem? hx)
     obtain ⟨sb, so, hA1, hA2, hr⟩ := HXS.out.row.at_ (by omega)
     subst hA1
     have hrw := rangeAt_kept (hr k x hx) (Kept.of_below (S := fun _ => False) HBW.out.bel) (fun h => h)
     obtain ⟨CR, hCR⟩ : ∃ L, L = x.cells := ⟨_, rfl⟩
     have LR := Lib.hid (show CR.length = 2 by rw [hCR]; rfl)
     rw [← hCR] at hrw
     have HRW := Lib.hid hrw
     have SZ := Lib.hid (show (Tryz.prog.info? 139).map (·.size) = some CR.length by rw [LR.out]; kernel_rfl)
     have SZA := Lib.hid (show (Tryz.prog.info? 139).map (·.size) = some CR.toArray.size by rw [List.size_toArray]; exact SZ.out)
     have HZZ := Lib.hid (show Z.size = CR.toArray.size by rw [hzs, List.size_toArray, LR.out])
     have HONE := Lib.hid (show CR.toArray.all (·.oneCell') = true by rw [hCR]; kernel_rfl)
     have ECR := Lib.hid hCR
     clear hCR
     obtain ⟨h3, hb3⟩ := new_row wr 139 Z CR.toArray
     have hat := HAT.out sb so n c k hlt
     obtain ⟨oa, oc, hbv, hown⟩ := HBW.out.own
     have hbel := HBW.out.bel
     subst hbv
     have hown3 := own_kept hown (Kept.of_below (S := fun _ => False) hb3) (fun _ _ e => e)
     have hbel3 := hbel.trans (hb3.mono hbel.size)
     have HSZ := Lib.hid hbel.size
     clear hrw HBW hown hbel hA2
     go_upto_region 7 with (first
      | (refine wpList_load_mid rfl 139 (.tmp 15) rfl sb (so + k * 2) rfl CR _ HRW.out Tryz.underlying139 rfl SZ.out ?_)
      | (refine wpList_store_row rfl 139 (.tmp 6) (.tmp 16) rfl wr.heap.size CR.toArray rfl rfl 139 Z (heap_alloc_new wr _) SZA.out HZZ.out HONE.out ?_))
     obtain ⟨W9, hW9⟩ : ∃ W, W = (wr.alloc (.cells Z 139)).setRow wr.heap.size CR.toArray := ⟨_, rfl⟩
     rw [← hW9] at h3 hb3 hown3 hbel3 ⊢
     clear hW9
     obtain ⟨G, hG⟩ : ∃ g, g = wr.heap.size := ⟨_, rfl⟩
     rw [← hG] at h3 ⊢
     clear hG hat
     obtain ⟨vt, hvt⟩ : ∃ z, z = x.t := ⟨_, rfl⟩
     obtain ⟨va, hva⟩ : ∃ z, z = x.a := ⟨_, rfl⟩
     obtain ⟨vl, hvl⟩ : ∃ z, z = x.v.length := ⟨_, rfl⟩
     obtain ⟨vc, hvc⟩ : ∃ z, z = x.c := ⟨_, rfl⟩
     have HCL := Lib.hid (show ∀ v : World, Has v G 139 CR.toArray → v.cell? ⟨G, 0, none⟩ = some (.int .u64 (vt : Int)) ∧ v.cell? ⟨G, 1, none⟩ = some (.slice va vl vc) from fun v hv => by
      rw [ECR.out] at hv
      rw [hvt, hva, hvl, hvc]
      exact ⟨hv.cell_is rfl, hv.cell_is rfl⟩)
     have hrx : rs[k]? = some x.r := by rw [ERS.out, List.getElem?_map, hx]; rfl
     have HNX := Lib.hid (tvAt_succ HTV.out hrx)
     obtain ⟨tp, htp⟩ : ∃ z, z = (rs[k - 1]?.map (·.t)).getD 0 := ⟨_, rfl⟩
     obtain ⟨B7, hB7⟩ : ∃ z, z = decide (0 < k ∧ vt ≤ tp) := ⟨_, rfl⟩
     have HRE := Lib.hid (show recE rs k x.r = if B7 = true then 22 else if 65536 < vl then 3 else 0 by
      unfold recE
      rw [← htp, show x.r.t = vt from hvt.symm, show x.r.v.length = vl from hvl.symm, hB7]
      by_cases c : 0 < k ∧ vt ≤ tp
      · rw [if_pos c, decide_eq_true c, if_pos rfl]
      · rw [if_neg c, decide_eq_false c]; rfl)
     have HPREV := Lib.hid (show 0 < k → ∀ v : World, Below w.heap.size w v → v.cell? ⟨sb, so + (k - 1) * 2, none⟩ = some (.int .u64 (tp : Int)) from fun h0 v hv => by
      obtain ⟨y, hy⟩ : ∃ y, xs[k - 1]? = some y := ⟨_, List.getElem?_eq_getElem (by rw [HXS.out.row.len]; omega)⟩
      have e : tp = y.t := by rw [htp, ERS.out, List.getElem?_map, hy]; rfl
      rw [e]
      exact rangeAt_kept (hr (k - 1) y hy) (Kept.of_below (S := fun _ => False) hv) (fun h => h) 0 _ rfl)
     have HBV := Lib.hid (show ∀ v : World, Below w.heap.size w v → Bytes v v.heap.size (.slice va vl vc) x.v from fun v hv => by rw [hva, hvl, hvc]; exact hxok.b.alive hv hv.size)
     have hk256 : k < 256 := by omega
     have hvt64 : vt < 18446744073709551616 := by rw [hvt]; exact hxok.t
     have hvl64 : vl ≤ 9223372036854775807 := by rw [hvl]; exact hxok.l
     have HVL := Lib.hid hvl
     have EB7 := Lib.hid hB7
     have HO9 := Lib.hid hown3
     have H9 := Lib.hid (show Has W9 G 139 CR.toArray ∧ Below w.heap.size w W9 from ⟨h3, hbel3⟩)
     have EVT := Lib.hid hvt
     clear hvt hva hvl hvc ECR hrx htp hB7 hx hxok hr h3 hb3 hown3 hbel3 HRW SZA HZZ HONE
     simp only [Act.put]
     go_cut [29] from 13 to 48 (fun cv wx => cv = .bool B7 ∧ Has wx G 139 CR.toArray ∧ Below w.heap.size w wx ∧ wx.ownsRow w.heap.size 5 1 (.slice oa bs.length oc) bs.length (bcells bs))
     case first =>
      have hS0 : Has W9.drew G 139 CR.toArray ∧ Below w.heap.size w W9.drew := ⟨H9.out.1, below_drew H9.out.2⟩
      have HO9D := Lib.hid (own_kept HO9.out (Kept.of_below (S := fun _ => False) (below_drew (Below.refl W9.heap.size W9))) (fun _ _ e => e))
      by_cases hk0 : 0 < k
      · obtain ⟨km, hkm⟩ : ∃ z, z = k - 1 := ⟨_, rfl⟩
        have HAT2 := Lib.hid (HAT.out sb so n c km (by omega))
        have HP2 := Lib.hid (HPREV.out hk0)
        rw [← hkm] at HP2
        have HWK := Lib.hid (show IntKind.i64.wrap ((k : Int) - 1) = (km : Int) by rw [IntKind.wrap_i64]; omega)
        clear hkm
        by_cases hle : vt ≤ tp
        · have hB : B7 = true := by rw [EB7.out]; exact decide_eq_true ⟨hk0, hle⟩
          subst hB
          refine wp_region_noPanic ?_
          refine wp_region_held_drew (S := (fun v => Has v G 139 CR.toArray ∧ Below w.heap.size w v)) (by kernel_rfl) hS0 (fun hH0 => ?_)
          apply tk 0 (v := _) rfl (Or.inl ⟨by kernel_rfl, ?hv⟩) hH0 ?_
          case hv => intro w' hS; obtain ⟨z0, z1⟩ := HCL.out w' hS.1; have z2 := HP2.out w' hS.2; have z3 := HAT2.out w'; have z4 := HWK.out; go_simp; try exact rfl
          simp only [Act.put, qa]
          apply tk 1 (v := _) rfl (Or.inl ⟨by kernel_rfl, ?hv⟩) hH0 ?_
          case hv => intro w' hS; obtain ⟨z0, z1⟩ := HCL.out w' hS.1; have z2 := HP2.out w' hS.2; have z3 := HAT2.out w'; have z4 := HWK.out; go_simp; try exact rfl
          simp only [Act.put, qa]
          apply tk 2 (v := _) rfl (Or.inl ⟨by kernel_rfl, ?hv⟩) hH0 ?_
          case hv => intro w' hS; obtain ⟨z0, z1⟩ := HCL.out w' hS.1; have z2 := HP2.out w' hS.2; have z3 := HAT2.out w'; have z4 := HWK.out; go_simp; try exact rfl
          simp only [Act.put, qa]
          apply tk 3 (v := _) rfl (Or.inl ⟨by kernel_rfl, ?hv⟩) hH0 ?_
          case hv => intro w' hS; obtain ⟨z0, z1⟩ := HCL.out w' hS.1; have z2 := HP2.out w' hS.2; have z3 := HAT2.out w'; have z4 := HWK.out; go_simp; try exact rfl
          simp only [Act.put, qa]
          apply tk 4 (v := _) rfl (Or.inl ⟨by kernel_rfl, ?hv⟩) hH0 ?_
          case hv => intro w' hS; obtain ⟨z0, z1⟩ := HCL.out w' hS.1; have z2 := HP2.out w' hS.2; have z3 := HAT2.out w'; have z4 := HWK.out; go_simp; try exact rfl
          simp only [Act.put, qa]
          apply tk 5 (v := _) rfl (Or.inl ⟨by kernel_rfl, ?hv⟩) hH0 ?_
          case hv => intro w' hS; obtain ⟨z0, z1⟩ := HCL.out w' hS.1; have z2 := HP2.out w' hS.2; have z3 := HAT2.out w'; have z4 := HWK.out; go_simp; try exact rfl
          simp only [Act.put, qa]
          apply tk 6 (v := _) rfl (Or.inl ⟨by kernel_rfl, ?hv⟩) hH0 ?_
          case hv => intro w' hS; obtain ⟨z0, z1⟩ := HCL.out w' hS.1; have z2 := HP2.out w' hS.2; have z3 := HAT2.out w'; have z4 := HWK.out; go_simp; try exact rfl
          simp only [Act.put, qa]
          apply tk 7 (v := _) rfl (Or.inl ⟨by kernel_rfl, ?hv⟩) hH0 ?_
          case hv => intro w' hS; obtain ⟨z0, z1⟩ := HCL.out w' hS.1; have z2 := HP2.out w' hS.2; have z3 := HAT2.out w'; have z4 := HWK.out; go_simp; try exact rfl
          simp only [Act.put, qa]
          apply tk 8 (v := _) rfl (Or.inl ⟨by kernel_rfl, ?hv⟩) hH0 ?_
          case hv => intro w' hS; obtain ⟨z0, z1⟩ := HCL.out w' hS.1; have z2 := HP2.out w' hS.2; have z3 := HAT2.out w'; have z4 := HWK.out; go_simp; try exact rfl
          simp only [Act.put, qa]
          apply tk 9 (v := _) rfl (Or.inl ⟨by kernel_rfl, ?hv⟩) hH0 ?_
          case hv => intro w' hS; obtain ⟨z0, z1⟩ := HCL.out w' hS.1; have z2 := HP2.out w' hS.2; have z3 := HAT2.out w'; have z4 := HWK.out; go_simp; try exact rfl
          simp only [Act.put, qa]
          apply tk 10 (v := _) rfl (Or.inl ⟨by kernel_rfl, ?hv⟩) hH0 ?_
          case hv => intro w' hS; obtain ⟨z0, z1⟩ := HCL.out w' hS.1; have z2 := HP2.out w' hS.2; have z3 := HAT2.out w'; have z4 := HWK.out; go_simp; try exact rfl
          simp only [Act.put, qa]
          apply tk 11 (v := _) rfl (Or.inl ⟨by kernel_rfl, ?hv⟩) hH0 ?_
          case hv => intro w' hS; obtain ⟨z0, z1⟩ := HCL.out w' hS.1; have z2 := HP2.out w' hS.2; have z3 := HAT2.out w'; have z4 := HWK.out; go_simp; try exact rfl
          simp only [Act.put, qa]
          apply tk 12 (v := _) rfl (Or.inl ⟨by kernel_rfl, ?hv⟩) hH0 ?_
          case hv => intro w' hS; obtain ⟨z0, z1⟩ := HCL.out w' hS.1; have z2 := HP2.out w' hS.2; have z3 := HAT2.out w'; have z4 := HWK.out; go_simp; try exact rfl
          simp only [Act.put, qa]
          refine wpAnyH_done (by kernel_rfl) ?_ _
          refine NoPanic.normal ?_
          have HF := Lib.hid hS0
          clear hS0
          go_wp2_with fail
          go_meet
          case rel => exact ⟨rfl, HF.out.1, HF.out.2, HO9D.out⟩
        · have hB : B7 = false := by rw [EB7.out]; exact decide_eq_false (fun h => hle h.2)
          subst hB
          refine wp_region_noPanic ?_
          refine wp_region_held_drew (S := (fun v => Has v G 139 CR.toArray ∧ Below w.heap.size w v)) (by kernel_rfl) hS0 (fun hH0 => ?_)
          apply tk 0 (v := _) rfl (Or.inl ⟨by kernel_rfl, ?hv⟩) hH0 ?_
          case hv => intro w' hS; obtain ⟨z0, z1⟩ := HCL.out w' hS.1; have z2 := HP2.out w' hS.2; have z3 := HAT2.out w'; have z4 := HWK.out; go_simp; try exact rfl
          simp only [Act.put, qa]
          apply tk 1 (v := _) rfl (Or.inl ⟨by kernel_rfl, ?hv⟩) hH0 ?_
          case hv => intro w' hS; obtain ⟨z0, z1⟩ := HCL.out w' hS.1; have z2 := HP2.out w' hS.2; have z3 := HAT2.out w'; have z4 := HWK.out; go_simp; try exact rfl
          simp only [Act.put, qa]
          apply tk 2 (v := _) rfl (Or.inl ⟨by kernel_rfl, ?hv⟩) hH0 ?_
          case hv => intro w' hS; obtain ⟨z0, z1⟩ := HCL.out w' hS.1; have z2 := HP2.out w' hS.2; have z3 := HAT2.out w'; have z4 := HWK.out; go_simp; try exact rfl
          simp only [Act.put, qa]
          apply tk 3 (v := _) rfl (Or.inl ⟨by kernel_rfl, ?hv⟩) hH0 ?_
          case hv => intro w' hS; obtain ⟨z0, z1⟩ := HCL.out w' hS.1; have z2 := HP2.out w' hS.2; have z3 := HAT2.out w'; have z4 := HWK.out; go_simp; try exact rfl
          simp only [Act.put, qa]
          apply tk 4 (v := _) rfl (Or.inl ⟨by kernel_rfl, ?hv⟩) hH0 ?_
          case hv => intro w' hS; obtain ⟨z0, z1⟩ := HCL.out w' hS.1; have z2 := HP2.out w' hS.2; have z3 := HAT2.out w'; have z4 := HWK.out; go_simp; try exact rfl
          simp only [Act.put, qa]
          apply tk 5 (v := _) rfl (Or.inl ⟨by kernel_rfl, ?hv⟩) hH0 ?_
          case hv => intro w' hS; obtain ⟨z0, z1⟩ := HCL.out w' hS.1; have z2 := HP2.out w' hS.2; have z3 := HAT2.out w'; have z4 := HWK.out; go_simp; try exact rfl
          simp only [Act.put, qa]
          apply tk 6 (v := _) rfl (Or.inl ⟨by kernel_rfl, ?hv⟩) hH0 ?_
          case hv => intro w' hS; obtain ⟨z0, z1⟩ := HCL.out w' hS.1; have z2 := HP2.out w' hS.2; have z3 := HAT2.out w'; have z4 := HWK.out; go_simp; try exact rfl
          simp only [Act.put, qa]
          apply tk 7 (v := _) rfl (Or.inl ⟨by kernel_rfl, ?hv⟩) hH0 ?_
          case hv => intro w' hS; obtain ⟨z0, z1⟩ := HCL.out w' hS.1; have z2 := HP2.out w' hS.2; have z3 := HAT2.out w'; have z4 := HWK.out; go_simp; try exact rfl
          simp only [Act.put, qa]
          apply tk 8 (v := _) rfl (Or.inl ⟨by kernel_rfl, ?hv⟩) hH0 ?_
          case hv => intro w' hS; obtain ⟨z0, z1⟩ := HCL.out w' hS.1; have z2 := HP2.out w' hS.2; have z3 := HAT2.out w'; have z4 := HWK.out; go_simp; try exact rfl
          simp only [Act.put, qa]
          apply tk 9 (v := _) rfl (Or.inl ⟨by kernel_rfl, ?hv⟩) hH0 ?_
          case hv => intro w' hS; obtain ⟨z0, z1⟩ := HCL.out w' hS.1; have z2 := HP2.out w' hS.2; have z3 := HAT2.out w'; have z4 := HWK.out; go_simp; try exact rfl
          simp only [Act.put, qa]
          apply tk 10 (v := _) rfl (Or.inl ⟨by kernel_rfl, ?hv⟩) hH0 ?_
          case hv => intro w' hS; obtain ⟨z0, z1⟩ := HCL.out w' hS.1; have z2 := HP2.out w' hS.2; have z3 := HAT2.out w'; have z4 := HWK.out; go_simp; try exact rfl
          simp only [Act.put, qa]
          apply tk 11 (v := _) rfl (Or.inl ⟨by kernel_rfl, ?hv⟩) hH0 ?_
          case hv => intro w' hS; obtain ⟨z0, z1⟩ := HCL.out w' hS.1; have z2 := HP2.out w' hS.2; have z3 := HAT2.out w'; have z4 := HWK.out; go_simp; try exact rfl
          simp only [Act.put, qa]
          apply tk 12 (v := _) rfl (Or.inl ⟨by kernel_rfl, ?hv⟩) hH0 ?_
          case hv => intro w' hS; obtain ⟨z0, z1⟩ := HCL.out w' hS.1; have z2 := HP2.out w' hS.2; have z3 := HAT2.out w'; have z4 := HWK.out; go_simp; try exact rfl
          simp only [Act.put, qa]
          refine wpAnyH_done (by kernel_rfl) ?_ _
          refine NoPanic.normal ?_
          have HF := Lib.hid hS0
          clear hS0
          go_wp2_with fail
          go_meet
          case rel => exact ⟨rfl, HF.out.1, HF.out.2, HO9D.out⟩
      · have hB : B7 = false := by rw [EB7.out]; exact decide_eq_false (fun h => hk0 h.1)
        subst hB
        obtain rfl : k = 0 := by omega
        refine wp_region_noPanic ?_
        refine wp_region_held_drew (S := (fun v => Has v G 139 CR.toArray ∧ Below w.heap.size w v)) (by kernel_rfl) hS0 (fun hH0 => ?_)
        apply tk 0 (v := _) rfl (Or.inl ⟨by kernel_rfl, ?hv⟩) hH0 ?_
        case hv => intro w' hS; obtain ⟨z0, z1⟩ := HCL.out w' hS.1; go_simp; try exact rfl
        simp only [Act.put, qa]
        apply tk 1 (v := _) rfl (Or.inl ⟨by kernel_rfl, ?hv⟩) hH0 ?_
        case hv => intro w' hS; obtain ⟨z0, z1⟩ := HCL.out w' hS.1; go_simp; try exact rfl
        simp only [Act.put, qa]
        apply tk 2 (v := _) rfl (Or.inl ⟨by kernel_rfl, ?hv⟩) hH0 ?_
        case hv => intro w' hS; obtain ⟨z0, z1⟩ := HCL.out w' hS.1; go_simp; try exact rfl
        simp only [Act.put, qa]
        refine tk 3 (v := undef) rfl (Or.inr ⟨by kernel_rfl, rfl⟩) hH0 ?_
        simp only [Act.put, qa]
        refine tk 4 (v := undef) rfl (Or.inr ⟨by kernel_rfl, rfl⟩) hH0 ?_
        simp only [Act.put, qa]
        refine tk 5 (v := undef) rfl (Or.inr ⟨by kernel_rfl, rfl⟩) hH0 ?_
        simp only [Act.put, qa]
        refine tk 6 (v := undef) rfl (Or.inr ⟨by kernel_rfl, rfl⟩) hH0 ?_
        simp only [Act.put, qa]
        refine tk 7 (v := undef) rfl (Or.inr ⟨by kernel_rfl, rfl⟩) hH0 ?_
        simp only [Act.put, qa]
        refine tk 8 (v := undef) rfl (Or.inr ⟨by kernel_rfl, rfl⟩) hH0 ?_
        simp only [Act.put, qa]
        refine tk 9 (v := undef) rfl (Or.inr ⟨by kernel_rfl, rfl⟩) hH0 ?_
        simp only [Act.put, qa]
        refine tk 10 (v := undef) rfl (Or.inr ⟨by kernel_rfl, rfl⟩) hH0 ?_
        simp only [Act.put, qa]
        refine tk 11 (v := undef) rfl (Or.inr ⟨by kernel_rfl, rfl⟩) hH0 ?_
        simp only [Act.put, qa]
        apply tk 12 (v := _) rfl (Or.inl ⟨by kernel_rfl, ?hv⟩) hH0 ?_
        case hv => intro w' hS; obtain ⟨z0, z1⟩ := HCL.out w' hS.1; go_simp; try exact rfl
        simp only [Act.put, qa]
        refine wpAnyH_done (by kernel_rfl) ?_ _
        refine NoPanic.normal ?_
        have HF := Lib.hid hS0
        clear hS0
        go_wp2_with fail
        go_meet
        case rel => exact ⟨rfl, HF.out.1, HF.out.2, HO9D.out⟩
     case rest =>
     obtain ⟨W10, hW10⟩ : ∃ y, y = wc := ⟨_, rfl⟩
     subst hW10
     obtain ⟨rfl, h10, hbel10, hown10⟩ := hcut
     obtain ⟨c0, c1⟩ := HCL.out W10 h10
     have H10 := Lib.hid (And.intro h10 hbel10)
     have HO10 := Lib.hid hown10
     have HK := Lib.hid hlt
     clear h10 hbel10 hown10 HO9 H9
     cases B7 with
     | true =>
      have HE := Lib.hid (show tvAt rs n = .error 22 from tvAt_err (by rw [HNX.out, HRE.out]; rfl) n HK.out)
      go_wp2_with fail
      go_ret2
      rw [HR.out, HE.out]
      exact ⟨rfl, H10.out.2⟩
     | false =>
      by_cases hlong : 65536 < vl
      · have hlong' : (65536 : Int) < (vl : Int) := by omega
        have HE := Lib.hid (show tvAt rs n = .error 3 from tvAt_err (by rw [HNX.out, HRE.out]; simp [hlong]) n HK.out)
        go_wp2_with fail
        go_ret2
        rw [HR.out, HE.out]
        exact ⟨rfl, H10.out.2⟩
      · have hlong' : ¬ (65536 : Int) < (vl : Int) := by omega
        have HN := Lib.hid (show tvAt rs (k + 1) = .ok (bs ++ recB x.r) by rw [HNX.out, HRE.out]; simp [hlong])
        have HBL := Lib.hid (show bs.length ≤ 17000000 by have := tvAt_len 65554 (Nat.le_refl _) k bs HTV.out; omega)
        have l1 := (szB_len vt).1
        have l2 := (szB_len vl).1
        have HLN1 := Lib.hid (show bs.length + (szB vt).length ≤ 100000000 by have := HBL.out; omega)
        have HLN2 := Lib.hid (show bs.length + (szB vt).length + (szB vl).length ≤ 100000000 by have := HBL.out; omega)
        have HLN3 := Lib.hid (show bs.length + (szB vt).length + (szB vl).length + x.v.length ≤ 100000000 by have := HBL.out; have := HVL.out; omega)
        have HWV := Lib.hid (show IntKind.u64.wrap (vl : Int) = (vl : Int) by rw [IntKind.wrap_u64]; omega)
        have HT64 := Lib.hid hvt64
        have HL64 := Lib.hid (show vl < 18446744073709551616 by omega)
        have HFI := Lib.hid (show ∀ (v : World) (oa : Option Addr) (oc : Nat), v.ownsRow w.heap.size 5 1 (.slice oa (bs.length + (szB vt).length + (szB vl).length + x.v.length) oc) (bs.length + (szB vt).length + (szB vl).length + x.v.length) (bcells bs ++ bcells (szB vt) ++ bcells (szB vl) ++ bcells x.v) → Below w.heap.size w v → BigW w.heap.size w (bs ++ recB x.r) (.slice oa (bs.length + (szB vt).length + (szB vl).length + x.v.length) oc) v from fun v oa oc h1 h2 => by
          have e : bs ++ recB x.r = bs ++ szB vt ++ szB vl ++ x.v := by
           unfold recB
           rw [show x.r.t = vt from EVT.out.symm, show x.r.v = x.v from rfl, ← HVL.out]
           simp [List.append_assoc]
          have el : bs.length + (szB vt).length + (szB vl).length + x.v.length = (bs ++ recB x.r).length := by
           rw [e]; simp [List.length_append, Nat.add_assoc]
          rw [← bcells_cat, ← bcells_cat, ← bcells_cat, ← e, el] at h1
          rw [el]
          exact ⟨⟨oa, oc, rfl, h1⟩, h2⟩)
        clear l1 l2 hvt64
        go_upto_region 11 with (fail)
        have hS0 : Has W10.drew G 139 CR.toArray ∧ Below w.heap.size w W10.drew := ⟨H10.out.1, below_drew H10.out.2⟩
        refine wp_region_noPanic ?_
        refine wp_region_held_drew (S := (fun v => Has v G 139 CR.toArray ∧ Below w.heap.size w v)) (by kernel_rfl) hS0 (fun hH0 => ?_)
        apply tk 0 (v := _) rfl (Or.inl ⟨by kernel_rfl, ?hv⟩) hH0 ?_
        case hv => intro w' hS; obtain ⟨z0, z1⟩ := HCL.out w' hS.1; have z2 := HWV.out; go_simp; try exact rfl
        simp only [Act.put, qa]
        apply tk 1 (v := _) rfl (Or.inl ⟨by kernel_rfl, ?hv⟩) hH0 ?_
        case hv => intro w' hS; obtain ⟨z0, z1⟩ := HCL.out w' hS.1; have z2 := HWV.out; go_simp; try exact rfl
        simp only [Act.put, qa]
        apply tk 2 (v := _) rfl (Or.inl ⟨by kernel_rfl, ?hv⟩) hH0 ?_
        case hv => intro w' hS; obtain ⟨z0, z1⟩ := HCL.out w' hS.1; have z2 := HWV.out; go_simp; try exact rfl
        simp only [Act.put, qa]
        apply tk 5 (v := _) rfl (Or.inl ⟨by kernel_rfl, ?hv⟩) hH0 ?_
        case hv => intro w' hS; obtain ⟨z0, z1⟩ := HCL.out w' hS.1; have z2 := HWV.out; go_simp; try exact rfl
        simp only [Act.put, qa]
        apply tk 6 (v := _) rfl (Or.inl ⟨by kernel_rfl, ?hv⟩) hH0 ?_
        case hv => intro w' hS; obtain ⟨z0, z1⟩ := HCL.out w' hS.1; have z2 := HWV.out; go_simp; try exact rfl
        simp only [Act.put, qa]
        apply tk 7 (v := _) rfl (Or.inl ⟨by kernel_rfl, ?hv⟩) hH0 ?_
        case hv => intro w' hS; obtain ⟨z0, z1⟩ := HCL.out w' hS.1; have z2 := HWV.out; go_simp; try exact rfl
        simp only [Act.put, qa]
        apply tk 8 (v := _) rfl (Or.inl ⟨by kernel_rfl, ?hv⟩) hH0 ?_
        case hv => intro w' hS; obtain ⟨z0, z1⟩ := HCL.out w' hS.1; have z2 := HWV.out; go_simp; try exact rfl
        simp only [Act.put, qa]
        apply tk 11 (v := _) rfl (Or.inl ⟨by kernel_rfl, ?hv⟩) hH0 ?_
        case hv => intro w' hS; obtain ⟨z0, z1⟩ := HCL.out w' hS.1; have z2 := HWV.out; go_simp; try exact rfl
        simp only [Act.put, qa]
        apply tk 12 (v := _) rfl (Or.inl ⟨by kernel_rfl, ?hv⟩) hH0 ?_
        case hv => intro w' hS; obtain ⟨z0, z1⟩ := HCL.out w' hS.1; have z2 := HWV.out; go_simp; try exact rfl
        simp only [Act.put, qa]
        refine wpAnyH_ready (rs := [3]) (by kernel_rfl) (by simp) ?_
        refine AllReadyH.cons rfl (fun KK hKK => ?_) AllReadyH.nil
        go_simp
        refine (size_is _ vt HT64.out).mono ?_
        rintro _ x3 ⟨v3, rfl, hbw3⟩
        obtain ⟨⟨ax3, cx3, rfl, ho3⟩, hb3⟩ := hbw3
        have hsx3 : Has x3 G 139 CR.toArray ∧ Below w.heap.size w x3 := ⟨hS0.1.below hb3 hS0.1.lt, hS0.2.trans (hb3.mono hS0.2.size)⟩
        replace hb3 := below_undrew hb3
        have HO3 := Lib.hid (own_kept HO10.out (Kept.of_below (S := fun _ => False) hb3) (fun _ _ e => e))
        have HY3 := Lib.hid (own_bytes ho3 rfl (szB_lt _) (Nat.le_refl _))
        clear ho3 hb3
        refine Shut.out hKK _ _ hsx3 (fun hH1 => ?_)
        clear hKK KK
        try simp only [Act.put, qa]
        refine wpAnyH_ready (rs := [4]) (by kernel_rfl) (by simp) ?_
        refine AllReadyH.cons rfl (fun KK hKK => ?_) AllReadyH.nil
        refine step_append_bytes rfl (.tmp 34) (.tmp 37) rfl w.heap.size _ (bs.length) (bcells bs) rfl HO3.out _ _ (szB vt) rfl HY3.out HLN1.out hsx3.2.size ?_
        intro oax4 ocx4 x4 hown4 hgr4
        have hsx4 : Has x4 G 139 CR.toArray ∧ Below w.heap.size w x4 := ⟨hsx3.1.grown hgr4 (fun e => own_has_ne HO3.out hsx3.1 (by decide) G e.symm rfl), hsx3.2.grown hgr4 hsx3.2.size (own_blk HO3.out)⟩
        have HO4 := Lib.hid hown4
        clear hown4 hgr4
        refine Shut.out hKK _ _ hsx4 (fun hH2 => ?_)
        clear hKK KK
        try simp only [Act.put, qa]
        refine wpAnyH_ready (rs := [9]) (by kernel_rfl) (by simp) ?_
        refine AllReadyH.cons rfl (fun KK hKK => ?_) AllReadyH.nil
        go_simp
        refine (size_is _ vl HL64.out).mono ?_
        rintro _ x9 ⟨v3, rfl, hbw3⟩
        obtain ⟨⟨ax9, cx9, rfl, ho3⟩, hb3⟩ := hbw3
        have hsx9 : Has x9 G 139 CR.toArray ∧ Below w.heap.size w x9 := ⟨hsx4.1.below hb3 hsx4.1.lt, hsx4.2.trans (hb3.mono hsx4.2.size)⟩
        have HO9 := Lib.hid (own_kept HO4.out (Kept.of_below (S := fun _ => False) hb3) (fun _ _ e => e))
        have HY9 := Lib.hid (own_bytes ho3 rfl (szB_lt _) (Nat.le_refl _))
        clear ho3 hb3
        refine Shut.out hKK _ _ hsx9 (fun hH3 => ?_)
        clear hKK KK
        try simp only [Act.put, qa]
        refine wpAnyH_ready (rs := [10]) (by kernel_rfl) (by simp) ?_
        refine AllReadyH.cons rfl (fun KK hKK => ?_) AllReadyH.nil
        refine step_append_bytes rfl (.tmp 38) (.tmp 43) rfl w.heap.size _ (bs.length + (szB vt).length) (bcells bs ++ bcells (szB vt)) rfl HO9.out _ _ (szB vl) rfl HY9.out HLN2.out hsx9.2.size ?_
        intro oax10 ocx10 x10 hown4 hgr4
        have hsx10 : Has x10 G 139 CR.toArray ∧ Below w.heap.size w x10 := ⟨hsx9.1.grown hgr4 (fun e => own_has_ne HO9.out hsx9.1 (by decide) G e.symm rfl), hsx9.2.grown hgr4 hsx9.2.size (own_blk HO9.out)⟩
        have HO11 := Lib.hid hown4
        clear hown4 hgr4
        refine Shut.out hKK _ _ hsx10 (fun hH4 => ?_)
        clear hKK KK
        try simp only [Act.put, qa]
        refine wpAnyH_ready (rs := [13]) (by kernel_rfl) (by simp) ?_
        refine AllReadyH.cons rfl (fun KK hKK => ?_) AllReadyH.nil
        refine step_append_bytes rfl (.tmp 44) (.tmp 46) rfl w.heap.size _ (bs.length + (szB vt).length + (szB vl).length) (bcells bs ++ bcells (szB vt) ++ bcells (szB vl)) rfl HO11.out _ _ x.v rfl (HBV.out x10 hsx10.2) HLN3.out hsx10.2.size ?_
        intro oax13 ocx13 x13 hown4 hgr4
        have hsx13 : Has x13 G 139 CR.toArray ∧ Below w.heap.size w x13 := ⟨hsx10.1.grown hgr4 (fun e => own_has_ne HO11.out hsx10.1 (by decide) G e.symm rfl), hsx10.2.grown hgr4 hsx10.2.size (own_blk HO11.out)⟩
        have HO14 := Lib.hid hown4
        clear hown4 hgr4
        refine Shut.out hKK _ _ hsx13 (fun hH5 => ?_)
        clear hKK KK
        try simp only [Act.put, qa]
        apply tk 14 (v := _) rfl (Or.inl ⟨by kernel_rfl, ?hv⟩) hH5 ?_
        case hv => intro w' hS; obtain ⟨z0, z1⟩ := HCL.out w' hS.1; have z2 := HWV.out; go_simp; try exact rfl
        simp only [Act.put, qa]
        refine wpAnyH_done (by kernel_rfl) ?_ _
        refine NoPanic.normal ?_
        have HFN := Lib.hid (HFI.out x13 oax13 ocx13 HO14.out hsx13.2)
        have HK2 := Lib.hid (show k + 1 ≤ n by have := HK.out; omega)
        clear hS0 hsx3 hsx4 hsx9 hsx10 hsx13
        go_wp2_with fail
        go_roundw
        case rel => exact ⟨k + 1, bs ++ recB x.r, by go_num, HK2.out, HN.out, HFN.out⟩
        case measure => simp [intOf]; omega
   · obtain rfl : k = n := by omega
     have hlt' : ¬ (k : Int) < (k : Int) := by omega
     go_wp2
     go_ret2
     rw [HR.out, HTV.out]
     exact ⟨_, rfl, HBW.out⟩
end Go.Proofs.YtknfbccbdiidjaaGreatDoor

