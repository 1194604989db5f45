/- The walk of the reference's Encode. -/
import Derived.Test.YtniakgoefkbkhaaGreatDoorWs
import Derived.Test.YtniakgoefkbkhaaGreatDoorWLeq
import Derived.BigQuiet
namespace Go.Proofs.YtniakgoefkbkhaaGreatDoor
set_option linter.unusedVariables false
set_option linter.unusedSimpArgs false
open Go.ChangeShapes Go.WideShapes Go.ChangeAt Go.RowKit Go.Maps

def wrCell (b o t : Nat) (w : World) : Prop := ∀ v : World, Below w.heap.size w v → v.cell? ⟨b, o, none⟩ = some (.int .u64 (t : Int))
set_option maxRecDepth 100000 in
set_option maxHeartbeats 4000000 in
theorem rzEnc_is (w : World) (A : Option Addr) (n c : Nat) (xs : List RecM) (hxs : RecsAt w A n xs) (hn : n ≤ 9223372036854775807) :
   Calls Tryz.prog 43 #[.slice A n c] w (TvP w (tvEnc (xs.map RecM.r))) := by
 have hlen := hxs.row.len
 by_cases hbig : 256 < n
 · have hb' : (256 : Int) < (n : Int) := by omega
   have HR := Lib.hid (show tvEnc (xs.map RecM.r) = .error 4 by unfold tvEnc; rw [List.length_map, hlen, if_pos hbig])
   clear hbig hxs hlen
   go_enter Tryz.func43, Tryz.ntmps43
   go_wp2_with fail
   go_ret2
   rw [HR.out]
   exact ⟨rfl, Below.refl _ _⟩
 have hb' : ¬ (256 : Int) < (n : Int) := by omega
 have HR0 := Lib.hid (show tvEnc (xs.map RecM.r) = tvAt (xs.map RecM.r) n by unfold tvEnc; rw [List.length_map, hlen, if_neg hbig])
 obtain ⟨rs, hrs⟩ : ∃ rs, rs = xs.map RecM.r := ⟨_, rfl⟩
 have HR := Lib.hid (show tvEnc (xs.map RecM.r) = tvAt rs n by rw [hrs]; exact HR0.out)
 have HXS := Lib.hid hxs
 have ERS := Lib.hid hrs
 have HN256 := Lib.hid (show n ≤ 256 by omega)
 have HST := Lib.hid (show BigW w.heap.size w [] (.slice (some ⟨w.heap.size, 0, none⟩) 0 0) (w.alloc (.cells #[] 5)) from ⟨⟨_, _, rfl, own_empty (Nat.le_refl _) _ _⟩, (Below.refl _ _).alloc (Nat.le_refl _) _⟩)
 clear hxs hrs hbig HR0 hlen
 go_enter Tryz.func43, Tryz.ntmps43
 go_wp2_with fail
 go_loopw [4, 12] (fun bv iv wr => ∃ (k : Nat) (bs : List Nat), iv = .int .i64 (k : Int) ∧ k ≤ n ∧ tvAt rs k = .ok bs ∧ BigW w.heap.size w bs bv wr) (fun _ iv _ => n - (intOf iv).toNat)
 case atStart => exact ⟨0, [], rfl, Nat.zero_le _, rfl, HST.out⟩
 case round =>
   clear HST
   obtain ⟨k, bs, rfl, hk, htv, hbw⟩ := hrel
   have HTV := Lib.hid htv
   have HBW := Lib.hid hbw
   clear htv hbw
   by_cases hlt : k < n
   rotate_left
   · obtain rfl : k = n := by omega
     have hlt' : ¬ (k : Int) < (k : Int) := by omega
     go_wp2
     go_ret2
     rw [HR.out, HTV.out]
     exact ⟨_, rfl, HBW.out⟩
   have hlt' : (k : Int) < (n : Int) := by omega
   obtain ⟨x, hx⟩ : ∃ x, xs[k]? = some x := ⟨_, List.getElem?_eq_getElem (by rw [HXS.out.row.len]; exact hlt)⟩
   have hxok := HXS.out.ok x (List.mem_of_getElem? hx)
   obtain ⟨sb, so, hA1, hA2, hr⟩ := HXS.out.row.at_ (by omega)
   subst hA1
   obtain ⟨vt, hvt⟩ : ∃ z, z = x.t := ⟨_, rfl⟩
   obtain ⟨va, hva⟩ : ∃ z, z = x.a := ⟨_, rfl⟩
   obtain ⟨vl, hvl⟩ : ∃ z, z = x.v.length := ⟨_, rfl⟩
   obtain ⟨vc, hvc⟩ : ∃ z, z = x.c := ⟨_, rfl⟩
   obtain ⟨p, hp⟩ : ∃ z, z = so + k * 2 := ⟨_, rfl⟩
   have HCL := Lib.hid (show ∀ v : World, Below w.heap.size w v → v.cell? ⟨sb, p, none⟩ = some (.int .u64 (vt : Int)) ∧ v.cell? ⟨sb, p + 1, none⟩ = some (.slice va vl vc) from fun v hv => by
     have h := rangeAt_kept (hr k x hx) (Kept.of_below (S := fun _ => False) hv) (fun h => h)
     rw [hvt, hva, hvl, hvc, hp]
     exact ⟨h 0 _ rfl, h 1 _ rfl⟩)
   have hat := at_rrec sb so n c k hlt
   rw [← hp] at hat
   have hrx : rs[k]? = some x.r := by rw [ERS.out, List.getElem?_map, hx]; rfl
   have HNX := Lib.hid (tvAt_succ HTV.out hrx)
   obtain ⟨tp, htp⟩ : ∃ z, z = (rs[k - 1]?.map (·.t)).getD 0 := ⟨_, rfl⟩
   have HRE := Lib.hid (show recE rs k x.r = if 0 < k ∧ vt ≤ tp then 22 else if 65536 < vl then 3 else 0 by
     unfold recE
     rw [← htp, show x.r.t = vt from hvt.symm, show x.r.v.length = vl from hvl.symm])
   have HPREV := Lib.hid (show 0 < k → wrCell sb (so + (k - 1) * 2) tp w from fun h0 v hv => by
     obtain ⟨y, hy⟩ : ∃ y, xs[k - 1]? = some y := ⟨_, List.getElem?_eq_getElem (by rw [HXS.out.row.len]; omega)⟩
     have e : tp = y.t := by rw [htp, ERS.out, List.getElem?_map, hy]; rfl
     rw [e]
     exact rangeAt_kept (hr (k - 1) y hy) (Kept.of_below (S := fun _ => False) hv) (fun h => h) 0 _ rfl)
   have HBV := Lib.hid (show ∀ v : World, Below w.heap.size w v → Bytes v v.heap.size (.slice va vl vc) x.v from fun v hv => by rw [hva, hvl, hvc]; exact hxok.b.alive hv hv.size)
   have HVT64 := Lib.hid (show vt < 18446744073709551616 by rw [hvt]; exact hxok.t)
   have hvl64 : vl ≤ 9223372036854775807 := by rw [hvl]; exact hxok.l
   have HVL := Lib.hid hvl
   have EVT := Lib.hid hvt
   obtain ⟨⟨oa, oc, hbv, hown⟩, hbel⟩ := HBW.out
   subst hbv
   have HON := Lib.hid (show wr.drew.ownsRow w.heap.size 5 1 (.slice oa bs.length oc) bs.length (bcells bs) from own_kept hown (Kept.of_below (S := fun _ => False) (below_drew (Below.refl wr.heap.size wr))) (fun _ _ e => e))
   have HBN := Lib.hid (show Below w.heap.size w wr.drew from below_drew hbel)
   have HBE := Lib.hid hbel
   have HK := Lib.hid hlt
   clear hvt hva hvl hvc hp hrx htp hx hxok hr hown hbel HBW hA2
   by_cases hk0 : 0 < k
   · have hk0' : (k : Int) > 0 := by omega
     have HCP := Lib.hid (HPREV.out hk0)
     obtain ⟨km, hkm⟩ : ∃ z, z = k - 1 := ⟨_, rfl⟩
     rw [← hkm] at HCP
     have hatp := at_rrec sb so n c km (by omega)
     obtain ⟨pp, hpp⟩ : ∃ z, z = so + km * 2 := ⟨_, rfl⟩
     rw [← hpp] at HCP hatp
     have HWK := Lib.hid (show IntKind.i64.wrap ((k : Int) - 1) = (km : Int) by rw [IntKind.wrap_i64]; omega)
     clear hpp hkm
     by_cases hle : vt ≤ tp
     · have hle' : (tp : Int) ≥ (vt : Int) := by omega
       have hre : recE rs k x.r = 22 := by rw [HRE.out, if_pos ⟨hk0, hle⟩]
       have HE := Lib.hid (show tvAt rs n = .error 22 from tvAt_err (by rw [HNX.out, hre]; rfl) n HK.out)
       clear hle hre
       go_upto_region 7 with (fail)
       have hS0 := HBN.out
       refine wp_region_noPanic ?_
       refine wp_region_held_drew (S := (fun v => Below w.heap.size w v)) (by kernel_rfl) hS0 (fun hH0 => ?_)
       apply tk 0 (v := _) rfl (Or.inl ⟨by kernel_rfl, ?hv⟩) hH0 ?_
       case hv => intro w' hS; obtain ⟨z0, _⟩ := HCL.out w' hS; have z1 := HCP.out w' hS; have z2 := HWK.out; go_simp; try exact rfl
       simp only [Act.put, qa]
       apply tk 1 (v := _) rfl (Or.inl ⟨by kernel_rfl, ?hv⟩) hH0 ?_
       case hv => intro w' hS; obtain ⟨z0, _⟩ := HCL.out w' hS; have z1 := HCP.out w' hS; have z2 := HWK.out; go_simp; try exact rfl
       simp only [Act.put, qa]
       apply tk 2 (v := _) rfl (Or.inl ⟨by kernel_rfl, ?hv⟩) hH0 ?_
       case hv => intro w' hS; obtain ⟨z0, _⟩ := HCL.out w' hS; have z1 := HCP.out w' hS; have z2 := HWK.out; go_simp; try exact rfl
       simp only [Act.put, qa]
       apply tk 3 (v := _) rfl (Or.inl ⟨by kernel_rfl, ?hv⟩) hH0 ?_
       case hv => intro w' hS; obtain ⟨z0, _⟩ := HCL.out w' hS; have z1 := HCP.out w' hS; have z2 := HWK.out; go_simp; try exact rfl
       simp only [Act.put, qa]
       apply tk 4 (v := _) rfl (Or.inl ⟨by kernel_rfl, ?hv⟩) hH0 ?_
       case hv => intro w' hS; obtain ⟨z0, _⟩ := HCL.out w' hS; have z1 := HCP.out w' hS; have z2 := HWK.out; go_simp; try exact rfl
       simp only [Act.put, qa]
       apply tk 5 (v := _) rfl (Or.inl ⟨by kernel_rfl, ?hv⟩) hH0 ?_
       case hv => intro w' hS; obtain ⟨z0, _⟩ := HCL.out w' hS; have z1 := HCP.out w' hS; have z2 := HWK.out; go_simp; try exact rfl
       simp only [Act.put, qa]
       apply tk 6 (v := _) rfl (Or.inl ⟨by kernel_rfl, ?hv⟩) hH0 ?_
       case hv => intro w' hS; obtain ⟨z0, _⟩ := HCL.out w' hS; have z1 := HCP.out w' hS; have z2 := HWK.out; go_simp; try exact rfl
       simp only [Act.put, qa]
       apply tk 7 (v := _) rfl (Or.inl ⟨by kernel_rfl, ?hv⟩) hH0 ?_
       case hv => intro w' hS; obtain ⟨z0, _⟩ := HCL.out w' hS; have z1 := HCP.out w' hS; have z2 := HWK.out; go_simp; try exact rfl
       simp only [Act.put, qa]
       apply tk 8 (v := _) rfl (Or.inl ⟨by kernel_rfl, ?hv⟩) hH0 ?_
       case hv => intro w' hS; obtain ⟨z0, _⟩ := HCL.out w' hS; have z1 := HCP.out w' hS; have z2 := HWK.out; go_simp; try exact rfl
       simp only [Act.put, qa]
       apply tk 9 (v := _) rfl (Or.inl ⟨by kernel_rfl, ?hv⟩) hH0 ?_
       case hv => intro w' hS; obtain ⟨z0, _⟩ := HCL.out w' hS; have z1 := HCP.out w' hS; have z2 := HWK.out; go_simp; try exact rfl
       simp only [Act.put, qa]
       apply tk 10 (v := _) rfl (Or.inl ⟨by kernel_rfl, ?hv⟩) hH0 ?_
       case hv => intro w' hS; obtain ⟨z0, _⟩ := HCL.out w' hS; have z1 := HCP.out w' hS; have z2 := HWK.out; go_simp; try exact rfl
       simp only [Act.put, qa]
       apply tk 11 (v := _) rfl (Or.inl ⟨by kernel_rfl, ?hv⟩) hH0 ?_
       case hv => intro w' hS; obtain ⟨z0, _⟩ := HCL.out w' hS; have z1 := HCP.out w' hS; have z2 := HWK.out; go_simp; try exact rfl
       simp only [Act.put, qa]
       apply tk 12 (v := _) rfl (Or.inl ⟨by kernel_rfl, ?hv⟩) hH0 ?_
       case hv => intro w' hS; obtain ⟨z0, _⟩ := HCL.out w' hS; have z1 := HCP.out w' hS; have z2 := HWK.out; go_simp; try exact rfl
       simp only [Act.put, qa]
       apply tk 13 (v := _) rfl (Or.inl ⟨by kernel_rfl, ?hv⟩) hH0 ?_
       case hv => intro w' hS; obtain ⟨z0, _⟩ := HCL.out w' hS; have z1 := HCP.out w' hS; have z2 := HWK.out; go_simp; try exact rfl
       simp only [Act.put, qa]
       apply tk 14 (v := _) rfl (Or.inl ⟨by kernel_rfl, ?hv⟩) hH0 ?_
       case hv => intro w' hS; obtain ⟨z0, _⟩ := HCL.out w' hS; have z1 := HCP.out w' hS; have z2 := HWK.out; go_simp; try exact rfl
       simp only [Act.put, qa]
       apply tk 15 (v := _) rfl (Or.inl ⟨by kernel_rfl, ?hv⟩) hH0 ?_
       case hv => intro w' hS; obtain ⟨z0, _⟩ := HCL.out w' hS; have z1 := HCP.out w' hS; have z2 := HWK.out; go_simp; try exact rfl
       simp only [Act.put, qa]
       refine wpAnyH_done (by kernel_rfl) ?_ _
       refine NoPanic.normal ?_
       clear hS0
       obtain ⟨c0, c1⟩ := HCL.out wr.drew HBN.out
       go_wp2
       go_ret2
       rw [HR.out, HE.out]
       exact ⟨rfl, HBN.out⟩
     · have hle' : ¬ (tp : Int) ≥ (vt : Int) := by omega
       have HRE2 := Lib.hid (show recE rs k x.r = if 65536 < vl then 3 else 0 by rw [HRE.out, if_neg (fun h => hle h.2)])
       clear hle
       go_upto_region 7 with (fail)
       have hS0 := HBN.out
       refine wp_region_noPanic ?_
       refine wp_region_held_drew (S := (fun v => Below w.heap.size w v)) (by kernel_rfl) hS0 (fun hH0 => ?_)
       apply tk 0 (v := _) rfl (Or.inl ⟨by kernel_rfl, ?hv⟩) hH0 ?_
       case hv => intro w' hS; obtain ⟨z0, _⟩ := HCL.out w' hS; have z1 := HCP.out w' hS; have z2 := HWK.out; go_simp; try exact rfl
       simp only [Act.put, qa]
       apply tk 1 (v := _) rfl (Or.inl ⟨by kernel_rfl, ?hv⟩) hH0 ?_
       case hv => intro w' hS; obtain ⟨z0, _⟩ := HCL.out w' hS; have z1 := HCP.out w' hS; have z2 := HWK.out; go_simp; try exact rfl
       simp only [Act.put, qa]
       apply tk 2 (v := _) rfl (Or.inl ⟨by kernel_rfl, ?hv⟩) hH0 ?_
       case hv => intro w' hS; obtain ⟨z0, _⟩ := HCL.out w' hS; have z1 := HCP.out w' hS; have z2 := HWK.out; go_simp; try exact rfl
       simp only [Act.put, qa]
       apply tk 3 (v := _) rfl (Or.inl ⟨by kernel_rfl, ?hv⟩) hH0 ?_
       case hv => intro w' hS; obtain ⟨z0, _⟩ := HCL.out w' hS; have z1 := HCP.out w' hS; have z2 := HWK.out; go_simp; try exact rfl
       simp only [Act.put, qa]
       apply tk 4 (v := _) rfl (Or.inl ⟨by kernel_rfl, ?hv⟩) hH0 ?_
       case hv => intro w' hS; obtain ⟨z0, _⟩ := HCL.out w' hS; have z1 := HCP.out w' hS; have z2 := HWK.out; go_simp; try exact rfl
       simp only [Act.put, qa]
       apply tk 5 (v := _) rfl (Or.inl ⟨by kernel_rfl, ?hv⟩) hH0 ?_
       case hv => intro w' hS; obtain ⟨z0, _⟩ := HCL.out w' hS; have z1 := HCP.out w' hS; have z2 := HWK.out; go_simp; try exact rfl
       simp only [Act.put, qa]
       apply tk 6 (v := _) rfl (Or.inl ⟨by kernel_rfl, ?hv⟩) hH0 ?_
       case hv => intro w' hS; obtain ⟨z0, _⟩ := HCL.out w' hS; have z1 := HCP.out w' hS; have z2 := HWK.out; go_simp; try exact rfl
       simp only [Act.put, qa]
       apply tk 7 (v := _) rfl (Or.inl ⟨by kernel_rfl, ?hv⟩) hH0 ?_
       case hv => intro w' hS; obtain ⟨z0, _⟩ := HCL.out w' hS; have z1 := HCP.out w' hS; have z2 := HWK.out; go_simp; try exact rfl
       simp only [Act.put, qa]
       apply tk 8 (v := _) rfl (Or.inl ⟨by kernel_rfl, ?hv⟩) hH0 ?_
       case hv => intro w' hS; obtain ⟨z0, _⟩ := HCL.out w' hS; have z1 := HCP.out w' hS; have z2 := HWK.out; go_simp; try exact rfl
       simp only [Act.put, qa]
       apply tk 9 (v := _) rfl (Or.inl ⟨by kernel_rfl, ?hv⟩) hH0 ?_
       case hv => intro w' hS; obtain ⟨z0, _⟩ := HCL.out w' hS; have z1 := HCP.out w' hS; have z2 := HWK.out; go_simp; try exact rfl
       simp only [Act.put, qa]
       apply tk 10 (v := _) rfl (Or.inl ⟨by kernel_rfl, ?hv⟩) hH0 ?_
       case hv => intro w' hS; obtain ⟨z0, _⟩ := HCL.out w' hS; have z1 := HCP.out w' hS; have z2 := HWK.out; go_simp; try exact rfl
       simp only [Act.put, qa]
       apply tk 11 (v := _) rfl (Or.inl ⟨by kernel_rfl, ?hv⟩) hH0 ?_
       case hv => intro w' hS; obtain ⟨z0, _⟩ := HCL.out w' hS; have z1 := HCP.out w' hS; have z2 := HWK.out; go_simp; try exact rfl
       simp only [Act.put, qa]
       apply tk 12 (v := _) rfl (Or.inl ⟨by kernel_rfl, ?hv⟩) hH0 ?_
       case hv => intro w' hS; obtain ⟨z0, _⟩ := HCL.out w' hS; have z1 := HCP.out w' hS; have z2 := HWK.out; go_simp; try exact rfl
       simp only [Act.put, qa]
       apply tk 13 (v := _) rfl (Or.inl ⟨by kernel_rfl, ?hv⟩) hH0 ?_
       case hv => intro w' hS; obtain ⟨z0, _⟩ := HCL.out w' hS; have z1 := HCP.out w' hS; have z2 := HWK.out; go_simp; try exact rfl
       simp only [Act.put, qa]
       apply tk 14 (v := _) rfl (Or.inl ⟨by kernel_rfl, ?hv⟩) hH0 ?_
       case hv => intro w' hS; obtain ⟨z0, _⟩ := HCL.out w' hS; have z1 := HCP.out w' hS; have z2 := HWK.out; go_simp; try exact rfl
       simp only [Act.put, qa]
       apply tk 15 (v := _) rfl (Or.inl ⟨by kernel_rfl, ?hv⟩) hH0 ?_
       case hv => intro w' hS; obtain ⟨z0, _⟩ := HCL.out w' hS; have z1 := HCP.out w' hS; have z2 := HWK.out; go_simp; try exact rfl
       simp only [Act.put, qa]
       refine wpAnyH_done (by kernel_rfl) ?_ _
       refine NoPanic.normal ?_
       clear hS0
       obtain ⟨c0, c1⟩ := HCL.out wr.drew HBN.out
       by_cases hlong : 65536 < vl
       · have hlong' : (vl : Int) > 65536 := by omega
         have HE := Lib.hid (show tvAt rs n = .error 3 from tvAt_err (by rw [HNX.out, HRE2.out]; simp [hlong]) n HK.out)
         clear hlong
         go_wp2
         go_ret2
         rw [HR.out, HE.out]
         exact ⟨rfl, HBN.out⟩
       have hlong' : ¬ (vl : Int) > 65536 := by omega
       have HNN := Lib.hid (show tvAt rs (k + 1) = .ok (bs ++ recB x.r) by rw [HNX.out, HRE2.out]; simp [hlong])
       have HBL := Lib.hid (show bs.length ≤ 17000000 by have h1 := tvAt_len 65554 (Nat.le_refl _) k bs HTV.out; have h2 := HN256.out; have h3 := HK.out; omega)
       have l1 := (szB_len vt).1
       have l2 := (szB_len vl).1
       have HLN1 := Lib.hid (show bs.length + (szB vt).length ≤ 100000000 by have := HBL.out; omega)
       have HLN2 := Lib.hid (show bs.length + (szB vt).length + (szB vl).length ≤ 100000000 by have := HBL.out; omega)
       have HLN3 := Lib.hid (show bs.length + (szB vt).length + (szB vl).length + x.v.length ≤ 100000000 by have := HBL.out; have := HVL.out; omega)
       have hwv : IntKind.u64.wrap (vl : Int) = (vl : Int) := by rw [IntKind.wrap_u64]; omega
       have HL64 := Lib.hid (show vl < 18446744073709551616 by omega)
       have HFI := Lib.hid (show ∀ (v : World) (oa : Option Addr) (oc : Nat), v.ownsRow w.heap.size 5 1 (.slice oa (bs.length + (szB vt).length + (szB vl).length + x.v.length) oc) (bs.length + (szB vt).length + (szB vl).length + x.v.length) (bcells bs ++ bcells (szB vt) ++ bcells (szB vl) ++ bcells x.v) → Below w.heap.size w v → BigW w.heap.size w (bs ++ recB x.r) (.slice oa (bs.length + (szB vt).length + (szB vl).length + x.v.length) oc) v from fun v oa oc h1 h2 => by
         have e : bs ++ recB x.r = bs ++ szB vt ++ szB vl ++ x.v := by
          unfold recB
          rw [show x.r.t = vt from EVT.out.symm, show x.r.v = x.v from rfl, ← HVL.out]
          simp [List.append_assoc]
         have el : bs.length + (szB vt).length + (szB vl).length + x.v.length = (bs ++ recB x.r).length := by
          rw [e]; simp [List.length_append, Nat.add_assoc]
         rw [← bcells_cat, ← bcells_cat, ← bcells_cat, ← e, el] at h1
         rw [el]
         exact ⟨⟨oa, oc, rfl, h1⟩, h2⟩)
       clear l1 l2 hlong
       go_wp2_with fail
       refine (rzSize_is _ vt HVT64.out).mono ?_
       rintro _ w3 ⟨v3, rfl, ⟨a3, c3, rfl, ho3⟩, hb3⟩
       have HB3 := Lib.hid ((HBN.out).trans (hb3.mono (HBN.out).size))
       have HO3 := Lib.hid (own_kept (HON.out) (Kept.of_below (S := fun _ => False) hb3) (fun _ _ e => e))
       have HY3 := Lib.hid (own_bytes ho3 rfl (szB_lt _) (Nat.le_refl _))
       clear ho3 hb3
       go_wp2_with (at_builtin; refine wpList_append_bytes rfl _ _ rfl w.heap.size _ bs.length (bcells bs) rfl HO3.out _ _ (szB vt) rfl HY3.out HLN1.out HB3.out.size ?_; intro oa4 oc4 w4 hown4 hgr4; (have HB4 := Lib.hid (HB3.out.grown hgr4 HB3.out.size (own_blk HO3.out))); (have HO4 := Lib.hid hown4); (obtain ⟨d0, d1⟩ := HCL.out w4 HB4.out); clear hown4 hgr4)
       refine (rzSize_is _ vl HL64.out).mono ?_
       rintro _ w5 ⟨v5, rfl, ⟨a5, c5, rfl, ho5⟩, hb5⟩
       have HB5 := Lib.hid (HB4.out.trans (hb5.mono HB4.out.size))
       have HO5 := Lib.hid (own_kept HO4.out (Kept.of_below (S := fun _ => False) hb5) (fun _ _ e => e))
       have HY5 := Lib.hid (own_bytes ho5 rfl (szB_lt _) (Nat.le_refl _))
       clear ho5 hb5
       go_wp2_with (first
         | (at_builtin; refine wpList_append_bytes rfl _ (.tmp 54) rfl w.heap.size _ _ _ rfl HO5.out _ _ (szB vl) rfl HY5.out HLN2.out HB5.out.size ?_; intro oa6 oc6 w6 hown6 hgr6; (have HB6 := Lib.hid (HB5.out.grown hgr6 HB5.out.size (own_blk HO5.out))); (have HO6 := Lib.hid hown6); (obtain ⟨e0, e1⟩ := HCL.out w6 HB6.out); clear hown6 hgr6)
         | (at_builtin; refine wpList_append_bytes rfl _ (.tmp 61) rfl w.heap.size _ _ _ rfl HO6.out _ _ x.v rfl (HBV.out w6 HB6.out) HLN3.out HB6.out.size ?_; intro oa7 oc7 w7 hown7 hgr7; (have HFN := Lib.hid (HFI.out w7 oa7 oc7 hown7 (HB6.out.grown hgr7 HB6.out.size (own_blk HO6.out)))); clear hown7 hgr7))
       go_roundw
       case rel => exact ⟨k + 1, bs ++ recB x.r, by go_num, by have := HK.out; omega, HNN.out, HFN.out⟩
       case measure => have := HK.out; simp [intOf]; omega
   · have hk0' : k = 0 := by omega
     have HRE2 := Lib.hid (show recE rs k x.r = if 65536 < vl then 3 else 0 by rw [HRE.out, if_neg (fun h => hk0 h.1)])
     clear hk0
     subst hk0'
     have hat0 : ∀ v, (Instr.indexAt 119 (.slice (some ⟨sb, so, none⟩) n c) (.int .i64 0)).run Tryz.prog v = .ok (.pointer (some ⟨sb, p, none⟩)) v := hat
     go_upto_region 7 with (fail)
     have hS0 := HBN.out
     refine wp_region_noPanic ?_
     refine wp_region_held_drew (S := (fun v => Below w.heap.size w v)) (by kernel_rfl) hS0 (fun hH0 => ?_)
     apply tk 0 (v := _) rfl (Or.inl ⟨by kernel_rfl, ?hv⟩) hH0 ?_
     case hv => intro w' hS; obtain ⟨z0, _⟩ := HCL.out w' hS; go_simp; try exact rfl
     simp only [Act.put, qa]
     apply tk 1 (v := _) rfl (Or.inl ⟨by kernel_rfl, ?hv⟩) hH0 ?_
     case hv => intro w' hS; obtain ⟨z0, _⟩ := HCL.out w' hS; go_simp; try exact rfl
     simp only [Act.put, qa]
     apply tk 2 (v := _) rfl (Or.inl ⟨by kernel_rfl, ?hv⟩) hH0 ?_
     case hv => intro w' hS; obtain ⟨z0, _⟩ := HCL.out w' hS; go_simp; try exact rfl
     simp only [Act.put, qa]
     refine tk 3 (v := undef) rfl (Or.inr ⟨by kernel_rfl, rfl⟩) hH0 ?_
     simp only [Act.put, qa]
     refine tk 4 (v := undef) rfl (Or.inr ⟨by kernel_rfl, rfl⟩) hH0 ?_
     simp only [Act.put, qa]
     refine tk 5 (v := undef) rfl (Or.inr ⟨by kernel_rfl, rfl⟩) hH0 ?_
     simp only [Act.put, qa]
     refine tk 6 (v := undef) rfl (Or.inr ⟨by kernel_rfl, rfl⟩) hH0 ?_
     simp only [Act.put, qa]
     refine tk 7 (v := undef) rfl (Or.inr ⟨by kernel_rfl, rfl⟩) hH0 ?_
     simp only [Act.put, qa]
     refine tk 8 (v := undef) rfl (Or.inr ⟨by kernel_rfl, rfl⟩) hH0 ?_
     simp only [Act.put, qa]
     refine tk 9 (v := undef) rfl (Or.inr ⟨by kernel_rfl, rfl⟩) hH0 ?_
     simp only [Act.put, qa]
     refine tk 10 (v := undef) rfl (Or.inr ⟨by kernel_rfl, rfl⟩) hH0 ?_
     simp only [Act.put, qa]
     refine tk 11 (v := undef) rfl (Or.inr ⟨by kernel_rfl, rfl⟩) hH0 ?_
     simp only [Act.put, qa]
     refine tk 12 (v := undef) rfl (Or.inr ⟨by kernel_rfl, rfl⟩) hH0 ?_
     simp only [Act.put, qa]
     refine tk 13 (v := undef) rfl (Or.inr ⟨by kernel_rfl, rfl⟩) hH0 ?_
     simp only [Act.put, qa]
     refine tk 14 (v := undef) rfl (Or.inr ⟨by kernel_rfl, rfl⟩) hH0 ?_
     simp only [Act.put, qa]
     apply tk 15 (v := _) rfl (Or.inl ⟨by kernel_rfl, ?hv⟩) hH0 ?_
     case hv => intro w' hS; obtain ⟨z0, _⟩ := HCL.out w' hS; go_simp; try exact rfl
     simp only [Act.put, qa]
     refine wpAnyH_done (by kernel_rfl) ?_ _
     refine NoPanic.normal ?_
     clear hS0
     obtain ⟨c0, c1⟩ := HCL.out wr.drew HBN.out
     by_cases hlong : 65536 < vl
     · have hlong' : (vl : Int) > 65536 := by omega
       have HE := Lib.hid (show tvAt rs n = .error 3 from tvAt_err (by rw [HNX.out, HRE2.out]; simp [hlong]) n HK.out)
       clear hlong
       go_wp2
       go_ret2
       rw [HR.out, HE.out]
       exact ⟨rfl, HBN.out⟩
     have hlong' : ¬ (vl : Int) > 65536 := by omega
     have HNN := Lib.hid (show tvAt rs (0 + 1) = .ok (bs ++ recB x.r) by rw [HNX.out, HRE2.out]; simp [hlong])
     have HBL := Lib.hid (show bs.length ≤ 17000000 by have h1 := tvAt_len 65554 (Nat.le_refl _) 0 bs HTV.out; have h2 := HN256.out; have h3 := HK.out; omega)
     have l1 := (szB_len vt).1
     have l2 := (szB_len vl).1
     have HLN1 := Lib.hid (show bs.length + (szB vt).length ≤ 100000000 by have := HBL.out; omega)
     have HLN2 := Lib.hid (show bs.length + (szB vt).length + (szB vl).length ≤ 100000000 by have := HBL.out; omega)
     have HLN3 := Lib.hid (show bs.length + (szB vt).length + (szB vl).length + x.v.length ≤ 100000000 by have := HBL.out; have := HVL.out; omega)
     have hwv : IntKind.u64.wrap (vl : Int) = (vl : Int) := by rw [IntKind.wrap_u64]; omega
     have HL64 := Lib.hid (show vl < 18446744073709551616 by omega)
     have HFI := Lib.hid (show ∀ (v : World) (oa : Option Addr) (oc : Nat), v.ownsRow w.heap.size 5 1 (.slice oa (bs.length + (szB vt).length + (szB vl).length + x.v.length) oc) (bs.length + (szB vt).length + (szB vl).length + x.v.length) (bcells bs ++ bcells (szB vt) ++ bcells (szB vl) ++ bcells x.v) → Below w.heap.size w v → BigW w.heap.size w (bs ++ recB x.r) (.slice oa (bs.length + (szB vt).length + (szB vl).length + x.v.length) oc) v from fun v oa oc h1 h2 => by
       have e : bs ++ recB x.r = bs ++ szB vt ++ szB vl ++ x.v := by
         unfold recB
         rw [show x.r.t = vt from EVT.out.symm, show x.r.v = x.v from rfl, ← HVL.out]
         simp [List.append_assoc]
       have el : bs.length + (szB vt).length + (szB vl).length + x.v.length = (bs ++ recB x.r).length := by
         rw [e]; simp [List.length_append, Nat.add_assoc]
       rw [← bcells_cat, ← bcells_cat, ← bcells_cat, ← e, el] at h1
       rw [el]
       exact ⟨⟨oa, oc, rfl, h1⟩, h2⟩)
     clear l1 l2 hlong
     go_wp2_with fail
     refine (rzSize_is _ vt HVT64.out).mono ?_
     rintro _ w3 ⟨v3, rfl, ⟨a3, c3, rfl, ho3⟩, hb3⟩
     have HB3 := Lib.hid ((HBN.out).trans (hb3.mono (HBN.out).size))
     have HO3 := Lib.hid (own_kept (HON.out) (Kept.of_below (S := fun _ => False) hb3) (fun _ _ e => e))
     have HY3 := Lib.hid (own_bytes ho3 rfl (szB_lt _) (Nat.le_refl _))
     clear ho3 hb3
     go_wp2_with (at_builtin; refine wpList_append_bytes rfl _ _ rfl w.heap.size _ bs.length (bcells bs) rfl HO3.out _ _ (szB vt) rfl HY3.out HLN1.out HB3.out.size ?_; intro oa4 oc4 w4 hown4 hgr4; (have HB4 := Lib.hid (HB3.out.grown hgr4 HB3.out.size (own_blk HO3.out))); (have HO4 := Lib.hid hown4); (obtain ⟨d0, d1⟩ := HCL.out w4 HB4.out); clear hown4 hgr4)
     refine (rzSize_is _ vl HL64.out).mono ?_
     rintro _ w5 ⟨v5, rfl, ⟨a5, c5, rfl, ho5⟩, hb5⟩
     have HB5 := Lib.hid (HB4.out.trans (hb5.mono HB4.out.size))
     have HO5 := Lib.hid (own_kept HO4.out (Kept.of_below (S := fun _ => False) hb5) (fun _ _ e => e))
     have HY5 := Lib.hid (own_bytes ho5 rfl (szB_lt _) (Nat.le_refl _))
     clear ho5 hb5
     go_wp2_with (first
       | (at_builtin; refine wpList_append_bytes rfl _ (.tmp 54) rfl w.heap.size _ _ _ rfl HO5.out _ _ (szB vl) rfl HY5.out HLN2.out HB5.out.size ?_; intro oa6 oc6 w6 hown6 hgr6; (have HB6 := Lib.hid (HB5.out.grown hgr6 HB5.out.size (own_blk HO5.out))); (have HO6 := Lib.hid hown6); (obtain ⟨e0, e1⟩ := HCL.out w6 HB6.out); clear hown6 hgr6)
       | (at_builtin; refine wpList_append_bytes rfl _ (.tmp 61) rfl w.heap.size _ _ _ rfl HO6.out _ _ x.v rfl (HBV.out w6 HB6.out) HLN3.out HB6.out.size ?_; intro oa7 oc7 w7 hown7 hgr7; (have HFN := Lib.hid (HFI.out w7 oa7 oc7 hown7 (HB6.out.grown hgr7 HB6.out.size (own_blk HO6.out)))); clear hown7 hgr7))
     go_roundw
     case rel => exact ⟨0 + 1, bs ++ recB x.r, by go_num, by have := HK.out; omega, HNN.out, HFN.out⟩
     case measure => have := HK.out; simp [intOf]; omega
end Go.Proofs.YtniakgoefkbkhaaGreatDoor

