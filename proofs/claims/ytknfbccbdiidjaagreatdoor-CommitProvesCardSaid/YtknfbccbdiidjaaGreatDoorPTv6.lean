/- The walk of tlv's Encode. -/
import Derived.Test.YtknfbccbdiidjaaGreatDoorWu
import Derived.Test.YtknfbccbdiidjaaGreatDoorPTv1
namespace Go.Proofs.YtknfbccbdiidjaaGreatDoor
set_option linter.unusedVariables false
set_option linter.unusedSimpArgs false
open Go.ChangeShapes Go.WideShapes Go.ChangeAt Go.RowKit Go.Maps

structure RecM where
 t : Nat
 a : Option Addr
 v : List Nat
 c : Nat
def RecM.cells (r : RecM) : List Value := [.int .u64 (r.t : Int), .slice r.a r.v.length r.c]
def RecM.r (r : RecM) : Rec := ⟨r.t, r.v⟩
structure RecM.ok (w : World) (r : RecM) : Prop where
 t : r.t < 18446744073709551616
 l : r.v.length ≤ 9223372036854775807
 b : Bytes w w.heap.size (.slice r.a r.v.length r.c) r.v
theorem RecM.ok.below {w w' : World} {r : RecM} (h : r.ok w) (hb : Below w.heap.size w w') : r.ok w' := ⟨h.t, h.l, h.b.alive hb hb.size⟩
structure RecsAt (w : World) (A : Option Addr) (n : Nat) (xs : List RecM) : Prop where
 row : RowsAt RecM.cells 2 w A n xs
 ok : ∀ x ∈ xs, x.ok w
theorem RecsAt.below {w w' : World} {A : Option Addr} {n : Nat} {xs : List RecM} (h : RecsAt w A n xs) (hb : Below w.heap.size w w') : RecsAt w' A n xs := ⟨h.row.below hb, fun x hx => (h.ok x hx).below hb⟩
theorem at_rec (b o n c k : Nat) (hk : k < n) (w : World) : (Instr.indexAt 136 (.slice (some ⟨b, o, none⟩) n c) (.int .i64 (k : Int))).run Tryz.prog w = .ok (.pointer (some ⟨b, o + k * 2, none⟩)) w := by
 have hu : Tryz.prog.underlying 136 = some (.slice (Tryz.prog.elem 136)) := by kernel_rfl
 have he : Tryz.prog.elem 136 = 139 := by kernel_rfl
 have hz : ∀ w, (sizeOf 139).run Tryz.prog w = .ok 2 w := fun w => by kernel_rfl
 rw [run_indexAt_slice w 136 ⟨b, o, none⟩ n c .i64 (k : Int) hu, if_pos ⟨by omega, by omega⟩, he, hz]
 simp only [Result.andThen, Int.toNat_natCast, Addr.add_mid]
theorem zero_rec : ∃ Z : Array Value, (∀ w, (zeroValue 139).run Tryz.prog w = .ok (.agg Z) w) ∧ Z.size = 2 ∧ ¬ Z = #[] ∧ Z = (RecM.cells ⟨0, none, [], 0⟩).toArray :=
 ⟨(RecM.cells ⟨0, none, [], 0⟩).toArray, fun w => by kernel_rfl, rfl, by decide, rfl⟩
def TvP (w : World) (R : Except Nat (List Nat)) (e : Ending) (w' : World) : Prop :=
 match R with
  | .ok b => ∃ v', e = .returned (.tuple #[v', .int .i64 0]) ∧ BigW w.heap.size w b v' w'
  | .error x => e = .returned (.tuple #[.slice none 0 0, .int .i64 (x : Int)]) ∧ Below w.heap.size w w'
set_option maxRecDepth 100000 in
set_option maxHeartbeats 2000000 in
theorem tvEnc_is (w : World) (A : Option Addr) (n c : Nat) (xs : List RecM) (hxs : RecsAt w A n xs) (hn : n ≤ 9223372036854775807) :
   Calls Tryz.prog 69 #[.slice A n c] w (TvP w (tvEnc (xs.map RecM.r))) := by
 have Aw := hxs.row.len
 by_cases hbig : 256 < n
 · have hb' : (256 : Int) < (n : Int) := by omega
   have HR := Hh (show tvEnc (xs.map RecM.r) = .error 4 by unfold tvEnc; rw [List.length_map, Aw, if_pos hbig])
   clear hbig hxs Aw
   go_enter Tryz.func69, Tryz.ntmps69
   go_wp2_with fail
   go_ret2
   rw [HR.o]
   exact ⟨rfl, Below.refl _ _⟩
 have hb' : ¬ (256 : Int) < (n : Int) := by omega
 have HR := Hh (show tvEnc (xs.map RecM.r) = tvAt (xs.map RecM.r) n by unfold tvEnc; rw [List.length_map, Aw, if_neg hbig])
 obtain ⟨Z, hz, hzs, hzn, -⟩ := zero_rec
 obtain ⟨rs, hrs⟩ : ∃ rs, rs = xs.map RecM.r := ⟨_, rfl⟩
 have HR := Hh (show tvEnc (xs.map RecM.r) = tvAt rs n by rw [hrs]; exact HR.o)
 have A4 := Hh hxs
 have Bk := Hh hrs
 have Bl := Hh at_rec
 clear hxs hrs hbig
 go_enter Tryz.func69, Tryz.ntmps69
 go_wp2_with fail
 go_loopw [4, 12] (fun bv iv wr => ∃ (k : Nat) (bs : List Nat), iv = .int .i64 (k : Int) ∧ k ≤ n ∧ tvAt rs k = .ok bs ∧ BigW w.heap.size w bs bv wr) (fun _ iv _ => n - (intOf iv).toNat)
 case atStart => exact ⟨0, [], rfl, Nat.zero_le _, rfl, ⟨none, 0, rfl, World.ownsRow_nil _ _ _ _⟩, Below.refl _ _⟩
 case round =>
   obtain ⟨k, bs, rfl, hk, htv, hbw⟩ := hrel
   have Bh := Hh htv
   have Ay := Hh hbw
   clear htv hbw
   by_cases hlt : k < n
   · have hlt' : (k : Int) < (n : Int) := by omega
     obtain ⟨x, hx⟩ : ∃ x, xs[k]? = some x := ⟨_, List.getElem?_eq_getElem (by rw [A4.o.row.len]; exact hlt)⟩
     have Ap := A4.o.ok x (List.mem_of_getElem? hx)
     obtain ⟨sb, so, hA1, hA2, hr⟩ := A4.o.row.at_ (by omega)
     subst hA1
     have hrw := rangeAt_kept (hr k x hx) (Kept.of_below (S := fun _ => False) Ay.o.bel) (fun h => h)
     obtain ⟨CR, hCR⟩ : ∃ L, L = x.cells := ⟨_, rfl⟩
     have LR := Hh (show CR.length = 2 by rw [hCR]; rfl)
     rw [← hCR] at hrw
     have Bm := Hh hrw
     have SZ := Hh (show (Tryz.prog.info? 139).map (·.size) = some CR.length by rw [LR.o]; kernel_rfl)
     have Bp := Hh (show (Tryz.prog.info? 139).map (·.size) = some CR.toArray.size by rw [List.size_toArray]; exact SZ.o)
     have Bo := Hh (show Z.size = CR.toArray.size by rw [hzs, List.size_toArray, LR.o])
     have Az := Hh (show CR.toArray.all (·.oneCell') = true by rw [hCR]; kernel_rfl)
     have Bj := Hh hCR
     clear hCR
     obtain ⟨h3, hb3⟩ := new_row wr 139 Z CR.toArray
     have hat := Bl.o sb so n c k hlt
     obtain ⟨oa, oc, hbv, A2⟩ := Ay.o.own
     have Au := Ay.o.bel
     subst hbv
     have An := own_kept A2 (Kept.of_below (S := fun _ => False) hb3) (fun _ _ e => e)
     have Al := Au.trans (hb3.mono Au.size)
     clear hrw Ay A2 Au hA2
     go_upto_region 7 with (first
      | (refine wpList_load_mid rfl 139 (.tmp 15) rfl sb (so + k * 2) rfl CR _ Bm.o Tryz.underlying139 rfl SZ.o ?_)
      | (refine wpList_store_row rfl 139 (.tmp 6) (.tmp 16) rfl wr.heap.size CR.toArray rfl rfl 139 Z (heap_alloc_new wr _) Bp.o Bo.o Az.o ?_))
     obtain ⟨W9, hW9⟩ : ∃ W, W = (wr.alloc (.cells Z 139)).setRow wr.heap.size CR.toArray := ⟨_, rfl⟩
     rw [← hW9] at h3 hb3 An Al ⊢
     clear hW9
     obtain ⟨G, hG⟩ : ∃ g, g = wr.heap.size := ⟨_, rfl⟩
     rw [← hG] at h3 ⊢
     clear hG hat
     obtain ⟨vt, hvt⟩ : ∃ z, z = x.t := ⟨_, rfl⟩
     obtain ⟨va, hva⟩ : ∃ z, z = x.a := ⟨_, rfl⟩
     obtain ⟨vl, hvl⟩ : ∃ z, z = x.v.length := ⟨_, rfl⟩
     obtain ⟨vc, hvc⟩ : ∃ z, z = x.c := ⟨_, rfl⟩
     have Ae := Hh (show ∀ v : World, Has v G 139 CR.toArray → v.cell? ⟨G, 0, none⟩ = some (.int .u64 (vt : Int)) ∧ v.cell? ⟨G, 1, none⟩ = some (.slice va vl vc) from fun v hv => by
      rw [Bj.o] at hv
      rw [hvt, hva, hvl, hvc]
      exact ⟨hv.cell_is rfl, hv.cell_is rfl⟩)
     have hrx : rs[k]? = some x.r := by rw [Bk.o, List.getElem?_map, hx]; rfl
     have Bb := Hh (tvAt_succ Bh.o hrx)
     obtain ⟨tp, htp⟩ : ∃ z, z = (rs[k - 1]?.map (·.t)).getD 0 := ⟨_, rfl⟩
     obtain ⟨B7, hB7⟩ : ∃ z, z = decide (0 < k ∧ vt ≤ tp) := ⟨_, rfl⟩
     have Bf := Hh (show recE rs k x.r = if B7 = true then 22 else if 65536 < vl then 3 else 0 by
      unfold recE
      rw [← htp, show x.r.t = vt from hvt.symm, show x.r.v.length = vl from hvl.symm, hB7]
      by_cases c : 0 < k ∧ vt ≤ tp
      · rw [if_pos c, decide_eq_true c, if_pos rfl]
      · rw [if_neg c, decide_eq_false c]; rfl)
     have A0 := Hh (show 0 < k → ∀ v : World, Below w.heap.size w v → v.cell? ⟨sb, so + (k - 1) * 2, none⟩ = some (.int .u64 (tp : Int)) from fun h0 v hv => by
      obtain ⟨y, hy⟩ : ∃ y, xs[k - 1]? = some y := ⟨_, List.getElem?_eq_getElem (by rw [A4.o.row.len]; omega)⟩
      have e : tp = y.t := by rw [htp, Bk.o, List.getElem?_map, hy]; rfl
      rw [e]
      exact rangeAt_kept (hr (k - 1) y hy) (Kept.of_below (S := fun _ => False) hv) (fun h => h) 0 _ rfl)
     have Br := Hh (show ∀ v : World, Below w.heap.size w v → Bytes v v.heap.size (.slice va vl vc) x.v from fun v hv => by rw [hva, hvl, hvc]; exact Ap.b.alive hv hv.size)
     have hk256 : k < 256 := by omega
     have Aq : vt < 18446744073709551616 := by rw [hvt]; exact Ap.t
     have hvl64 : vl ≤ 9223372036854775807 := by rw [hvl]; exact Ap.l
     have Bn := Hh hvl
     have A5 := Hh hB7
     have Ax := Hh An
     have H9 := Hh (show Has W9 G 139 CR.toArray ∧ Below w.heap.size w W9 from ⟨h3, Al⟩)
     have Bq := Hh hvt
     clear hvt hva hvl hvc Bj hrx htp hB7 hx Ap hr h3 hb3 An Al Bm Bp Bo Az
     simp only [Act.put]
     go_cut [29] from 13 to 48 (fun cv wx => cv = .bool B7 ∧ Has wx G 139 CR.toArray ∧ Below w.heap.size w wx ∧ wx.ownsRow w.heap.size 5 1 (.slice oa bs.length oc) bs.length (bcells bs))
     case first =>
      have hS0 : Has W9.drew G 139 CR.toArray ∧ Below w.heap.size w W9.drew := ⟨H9.o.1, below_drew H9.o.2⟩
      have As := Hh (own_kept Ax.o (Kept.of_below (S := fun _ => False) (below_drew (Below.refl W9.heap.size W9))) (fun _ _ e => e))
      by_cases hk0 : 0 < k
      · obtain ⟨km, hkm⟩ : ∃ z, z = k - 1 := ⟨_, rfl⟩
        have Ac := Hh (Bl.o sb so n c km (by omega))
        have Ah := Hh (A0.o hk0)
        rw [← hkm] at Ah
        have Aj := Hh (show IntKind.i64.wrap ((k : Int) - 1) = (km : Int) by rw [IntKind.wrap_i64]; omega)
        clear hkm
        by_cases hle : vt ≤ tp
        · have hB : B7 = true := by rw [A5.o]; exact decide_eq_true ⟨hk0, hle⟩
          subst hB
          refine wp_region_noPanic ?_
          refine wp_region_held_drew (S := (fun v => Has v G 139 CR.toArray ∧ Below w.heap.size w v)) (by kernel_rfl) hS0 (fun hH0 => ?_)
          apply tl 0 rfl ?hv hH0 ?_
          case hv => intro w' hS; go_simp; try rfl
          simp only [qc]
          apply tl 1 rfl ?hv hH0 ?_
          case hv => intro w' hS; obtain ⟨z0, z1⟩ := Ae.o w' hS.1; have z2 := Ah.o w' hS.2; have z3 := Ac.o w'; have z4 := Aj.o; go_simp; try rfl
          simp only [qc]
          apply tl 2 rfl ?hv hH0 ?_
          case hv => intro w' hS; go_simp; try rfl
          simp only [qc]
          apply tl 3 rfl ?hv hH0 ?_
          case hv => intro w' hS; go_simp; try rfl
          simp only [qc]
          apply tl 4 rfl ?hv hH0 ?_
          case hv => intro w' hS; obtain ⟨z0, z1⟩ := Ae.o w' hS.1; have z2 := Ah.o w' hS.2; have z3 := Ac.o w'; have z4 := Aj.o; go_simp; try rfl
          simp only [qc]
          apply tl 5 rfl ?hv hH0 ?_
          case hv => intro w' hS; go_simp; try rfl
          simp only [qc]
          apply tl 6 rfl ?hv hH0 ?_
          case hv => intro w' hS; go_simp; try rfl
          simp only [qc]
          apply tl 7 rfl ?hv hH0 ?_
          case hv => intro w' hS; obtain ⟨z0, z1⟩ := Ae.o w' hS.1; have z2 := Ah.o w' hS.2; have z3 := Ac.o w'; have z4 := Aj.o; go_simp; try rfl
          simp only [qc]
          apply tl 8 rfl ?hv hH0 ?_
          case hv => intro w' hS; obtain ⟨z0, z1⟩ := Ae.o w' hS.1; have z2 := Ah.o w' hS.2; have z3 := Ac.o w'; have z4 := Aj.o; go_simp; try rfl
          simp only [qc]
          apply tl 9 rfl ?hv hH0 ?_
          case hv => intro w' hS; go_simp; try rfl
          simp only [qc]
          apply tl 10 rfl ?hv hH0 ?_
          case hv => intro w' hS; obtain ⟨z0, z1⟩ := Ae.o w' hS.1; have z2 := Ah.o w' hS.2; have z3 := Ac.o w'; have z4 := Aj.o; go_simp; try rfl
          simp only [qc]
          apply tl 11 rfl ?hv hH0 ?_
          case hv => intro w' hS; obtain ⟨z0, z1⟩ := Ae.o w' hS.1; have z2 := Ah.o w' hS.2; have z3 := Ac.o w'; have z4 := Aj.o; go_simp; try rfl
          simp only [qc]
          apply tl 12 rfl ?hv hH0 ?_
          case hv => intro w' hS; go_simp; try rfl
          simp only [qc]
          refine wpAnyH_done (by kernel_rfl) ?_ _
          refine NoPanic.normal ?_
          have HF := Hh hS0
          clear hS0
          go_wp2_with fail
          go_meet
          case rel => exact ⟨rfl, HF.o.1, HF.o.2, As.o⟩
        · have hB : B7 = false := by rw [A5.o]; exact decide_eq_false (fun h => hle h.2)
          subst hB
          refine wp_region_noPanic ?_
          refine wp_region_held_drew (S := (fun v => Has v G 139 CR.toArray ∧ Below w.heap.size w v)) (by kernel_rfl) hS0 (fun hH0 => ?_)
          apply tl 0 rfl ?hv hH0 ?_
          case hv => intro w' hS; go_simp; try rfl
          simp only [qc]
          apply tl 1 rfl ?hv hH0 ?_
          case hv => intro w' hS; obtain ⟨z0, z1⟩ := Ae.o w' hS.1; have z2 := Ah.o w' hS.2; have z3 := Ac.o w'; have z4 := Aj.o; go_simp; try rfl
          simp only [qc]
          apply tl 2 rfl ?hv hH0 ?_
          case hv => intro w' hS; go_simp; try rfl
          simp only [qc]
          apply tl 3 rfl ?hv hH0 ?_
          case hv => intro w' hS; go_simp; try rfl
          simp only [qc]
          apply tl 4 rfl ?hv hH0 ?_
          case hv => intro w' hS; obtain ⟨z0, z1⟩ := Ae.o w' hS.1; have z2 := Ah.o w' hS.2; have z3 := Ac.o w'; have z4 := Aj.o; go_simp; try rfl
          simp only [qc]
          apply tl 5 rfl ?hv hH0 ?_
          case hv => intro w' hS; go_simp; try rfl
          simp only [qc]
          apply tl 6 rfl ?hv hH0 ?_
          case hv => intro w' hS; go_simp; try rfl
          simp only [qc]
          apply tl 7 rfl ?hv hH0 ?_
          case hv => intro w' hS; obtain ⟨z0, z1⟩ := Ae.o w' hS.1; have z2 := Ah.o w' hS.2; have z3 := Ac.o w'; have z4 := Aj.o; go_simp; try rfl
          simp only [qc]
          apply tl 8 rfl ?hv hH0 ?_
          case hv => intro w' hS; obtain ⟨z0, z1⟩ := Ae.o w' hS.1; have z2 := Ah.o w' hS.2; have z3 := Ac.o w'; have z4 := Aj.o; go_simp; try rfl
          simp only [qc]
          apply tl 9 rfl ?hv hH0 ?_
          case hv => intro w' hS; go_simp; try rfl
          simp only [qc]
          apply tl 10 rfl ?hv hH0 ?_
          case hv => intro w' hS; obtain ⟨z0, z1⟩ := Ae.o w' hS.1; have z2 := Ah.o w' hS.2; have z3 := Ac.o w'; have z4 := Aj.o; go_simp; try rfl
          simp only [qc]
          apply tl 11 rfl ?hv hH0 ?_
          case hv => intro w' hS; obtain ⟨z0, z1⟩ := Ae.o w' hS.1; have z2 := Ah.o w' hS.2; have z3 := Ac.o w'; have z4 := Aj.o; go_simp; try rfl
          simp only [qc]
          apply tl 12 rfl ?hv hH0 ?_
          case hv => intro w' hS; go_simp; try rfl
          simp only [qc]
          refine wpAnyH_done (by kernel_rfl) ?_ _
          refine NoPanic.normal ?_
          have HF := Hh hS0
          clear hS0
          go_wp2_with fail
          go_meet
          case rel => exact ⟨rfl, HF.o.1, HF.o.2, As.o⟩
      · have hB : B7 = false := by rw [A5.o]; exact decide_eq_false (fun h => hk0 h.1)
        subst hB
        obtain rfl : k = 0 := by omega
        refine wp_region_noPanic ?_
        refine wp_region_held_drew (S := (fun v => Has v G 139 CR.toArray ∧ Below w.heap.size w v)) (by kernel_rfl) hS0 (fun hH0 => ?_)
        apply tl 0 rfl ?hv hH0 ?_
        case hv => intro w' hS; go_simp; try rfl
        simp only [qc]
        apply tl 1 rfl ?hv hH0 ?_
        case hv => intro w' hS; obtain ⟨z0, z1⟩ := Ae.o w' hS.1; go_simp; try rfl
        simp only [qc]
        apply tl 2 rfl ?hv hH0 ?_
        case hv => intro w' hS; go_simp; try rfl
        simp only [qc]
        refine tk 3 (v := undef) rfl (Or.inr ⟨by kernel_rfl, rfl⟩) hH0 ?_
        simp only [qc]
        refine tk 4 (v := undef) rfl (Or.inr ⟨by kernel_rfl, rfl⟩) hH0 ?_
        simp only [qc]
        refine tk 5 (v := undef) rfl (Or.inr ⟨by kernel_rfl, rfl⟩) hH0 ?_
        simp only [qc]
        refine tk 6 (v := undef) rfl (Or.inr ⟨by kernel_rfl, rfl⟩) hH0 ?_
        simp only [qc]
        refine tk 7 (v := undef) rfl (Or.inr ⟨by kernel_rfl, rfl⟩) hH0 ?_
        simp only [qc]
        refine tk 8 (v := undef) rfl (Or.inr ⟨by kernel_rfl, rfl⟩) hH0 ?_
        simp only [qc]
        refine tk 9 (v := undef) rfl (Or.inr ⟨by kernel_rfl, rfl⟩) hH0 ?_
        simp only [qc]
        refine tk 10 (v := undef) rfl (Or.inr ⟨by kernel_rfl, rfl⟩) hH0 ?_
        simp only [qc]
        refine tk 11 (v := undef) rfl (Or.inr ⟨by kernel_rfl, rfl⟩) hH0 ?_
        simp only [qc]
        apply tl 12 rfl ?hv hH0 ?_
        case hv => intro w' hS; go_simp; try rfl
        simp only [qc]
        refine wpAnyH_done (by kernel_rfl) ?_ _
        refine NoPanic.normal ?_
        have HF := Hh hS0
        clear hS0
        go_wp2_with fail
        go_meet
        case rel => exact ⟨rfl, HF.o.1, HF.o.2, As.o⟩
     case rest =>
     obtain ⟨Bi, hW10⟩ : ∃ y, y = wc := ⟨_, rfl⟩
     subst hW10
     obtain ⟨rfl, h10, Ak, Am⟩ := hcut
     obtain ⟨c0, c1⟩ := Ae.o Bi h10
     have A3 := Hh (And.intro h10 Ak)
     have Bc := Hh Am
     have HK := Hh hlt
     clear h10 Ak Am Ax H9
     cases B7 with
     | true =>
      have HE := Hh (show tvAt rs n = .error 22 from tvAt_err (by rw [Bb.o, Bf.o]; rfl) n HK.o)
      go_wp2_with fail
      go_ret2
      rw [HR.o, HE.o]
      exact ⟨rfl, A3.o.2⟩
     | false =>
      by_cases hlong : 65536 < vl
      · have hlong' : (65536 : Int) < (vl : Int) := by omega
        have HE := Hh (show tvAt rs n = .error 3 from tvAt_err (by rw [Bb.o, Bf.o]; simp [hlong]) n HK.o)
        go_wp2_with fail
        go_ret2
        rw [HR.o, HE.o]
        exact ⟨rfl, A3.o.2⟩
      · have hlong' : ¬ (65536 : Int) < (vl : Int) := by omega
        have HN := Hh (show tvAt rs (k + 1) = .ok (bs ++ recB x.r) by rw [Bb.o, Bf.o]; simp [hlong])
        have A6 := Hh (show bs.length ≤ 17000000 by have := tvAt_len 65554 (Nat.le_refl _) k bs Bh.o; omega)
        have l1 := (szB_len vt).1
        have l2 := (szB_len vl).1
        have A8 := Hh (show bs.length + (szB vt).length ≤ 100000000 by have := A6.o; omega)
        have A9 := Hh (show bs.length + (szB vt).length + (szB vl).length ≤ 100000000 by have := A6.o; omega)
        have Ba := Hh (show bs.length + (szB vt).length + (szB vl).length + x.v.length ≤ 100000000 by have := A6.o; have := Bn.o; omega)
        have A1 := Hh (show IntKind.u64.wrap (vl : Int) = (vl : Int) by rw [IntKind.wrap_u64]; omega)
        have Bg := Hh Aq
        have A7 := Hh (show vl < 18446744073709551616 by omega)
        have Bs := Hh (show ∀ (v : World) (oa : Option Addr) (oc : Nat), v.ownsRow w.heap.size 5 1 (.slice oa (bs.length + (szB vt).length + (szB vl).length + x.v.length) oc) (bs.length + (szB vt).length + (szB vl).length + x.v.length) (bcells bs ++ bcells (szB vt) ++ bcells (szB vl) ++ bcells x.v) → Below w.heap.size w v → BigW w.heap.size w (bs ++ recB x.r) (.slice oa (bs.length + (szB vt).length + (szB vl).length + x.v.length) oc) v from fun v oa oc h1 h2 => by
          have e : bs ++ recB x.r = bs ++ szB vt ++ szB vl ++ x.v := by
           unfold recB
           rw [show x.r.t = vt from Bq.o.symm, show x.r.v = x.v from rfl, ← Bn.o]
           simp [List.append_assoc]
          have el : bs.length + (szB vt).length + (szB vl).length + x.v.length = (bs ++ recB x.r).length := by
           rw [e]; simp [List.length_append, Nat.add_assoc]
          rw [← bcells_cat, ← bcells_cat, ← bcells_cat, ← e, el] at h1
          rw [el]
          exact ⟨⟨oa, oc, rfl, h1⟩, h2⟩)
        clear l1 l2 Aq
        go_upto_region 11 with (fail)
        have hS0 : Has Bi.drew G 139 CR.toArray ∧ Below w.heap.size w Bi.drew := ⟨A3.o.1, below_drew A3.o.2⟩
        refine wp_region_noPanic ?_
        refine wp_region_held_drew (S := (fun v => Has v G 139 CR.toArray ∧ Below w.heap.size w v)) (by kernel_rfl) hS0 (fun hH0 => ?_)
        apply tl 0 rfl ?hv hH0 ?_
        case hv => intro w' hS; go_simp; try rfl
        simp only [qc]
        apply tl 1 rfl ?hv hH0 ?_
        case hv => intro w' hS; go_simp; try rfl
        simp only [qc]
        apply tl 2 rfl ?hv hH0 ?_
        case hv => intro w' hS; obtain ⟨z0, z1⟩ := Ae.o w' hS.1; have z2 := A1.o; go_simp; try rfl
        simp only [qc]
        apply tl 5 rfl ?hv hH0 ?_
        case hv => intro w' hS; go_simp; try rfl
        simp only [qc]
        apply tl 6 rfl ?hv hH0 ?_
        case hv => intro w' hS; obtain ⟨z0, z1⟩ := Ae.o w' hS.1; have z2 := A1.o; go_simp; try rfl
        simp only [qc]
        apply tl 7 rfl ?hv hH0 ?_
        case hv => intro w' hS; obtain ⟨z0, z1⟩ := Ae.o w' hS.1; have z2 := A1.o; go_simp; try rfl
        simp only [qc]
        apply tl 8 rfl ?hv hH0 ?_
        case hv => intro w' hS; obtain ⟨z0, z1⟩ := Ae.o w' hS.1; have z2 := A1.o; go_simp; try rfl
        simp only [qc]
        apply tl 11 rfl ?hv hH0 ?_
        case hv => intro w' hS; go_simp; try rfl
        simp only [qc]
        apply tl 12 rfl ?hv hH0 ?_
        case hv => intro w' hS; obtain ⟨z0, z1⟩ := Ae.o w' hS.1; have z2 := A1.o; go_simp; try rfl
        simp only [qc]
        refine rdy [3] (ar1 rfl fun KK hKK => ?_)
        go_simp
        refine (size_is _ vt Bg.o).mono ?_
        rintro _ x3 ⟨v3, rfl, Av⟩
        obtain ⟨⟨ax3, cx3, rfl, ho3⟩, hb3⟩ := Av
        have Af : Has x3 G 139 CR.toArray ∧ Below w.heap.size w x3 := ⟨hS0.1.below hb3 hS0.1.lt, hS0.2.trans (hb3.mono hS0.2.size)⟩
        replace hb3 := below_undrew hb3
        have Be := Hh (own_kept Bc.o (Kept.of_below (S := fun _ => False) hb3) (fun _ _ e => e))
        have Bw := Hh (own_bytes ho3 rfl (szB_lt _) (Nat.le_refl _))
        clear ho3 hb3
        refine hKK _ _ Af fun hH1 => ?_
        clear hKK KK
        try simp only [qc]
        refine rdy [4] (ar1 rfl fun KK hKK => ?_)
        refine step_append_bytes rfl (.tmp 34) (.tmp 37) rfl w.heap.size _ (bs.length) (bcells bs) rfl Be.o _ _ (szB vt) rfl Bw.o A8.o Af.2.size ?_
        intro oax4 ocx4 x4 Aa Ad
        have Ai : Has x4 G 139 CR.toArray ∧ Below w.heap.size w x4 := ⟨Af.1.grown Ad (fun e => own_has_ne Be.o Af.1 (by decide) G e.symm rfl), Af.2.grown Ad Af.2.size (own_blk Be.o)⟩
        have Bv := Hh Aa
        clear Aa Ad
        refine hKK _ _ Ai fun hH2 => ?_
        clear hKK KK
        try simp only [qc]
        refine rdy [9] (ar1 rfl fun KK hKK => ?_)
        go_simp
        refine (size_is _ vl A7.o).mono ?_
        rintro _ x9 ⟨v3, rfl, Av⟩
        obtain ⟨⟨ax9, cx9, rfl, ho3⟩, hb3⟩ := Av
        have Ag : Has x9 G 139 CR.toArray ∧ Below w.heap.size w x9 := ⟨Ai.1.below hb3 Ai.1.lt, Ai.2.trans (hb3.mono Ai.2.size)⟩
        have Ax := Hh (own_kept Bv.o (Kept.of_below (S := fun _ => False) hb3) (fun _ _ e => e))
        have Bx := Hh (own_bytes ho3 rfl (szB_lt _) (Nat.le_refl _))
        clear ho3 hb3
        refine hKK _ _ Ag fun hH3 => ?_
        clear hKK KK
        try simp only [qc]
        refine rdy [10] (ar1 rfl fun KK hKK => ?_)
        refine step_append_bytes rfl (.tmp 38) (.tmp 43) rfl w.heap.size _ (bs.length + (szB vt).length) (bcells bs ++ bcells (szB vt)) rfl Ax.o _ _ (szB vl) rfl Bx.o A9.o Ag.2.size ?_
        intro oax10 ocx10 x10 Aa Ad
        have Ab : Has x10 G 139 CR.toArray ∧ Below w.heap.size w x10 := ⟨Ag.1.grown Ad (fun e => own_has_ne Ax.o Ag.1 (by decide) G e.symm rfl), Ag.2.grown Ad Ag.2.size (own_blk Ax.o)⟩
        have Ar := Hh Aa
        clear Aa Ad
        refine hKK _ _ Ab fun hH4 => ?_
        clear hKK KK
        try simp only [qc]
        refine rdy [13] (ar1 rfl fun KK hKK => ?_)
        refine step_append_bytes rfl (.tmp 44) (.tmp 46) rfl w.heap.size _ (bs.length + (szB vt).length + (szB vl).length) (bcells bs ++ bcells (szB vt) ++ bcells (szB vl)) rfl Ar.o _ _ x.v rfl (Br.o x10 Ab.2) Ba.o Ab.2.size ?_
        intro oax13 ocx13 x13 Aa Ad
        have Ao : Has x13 G 139 CR.toArray ∧ Below w.heap.size w x13 := ⟨Ab.1.grown Ad (fun e => own_has_ne Ar.o Ab.1 (by decide) G e.symm rfl), Ab.2.grown Ad Ab.2.size (own_blk Ar.o)⟩
        have Bd := Hh Aa
        clear Aa Ad
        refine hKK _ _ Ao fun hH5 => ?_
        clear hKK KK
        try simp only [qc]
        apply tl 14 rfl ?hv hH5 ?_
        case hv => intro w' hS; go_simp; try rfl
        simp only [qc]
        refine wpAnyH_done (by kernel_rfl) ?_ _
        refine NoPanic.normal ?_
        have Bt := Hh (Bs.o x13 oax13 ocx13 Bd.o Ao.2)
        have Bu := Hh (show k + 1 ≤ n by have := HK.o; omega)
        clear hS0 Af Ai Ag Ab Ao
        go_wp2_with fail
        go_roundw
        case rel => exact ⟨k + 1, bs ++ recB x.r, by go_num, Bu.o, HN.o, Bt.o⟩
        case measure => simp [intOf]; omega
   · obtain rfl : k = n := by omega
     have hlt' : ¬ (k : Int) < (k : Int) := by omega
     go_wp2
     go_ret2
     rw [HR.o, Bh.o]
     exact ⟨_, rfl, Ay.o⟩
/- The walk of tlv's Read. -/

def rdW (c : Nat) : Nat := if c = 253 then 2 else if c = 254 then 4 else if c = 255 then 8 else 0
def rdL (n : Nat) : Nat := if n = 2 then 253 else if n = 4 then 65536 else 4294967296
def rdB (b : List Nat) : Except Nat (Nat × Nat) :=
 match b with
 | [] => .error 20
 | c :: r => if rdW c = 0 then .ok (c, 1) else if r.length < rdW c then .error 20 else if numB (r.take (rdW c)) < rdL (rdW c) then .error 21 else .ok (numB (r.take (rdW c)), rdW c + 1)
def rdX : Except Nat (Nat × Nat) → Nat × Nat × Nat
 | .error e => (0, 0, e)
 | .ok p => (p.1, p.2, 0)
set_option maxRecDepth 100000 in
theorem or_byteT (x c : Nat) (hc : c < 256) (hx : x * 256 + c < 18446744073709551616) : bits BinOp.or .u64 ((x : Int) * 256) (c : Int) = ((x * 256 + c : Nat) : Int) := by
 rw [show ((x : Int) * 256) = ((x * 256 : Nat) : Int) by omega]
 have h1 : x * 256 ||| c = x * 256 + c := by
  have := Nat.shiftLeft_add_eq_or_of_lt (i := 8) (b := c) (by omega) x
  rw [Nat.shiftLeft_eq] at this
  exact this.symm
 unfold bits
 have e : (BitVec.ofInt IntKind.u64.bits ((x * 256 : Nat) : Int) ||| BitVec.ofInt IntKind.u64.bits (c : Int)).toNat = x * 256 + c := by
  show (BitVec.ofInt 64 ((x * 256 : Nat) : Int) ||| BitVec.ofInt 64 (c : Int)).toNat = x * 256 + c
  rw [BitVec.ofInt_natCast, BitVec.ofInt_natCast, BitVec.toNat_or, BitVec.toNat_ofNat, BitVec.toNat_ofNat, Nat.mod_eq_of_lt (by omega), Nat.mod_eq_of_lt (by omega), h1]
 simp only [e]
 rw [IntKind.wrap_u64]; omega
theorem Bytes.openT {w : World} {a : Option Addr} {n c : Nat} {l : List Nat} (h : Bytes w w.heap.size (.slice a n c) l) : n = l.length ∧ n ≤ c ∧ (∀ x ∈ l, x < 256) ∧
  (0 < n → ∃ bg bo, a = some ⟨bg, bo, none⟩ ∧ bg < w.heap.size ∧ ∀ i, i < n → w.cell? ⟨bg, bo + i, none⟩ = some (.int .u8 (l.getD i 0 : Nat))) := by
 obtain ⟨a', c', e, h1, h2, h3⟩ := h
 injection e with e1 e2 e3
 subst e1 e2 e3
 refine ⟨rfl, h1, h2, fun h0 => ?_⟩
 obtain ⟨bg, bo, e, _, hc⟩ := h3 h0
 exact ⟨bg, bo, e, World.block_lt_of_cell? w _ (hc 0 h0), hc⟩
theorem slice_one (bg bo L cv n : Nat) (h1 : n < L) (h2 : L ≤ cv) (hn : 0 < n) (w : World) : (Instr.slice 48 (.slice (some ⟨bg, bo, none⟩) L cv) (some (.int .i64 1)) (some (.int .i64 ((n : Int) + 1))) none).run Tryz.prog w = .ok (.slice (some ⟨bg, bo + 1, none⟩) n (cv - 1)) w := by
 have hu : Tryz.prog.underlying 48 = some (.slice (Tryz.prog.elem 48)) := by kernel_rfl
 have he : Tryz.prog.elem 48 = 5 := by kernel_rfl
 have hz : ∀ w, (sizeOf 5).run Tryz.prog w = .ok 1 w := fun w => by kernel_rfl
 rw [run_slice_lh w 48 _ L cv hu .i64 .i64 1 ((n : Int) + 1) (by omega) (by omega) (by omega), he, hz]
 have e2 : ((n : Int) + 1).toNat = n + 1 := by omega
 simp only [Result.andThen, sliced, e2]
 rw [if_neg (by simp; omega), Option.map_some, Addr.add_mid]
 simp
theorem at_byte (b o n c k : Nat) (hk : k < n) (w : World) : (Instr.indexAt 48 (.slice (some ⟨b, o, none⟩) n c) (.int .i64 (k : Int))).run Tryz.prog w = .ok (.pointer (some ⟨b, o + k, none⟩)) w := by
 have hu : Tryz.prog.underlying 48 = some (.slice (Tryz.prog.elem 48)) := by kernel_rfl
 have he : Tryz.prog.elem 48 = 5 := by kernel_rfl
 have hz : ∀ w, (sizeOf 5).run Tryz.prog w = .ok 1 w := fun w => by kernel_rfl
 rw [run_indexAt_slice w 48 ⟨b, o, none⟩ n c .i64 (k : Int) hu, if_pos ⟨by omega, by omega⟩, he, hz]
 simp only [Result.andThen, Int.toNat_natCast, Nat.mul_one, Addr.add_mid]
theorem numB_take {l : List Nat} (hl : ∀ y ∈ l, y < 256) (j : Nat) (hj : j ≤ 7) : numB (l.take j) < 72057594037927936 := by
 have h1 := numB_lt (l.take j) (fun y hy => hl y (List.mem_of_mem_take hy))
 have h2 : (l.take j).length ≤ 7 := by rw [List.length_take]; omega
 have h3 : 256 ^ (l.take j).length ≤ 256 ^ 7 := Nat.pow_le_pow_right (by decide) h2
 exact Nat.lt_of_lt_of_le h1 h3
set_option maxRecDepth 100000 in
set_option maxHeartbeats 2000000 in
theorem read_is (w : World) (a : Option Addr) (L cv : Nat) (b : List Nat) (hb : Bytes w w.heap.size (.slice a L cv) b) (hL : L ≤ 9223372036854775807) (R : Nat × Nat × Nat) (hR : R = rdX (rdB b)) :
   Calls Tryz.prog 96 #[.slice a L cv] w fun e w' => e = .returned (.tuple #[.int .u64 (R.1 : Int), .int .i64 (R.2.1 : Int), .int .i64 (R.2.2 : Int)]) ∧ w' = w := by
 obtain ⟨hl, hlc, hlt, hop⟩ := hb.openT
 have ER := Hh hR
 clear hb hR
 cases b with
 | nil =>
   have h0 : ((L : Int) == 0) = true := by rw [beq_iff_eq]; have h1 : L = 0 := hl; omega
   clear hl hlc
   have HE := Hh (show R = (0, 0, 20) from ER.o)
   clear ER hop
   go_enter Tryz.func96, Tryz.ntmps96
   go_wp2_with fail
   go_ret3
   rw [HE.o]
   exact ⟨rfl, rfl⟩
 | cons c r =>
 have hl1 : L = r.length + 1 := hl
 obtain ⟨bg, bo, rfl, hbg, hc⟩ := hop (by omega)
 have hL0 : ((L : Int) == 0) = false := by rw [beq_eq_false_iff_ne]; omega
 have c0 : w.cell? ⟨bg, bo, none⟩ = some (.int .u8 (c : Int)) := hc 0 (by omega)
 have hc256 : c < 256 := hlt c (List.mem_cons_self ..)
 have hi0 : ∀ v, (Instr.indexAt 48 (.slice (some ⟨bg, bo, none⟩) L cv) (.int .i64 0)).run Tryz.prog v = .ok (.pointer (some ⟨bg, bo, none⟩)) v := fun v => by
   have hu : Tryz.prog.underlying 48 = some (.slice (Tryz.prog.elem 48)) := by kernel_rfl
   have he : Tryz.prog.elem 48 = 5 := by kernel_rfl
   have hz : ∀ w, (sizeOf 5).run Tryz.prog w = .ok 1 w := fun w => by kernel_rfl
   rw [run_indexAt_slice v 48 ⟨bg, bo, none⟩ L cv .i64 0 hu, if_pos ⟨by omega, by omega⟩, he, hz]
   simp [Result.andThen, Addr.add_mid]
 have Ae := Hh (show ∀ j, j < r.length → w.cell? ⟨bg, bo + 1 + j, none⟩ = some (.int .u8 (r.getD j 0 : Nat)) from fun j hj => by
   have := hc (j + 1) (by omega)
   rw [show bo + 1 + j = bo + (j + 1) by omega]
   exact this)
 have Ab := Hh (show ∀ y ∈ r, y < 256 from fun y hy => hlt y (List.mem_cons_of_mem _ hy))
 clear hc hop hlt hl
 by_cases hs : c < 253
 · have d1 : ((c : Int) == 253) = false := by rw [beq_eq_false_iff_ne]; omega
   have d2 : ((c : Int) == 254) = false := by rw [beq_eq_false_iff_ne]; omega
   have d3 : ((c : Int) == 255) = false := by rw [beq_eq_false_iff_ne]; omega
   have HE := Hh (show R = (c, 1, 0) by
     have hw0 : rdW c = 0 := by unfold rdW; rw [if_neg (by omega), if_neg (by omega), if_neg (by omega)]
     rw [ER.o]
     simp [rdB, hw0, rdX])
   have hw : IntKind.u64.wrap (c : Int) = (c : Int) := by rw [IntKind.wrap_u64]; omega
   clear ER hs
   go_enter Tryz.func96, Tryz.ntmps96
   go_wp2_with fail
   go_ret3
   rw [HE.o]
   exact ⟨rfl, rfl⟩
 by_cases hs253 : c = 253
 · subst hs253
   have hrd : rdB (253 :: r) = if r.length < 2 then .error 20 else if numB (r.take 2) < 253 then .error 21 else .ok (numB (r.take 2), 3) := rfl
   rw [hrd] at ER
   clear hrd
   by_cases hsh : r.length < 2
   · have HE := Hh (show R = (0, 0, 20) by rw [ER.o, if_pos hsh]; rfl)
     have hle : (L : Int) ≤ 2 := by omega
     clear ER hsh
     go_enter Tryz.func96, Tryz.ntmps96
     go_wp2_with fail
     go_ret3
     rw [HE.o]
     exact ⟨rfl, rfl⟩
   · have hle : ¬ (L : Int) ≤ 2 := by omega
     have hsl := slice_one bg bo L cv 2 (by omega) hlc (by decide)
     have HX := Hh (show R = rdX (if numB (r.take 2) < 253 then .error 21 else .ok (numB (r.take 2), 3)) by rw [ER.o, if_neg hsh])
     have Ac := Hh (show 2 ≤ r.length by omega)
     clear ER hsh
     go_enter Tryz.func96, Tryz.ntmps96
     go_wp2_with fail
     go_loop [7, 35] (fun xv iv => ∃ j : Nat, iv = .int .i64 (j : Int) ∧ j ≤ 2 ∧ xv = .int .u64 (numB (r.take j) : Int)) (fun _ iv => 2 - (intOf iv).toNat)
     case atStart => exact ⟨0, rfl, by decide, rfl⟩
     case round =>
       obtain ⟨j, rfl, hj, rfl⟩ := hrel
       by_cases hj8 : j < 2
       · have hj8' : (j : Int) < 2 := by omega
         have hjr : j < r.length := by have := Ac.o; omega
         have cb := Ae.o j hjr
         have hct := Ab.o (r.getD j 0) (by rw [List.getD_eq_getElem?_getD, List.getElem?_eq_getElem hjr]; exact List.getElem_mem _)
         obtain ⟨ct, hce⟩ : ∃ z, z = r.getD j 0 := ⟨_, rfl⟩
         rw [← hce] at cb hct
         obtain ⟨x, hxe⟩ : ∃ z, z = numB (r.take j) := ⟨_, rfl⟩
         have hx7 : x < 72057594037927936 := by rw [hxe]; exact numB_take Ab.o j (by omega)
         have Aa := Hh (show numB (r.take (j + 1)) = x * 256 + ct by rw [List.take_add_one, List.getElem?_eq_getElem hjr]; show numB (r.take j ++ [r[j]]) = _; rw [numB_snoc, ← hxe, hce, List.getD_eq_getElem?_getD, List.getElem?_eq_getElem hjr]; rfl)
         rw [← hxe]
         obtain ⟨y, hy⟩ : ∃ y, y = x * 256 + ct := ⟨_, rfl⟩
         have hor := or_byteT x ct hct (by omega)
         rw [← hy] at hor Aa
         have hat : ∀ v, (Instr.indexAt 48 (.slice (some ⟨bg, bo + 1, none⟩) 2 (cv - 1)) (.int .i64 (j : Int))).run Tryz.prog v = .ok (.pointer (some ⟨bg, bo + 1 + j, none⟩)) v := fun v => at_byte bg (bo + 1) 2 (cv - 1) j hj8 v
         clear hce hxe hy
         go_wp2_with fail
         go_round
         case rel => exact ⟨j + 1, by go_num, by omega, by rw [Aa.o]⟩
         case measure => simp [intOf]; omega
       · obtain rfl : j = 2 := by omega
         obtain ⟨x, hxe⟩ : ∃ z, z = numB (r.take 2) := ⟨_, rfl⟩
         rw [← hxe] at HX ⊢
         clear hxe
         by_cases hlt2 : x < 253
         · have hlt2' : (x : Int) < 253 := by omega
           have HE := Hh (show R = (0, 0, 21) by rw [HX.o, if_pos hlt2]; rfl)
           clear HX hlt2
           go_wp2_with fail
           go_ret3
           rw [HE.o]
           exact ⟨rfl, rfl⟩
         · have hlt2' : ¬ (x : Int) < 253 := by omega
           have HE := Hh (show R = (x, 3, 0) by rw [HX.o, if_neg hlt2]; rfl)
           clear HX hlt2
           go_wp2_with fail
           go_ret3
           rw [HE.o]
           exact ⟨rfl, rfl⟩
 by_cases hs254 : c = 254
 · subst hs254
   have hrd : rdB (254 :: r) = if r.length < 4 then .error 20 else if numB (r.take 4) < 65536 then .error 21 else .ok (numB (r.take 4), 5) := rfl
   rw [hrd] at ER
   clear hrd
   by_cases hsh : r.length < 4
   · have HE := Hh (show R = (0, 0, 20) by rw [ER.o, if_pos hsh]; rfl)
     have hle : (L : Int) ≤ 4 := by omega
     clear ER hsh
     go_enter Tryz.func96, Tryz.ntmps96
     go_wp2_with fail
     go_ret3
     rw [HE.o]
     exact ⟨rfl, rfl⟩
   · have hle : ¬ (L : Int) ≤ 4 := by omega
     have hsl := slice_one bg bo L cv 4 (by omega) hlc (by decide)
     have HX := Hh (show R = rdX (if numB (r.take 4) < 65536 then .error 21 else .ok (numB (r.take 4), 5)) by rw [ER.o, if_neg hsh])
     have Ac := Hh (show 4 ≤ r.length by omega)
     clear ER hsh
     go_enter Tryz.func96, Tryz.ntmps96
     go_wp2_with fail
     go_loop [7, 35] (fun xv iv => ∃ j : Nat, iv = .int .i64 (j : Int) ∧ j ≤ 4 ∧ xv = .int .u64 (numB (r.take j) : Int)) (fun _ iv => 4 - (intOf iv).toNat)
     case atStart => exact ⟨0, rfl, by decide, rfl⟩
     case round =>
       obtain ⟨j, rfl, hj, rfl⟩ := hrel
       by_cases hj8 : j < 4
       · have hj8' : (j : Int) < 4 := by omega
         have hjr : j < r.length := by have := Ac.o; omega
         have cb := Ae.o j hjr
         have hct := Ab.o (r.getD j 0) (by rw [List.getD_eq_getElem?_getD, List.getElem?_eq_getElem hjr]; exact List.getElem_mem _)
         obtain ⟨ct, hce⟩ : ∃ z, z = r.getD j 0 := ⟨_, rfl⟩
         rw [← hce] at cb hct
         obtain ⟨x, hxe⟩ : ∃ z, z = numB (r.take j) := ⟨_, rfl⟩
         have hx7 : x < 72057594037927936 := by rw [hxe]; exact numB_take Ab.o j (by omega)
         have Aa := Hh (show numB (r.take (j + 1)) = x * 256 + ct by rw [List.take_add_one, List.getElem?_eq_getElem hjr]; show numB (r.take j ++ [r[j]]) = _; rw [numB_snoc, ← hxe, hce, List.getD_eq_getElem?_getD, List.getElem?_eq_getElem hjr]; rfl)
         rw [← hxe]
         obtain ⟨y, hy⟩ : ∃ y, y = x * 256 + ct := ⟨_, rfl⟩
         have hor := or_byteT x ct hct (by omega)
         rw [← hy] at hor Aa
         have hat : ∀ v, (Instr.indexAt 48 (.slice (some ⟨bg, bo + 1, none⟩) 4 (cv - 1)) (.int .i64 (j : Int))).run Tryz.prog v = .ok (.pointer (some ⟨bg, bo + 1 + j, none⟩)) v := fun v => at_byte bg (bo + 1) 4 (cv - 1) j hj8 v
         clear hce hxe hy
         go_wp2_with fail
         go_round
         case rel => exact ⟨j + 1, by go_num, by omega, by rw [Aa.o]⟩
         case measure => simp [intOf]; omega
       · obtain rfl : j = 4 := by omega
         obtain ⟨x, hxe⟩ : ∃ z, z = numB (r.take 4) := ⟨_, rfl⟩
         rw [← hxe] at HX ⊢
         clear hxe
         by_cases hlt2 : x < 65536
         · have hlt2' : (x : Int) < 65536 := by omega
           have HE := Hh (show R = (0, 0, 21) by rw [HX.o, if_pos hlt2]; rfl)
           clear HX hlt2
           go_wp2_with fail
           go_ret3
           rw [HE.o]
           exact ⟨rfl, rfl⟩
         · have hlt2' : ¬ (x : Int) < 65536 := by omega
           have HE := Hh (show R = (x, 5, 0) by rw [HX.o, if_neg hlt2]; rfl)
           clear HX hlt2
           go_wp2_with fail
           go_ret3
           rw [HE.o]
           exact ⟨rfl, rfl⟩
 have Ad : c = 255 := by omega
 subst Ad
 have hrd : rdB (255 :: r) = if r.length < 8 then .error 20 else if numB (r.take 8) < 4294967296 then .error 21 else .ok (numB (r.take 8), 9) := rfl
 rw [hrd] at ER
 clear hrd
 by_cases hsh : r.length < 8
 · have HE := Hh (show R = (0, 0, 20) by rw [ER.o, if_pos hsh]; rfl)
   have hle : (L : Int) ≤ 8 := by omega
   clear ER hsh
   go_enter Tryz.func96, Tryz.ntmps96
   go_wp2_with fail
   go_ret3
   rw [HE.o]
   exact ⟨rfl, rfl⟩
 · have hle : ¬ (L : Int) ≤ 8 := by omega
   have hsl := slice_one bg bo L cv 8 (by omega) hlc (by decide)
   have HX := Hh (show R = rdX (if numB (r.take 8) < 4294967296 then .error 21 else .ok (numB (r.take 8), 9)) by rw [ER.o, if_neg hsh])
   have Ac := Hh (show 8 ≤ r.length by omega)
   clear ER hsh
   go_enter Tryz.func96, Tryz.ntmps96
   go_wp2_with fail
   go_loop [7, 35] (fun xv iv => ∃ j : Nat, iv = .int .i64 (j : Int) ∧ j ≤ 8 ∧ xv = .int .u64 (numB (r.take j) : Int)) (fun _ iv => 8 - (intOf iv).toNat)
   case atStart => exact ⟨0, rfl, by decide, rfl⟩
   case round =>
     obtain ⟨j, rfl, hj, rfl⟩ := hrel
     by_cases hj8 : j < 8
     · have hj8' : (j : Int) < 8 := by omega
       have hjr : j < r.length := by have := Ac.o; omega
       have cb := Ae.o j hjr
       have hct := Ab.o (r.getD j 0) (by rw [List.getD_eq_getElem?_getD, List.getElem?_eq_getElem hjr]; exact List.getElem_mem _)
       obtain ⟨ct, hce⟩ : ∃ z, z = r.getD j 0 := ⟨_, rfl⟩
       rw [← hce] at cb hct
       obtain ⟨x, hxe⟩ : ∃ z, z = numB (r.take j) := ⟨_, rfl⟩
       have hx7 : x < 72057594037927936 := by rw [hxe]; exact numB_take Ab.o j (by omega)
       have Aa := Hh (show numB (r.take (j + 1)) = x * 256 + ct by rw [List.take_add_one, List.getElem?_eq_getElem hjr]; show numB (r.take j ++ [r[j]]) = _; rw [numB_snoc, ← hxe, hce, List.getD_eq_getElem?_getD, List.getElem?_eq_getElem hjr]; rfl)
       rw [← hxe]
       obtain ⟨y, hy⟩ : ∃ y, y = x * 256 + ct := ⟨_, rfl⟩
       have hor := or_byteT x ct hct (by omega)
       rw [← hy] at hor Aa
       have hat : ∀ v, (Instr.indexAt 48 (.slice (some ⟨bg, bo + 1, none⟩) 8 (cv - 1)) (.int .i64 (j : Int))).run Tryz.prog v = .ok (.pointer (some ⟨bg, bo + 1 + j, none⟩)) v := fun v => at_byte bg (bo + 1) 8 (cv - 1) j hj8 v
       clear hce hxe hy
       go_wp2_with fail
       go_round
       case rel => exact ⟨j + 1, by go_num, by omega, by rw [Aa.o]⟩
       case measure => simp [intOf]; omega
     · obtain rfl : j = 8 := by omega
       obtain ⟨x, hxe⟩ : ∃ z, z = numB (r.take 8) := ⟨_, rfl⟩
       rw [← hxe] at HX ⊢
       clear hxe
       by_cases hlt2 : x < 4294967296
       · have hlt2' : (x : Int) < 4294967296 := by omega
         have HE := Hh (show R = (0, 0, 21) by rw [HX.o, if_pos hlt2]; rfl)
         clear HX hlt2
         go_wp2_with fail
         go_ret3
         rw [HE.o]
         exact ⟨rfl, rfl⟩
       · have hlt2' : ¬ (x : Int) < 4294967296 := by omega
         have HE := Hh (show R = (x, 9, 0) by rw [HX.o, if_neg hlt2]; rfl)
         clear HX hlt2
         go_wp2_with fail
         go_ret3
         rw [HE.o]
         exact ⟨rfl, rfl⟩
/- The plain law of decoding: numbers and records, back and forth. -/

theorem take_app {l t : List Nat} {n : Nat} (h : l.length = n) : (l ++ t).take n = l := by rw [← h, List.take_left']; rfl
theorem rd_big {x k c : Nat} (t : List Nat) (hc : rdW c = k) (hk : 0 < k) (hx : x < 256 ^ k) (hl : rdL k ≤ x) : rdB (c :: (bigN x k ++ t)) = .ok (x, k + 1) := by
 have e1 : (bigN x k ++ t).take k = bigN x k := take_app (bigN_len x k)
 unfold rdB
 simp only [hc, e1]
 rw [if_neg (by omega), if_neg (by rw [List.length_append, bigN_len]; omega), numB_big' x k hx, if_neg (by omega)]
theorem rd_sz (x : Nat) (hx : x < 18446744073709551616) (t : List Nat) : rdB (szB x ++ t) = .ok (x, (szB x).length) := by
 unfold szB
 by_cases h1 : x < 253
 · rw [if_pos h1]
   have hw : rdW x = 0 := by unfold rdW; rw [if_neg (by omega), if_neg (by omega), if_neg (by omega)]
   show rdB (x :: t) = _
   unfold rdB
   simp only [hw]
   rfl
 · rw [if_neg h1]
   by_cases h2 : x < 65536
   · rw [if_pos h2]
     have := rd_big (x := x) (k := 2) (c := 253) t rfl (by decide) (by show x < 65536; exact h2) (by show 253 ≤ x; omega)
     simpa [bigN_len] using this
   · rw [if_neg h2]
     by_cases h3 : x < 4294967296
     · rw [if_pos h3]
       have := rd_big (x := x) (k := 4) (c := 254) t rfl (by decide) (by show x < 4294967296; exact h3) (by show 65536 ≤ x; omega)
       simpa [bigN_len] using this
     · rw [if_neg h3]
       have := rd_big (x := x) (k := 8) (c := 255) t rfl (by decide) (by show x < 18446744073709551616; exact hx) (by show 4294967296 ≤ x; omega)
       simpa [bigN_len] using this
theorem rdW_vals {c : Nat} (h : rdW c ≠ 0) : (c = 253 ∧ rdW c = 2) ∨ (c = 254 ∧ rdW c = 4) ∨ (c = 255 ∧ rdW c = 8) := by
 unfold rdW at h ⊢
 by_cases h1 : c = 253
 · rw [if_pos h1]; exact .inl ⟨h1, rfl⟩
 · rw [if_neg h1] at h ⊢
   by_cases h2 : c = 254
   · rw [if_pos h2]; exact .inr (.inl ⟨h2, rfl⟩)
   · rw [if_neg h2] at h ⊢
     by_cases h3 : c = 255
     · rw [if_pos h3]; exact .inr (.inr ⟨h3, rfl⟩)
     · rw [if_neg h3] at h; exact absurd rfl h
theorem sz_rd {b : List Nat} (hb : ∀ y ∈ b, y < 256) {x n : Nat} (h : rdB b = .ok (x, n)) : n = (szB x).length ∧ b = szB x ++ b.drop n ∧ x < 18446744073709551616 := by
 cases b with
 | nil => cases h
 | cons c r =>
  have hc := hb c (List.mem_cons_self ..)
  have hr : ∀ y ∈ r, y < 256 := fun y hy => hb y (List.mem_cons_of_mem _ hy)
  unfold rdB at h
  by_cases hw : rdW c = 0
  · simp only [hw, if_true] at h
    cases h
    have hlt : x < 253 := by
      unfold rdW at hw
      split at hw
      · cases hw
      · split at hw
        · cases hw
        · split at hw
          · cases hw
          · omega
    have e : szB x = [x] := by unfold szB; rw [if_pos hlt]
    rw [e]
    exact ⟨rfl, rfl, by omega⟩
  · simp only [hw, if_false] at h
    split at h
    · cases h
    · rename_i hlen
      split at h
      · cases h
      · rename_i hleast
        cases h
        have htl : (r.take (rdW c)).length = rdW c := by rw [List.length_take]; omega
        have hnl := numB_lt (r.take (rdW c)) (fun y hy => hr y (List.mem_of_mem_take hy))
        have hbg := big_numB (r.take (rdW c)) (fun y hy => hr y (List.mem_of_mem_take hy))
        rw [htl] at hnl hbg
        have Aa : r = r.take (rdW c) ++ r.drop (rdW c) := (List.take_append_drop _ _).symm
        generalize hxx : numB (r.take (rdW c)) = x at hnl hbg hleast ⊢
        rcases rdW_vals hw with ⟨rfl, e⟩ | ⟨rfl, e⟩ | ⟨rfl, e⟩
        · rw [e] at hnl hbg hleast Aa ⊢
          have h1 : x < 65536 := hnl
          have h2 : ¬ x < 253 := hleast
          have es : szB x = 253 :: bigN x 2 := by unfold szB; rw [if_neg h2, if_pos h1]
          rw [es, hbg]
          refine ⟨by rw [List.length_cons, ← hbg, bigN_len], ?_, by omega⟩
          show 253 :: r = 253 :: (r.take 2 ++ r.drop 2)
          rw [← Aa]
        · rw [e] at hnl hbg hleast Aa ⊢
          have h1 : x < 4294967296 := hnl
          have h2 : ¬ x < 65536 := hleast
          have es : szB x = 254 :: bigN x 4 := by unfold szB; rw [if_neg (by omega), if_neg h2, if_pos h1]
          rw [es, hbg]
          refine ⟨by rw [List.length_cons, ← hbg, bigN_len], ?_, by omega⟩
          show 254 :: r = 254 :: (r.take 4 ++ r.drop 4)
          rw [← Aa]
        · rw [e] at hnl hbg hleast Aa ⊢
          have h1 : x < 18446744073709551616 := hnl
          have h2 : ¬ x < 4294967296 := hleast
          have es : szB x = 255 :: bigN x 8 := by unfold szB; rw [if_neg (by omega), if_neg (by omega), if_neg h2]
          rw [es, hbg]
          refine ⟨by rw [List.length_cons, ← hbg, bigN_len], ?_, h1⟩
          show 255 :: r = 255 :: (r.take 8 ++ r.drop 8)
          rw [← Aa]
/- The plain law of decoding: records, back and forth. -/

def lastT (acc : List Rec) : Nat := (acc[acc.length - 1]?.map (·.t)).getD 0
def decS (acc : List Rec) (b : List Nat) : Except Nat (List Rec × List Nat) :=
 match rdB b with
 | .error e => .error e
 | .ok p => if 0 < acc.length ∧ p.1 ≤ lastT acc then .error 22 else
  match rdB (b.drop p.2) with
  | .error e => .error e
  | .ok q => if 65536 < q.1 then .error 3 else if ((b.drop p.2).drop q.2).length < q.1 then .error 20 else if acc.length = 256 then .error 4
   else .ok (acc ++ [⟨p.1, ((b.drop p.2).drop q.2).take q.1⟩], ((b.drop p.2).drop q.2).drop q.1)
def decF : Nat → List Rec → List Nat → Except Nat (List Rec)
 | 0, _, _ => .error 0
 | f + 1, acc, b => if b = [] then .ok acc else match decS acc b with
  | .error e => .error e
  | .ok p => decF f p.1 p.2
def tdec (b : List Nat) : Except Nat (List Rec) := decF (b.length + 1) [] b
theorem recE_app {acc ys : List Rec} {k : Nat} {r : Rec} (hk : k ≤ acc.length) : recE (acc ++ ys) k r = recE acc k r := by
 unfold recE
 by_cases h : 0 < k
 · rw [List.getElem?_append_left (by omega)]
 · simp only [h, false_and, if_false]
theorem tvAt_flat {rs : List Rec} : ∀ (k : Nat) b, k ≤ rs.length → tvAt rs k = .ok b → b = (rs.take k).flatMap recB ∧ ∀ (i : Nat) r, i < k → rs[i]? = some r → recE rs i r = 0
 | 0, b, _, h => by cases h; exact ⟨rfl, fun i r hi => absurd hi (Nat.not_lt_zero i)⟩
 | k + 1, b, hk, h => by
  cases c : tvAt rs k with
  | error e => rw [tvAt_up c] at h; cases h
  | ok b0 =>
   obtain ⟨p1, p2⟩ := tvAt_flat k b0 (by omega) c
   have hr : rs[k]? = some rs[k] := List.getElem?_eq_getElem (by omega)
   rw [tvAt_succ c hr] at h
   split at h
   · rename_i h0
     cases h
     refine ⟨by rw [List.take_add_one, hr, List.flatMap_append, ← p1]; simp, fun i r hi hir => ?_⟩
     rcases Nat.lt_succ_iff_lt_or_eq.1 hi with q | q
     · exact p2 i r q hir
     · subst q
       rw [hr] at hir
       cases hir
       exact h0
   · cases h
theorem decS_rec {acc : List Rec} {r : Rec} {tl : List Nat} (ht : r.t < 18446744073709551616) (h0 : recE acc acc.length r = 0) (hn : ¬ acc.length = 256) : decS acc (recB r ++ tl) = .ok (acc ++ [r], tl) := by
 have hv : r.v.length ≤ 65536 := recB_len h0
 have e1 : rdB (recB r ++ tl) = .ok (r.t, (szB r.t).length) := by
  unfold recB
  rw [List.append_assoc]
  exact rd_sz r.t ht _
 have d1 : (recB r ++ tl).drop (szB r.t).length = szB r.v.length ++ (r.v ++ tl) := by
  unfold recB
  rw [List.append_assoc, List.drop_left', List.append_assoc]; rfl
 have e2 : rdB (szB r.v.length ++ (r.v ++ tl)) = .ok (r.v.length, (szB r.v.length).length) := rd_sz _ (by omega) _
 have d2 : (szB r.v.length ++ (r.v ++ tl)).drop (szB r.v.length).length = r.v ++ tl := by rw [List.drop_left']; rfl
 unfold decS
 rw [e1]
 dsimp only
 rw [d1, e2]
 dsimp only
 rw [d2, if_neg, if_neg (by omega), if_neg (by rw [List.length_append]; omega), if_neg hn, List.take_left' rfl, List.drop_left' rfl]
 intro hc
 unfold recE at h0
 rw [if_pos ⟨hc.1, hc.2⟩] at h0
 cases h0
theorem decF_flat {rs : List Rec} (ht : ∀ r ∈ rs, r.t < 18446744073709551616) (he : ∀ (i : Nat) r, rs[i]? = some r → recE rs i r = 0) (hl : rs.length ≤ 256) : ∀ (f k : Nat), k ≤ rs.length → rs.length - k < f → decF f (rs.take k) ((rs.drop k).flatMap recB) = .ok rs
 | 0, k, _, h => absurd h (Nat.not_lt_zero _)
 | f + 1, k, hk, h => by
  by_cases hkn : k = rs.length
  · subst hkn
    rw [List.drop_length, List.take_length]
    rfl
  · have hr : rs[k]? = some rs[k] := List.getElem?_eq_getElem (by omega)
    have hd : rs.drop k = rs[k] :: rs.drop (k + 1) := List.drop_eq_getElem_cons (by omega)
    rw [hd, List.flatMap_cons]
    have htl : (rs.take k).length = k := by rw [List.length_take]; omega
    have h0 : recE (rs.take k) (rs.take k).length rs[k] = 0 := by
     have key : ∀ x : Rec, recE rs k x = recE (rs.take k) k x := fun x => by
      have := recE_app (acc := rs.take k) (ys := rs.drop k) (k := k) (r := x) (by rw [htl]; exact Nat.le_refl _)
      rwa [List.take_append_drop] at this
     rw [htl, ← key]
     exact he k _ hr
    have hs := decS_rec (acc := rs.take k) (r := rs[k]) (tl := (rs.drop (k + 1)).flatMap recB) (ht _ (List.getElem_mem _)) h0 (by rw [htl]; omega)
    have hne : ¬ recB rs[k] ++ (rs.drop (k + 1)).flatMap recB = [] := by
     intro e
     have := (szB_len rs[k].t).2
     have h2 := congrArg List.length e
     unfold recB at h2
     rw [List.length_append, List.length_append] at h2
     simp only [List.length_nil] at h2
     omega
    unfold decF
    rw [if_neg hne, hs]
    dsimp only
    have e3 : rs.take k ++ [rs[k]] = rs.take (k + 1) := by rw [List.take_add_one, hr]; rfl
    rw [e3]
    exact decF_flat ht he hl f (k + 1) (by omega) (by omega)
theorem recB_pos (x : Rec) : 0 < (recB x).length := by
 have := (szB_len x.t).2
 unfold recB
 rw [List.length_append]
 omega
theorem dec_enc {rs : List Rec} {b : List Nat} (ht : ∀ r ∈ rs, r.t < 18446744073709551616) (h : tvEnc rs = .ok b) : tdec b = .ok rs := by
 unfold tvEnc at h
 split at h
 · cases h
 · rename_i hl
   obtain ⟨p1, p2⟩ := tvAt_flat rs.length b (Nat.le_refl _) h
   rw [List.take_length] at p1
   have Aa : ∀ xs : List Rec, xs.length ≤ (xs.flatMap recB).length := by
    intro xs
    induction xs with
    | nil => exact Nat.le_refl _
    | cons x xs ih =>
     have := recB_pos x
     rw [List.flatMap_cons, List.length_append, List.length_cons]
     omega
   have := decF_flat ht (fun i r hi => p2 i r (List.getElem?_eq_some_iff.1 hi).1 hi) (by omega) (b.length + 1) 0 (Nat.zero_le _) (by rw [p1]; have := Aa rs; omega)
   rw [List.take_zero, List.drop_zero, ← p1] at this
   exact this
/- The walk of tlv's Decode. -/

theorem decF_stop {f : Nat} {acc : List Rec} {b : List Nat} (h : b = []) : decF (f + 1) acc b = .ok acc := by
 unfold decF
 rw [if_pos h]
theorem decF_err {f e : Nat} {acc : List Rec} {b : List Nat} (h : b ≠ []) (hs : decS acc b = .error e) : decF (f + 1) acc b = .error e := by
 unfold decF
 rw [if_neg h, hs]
theorem decF_step {f : Nat} {acc : List Rec} {b : List Nat} {p : List Rec × List Nat} (h : b ≠ []) (hs : decS acc b = .ok p) : decF (f + 1) acc b = decF f p.1 p.2 := by
 conv => lhs; unfold decF
 rw [if_neg h, hs]
theorem bytes_from {w : World} {a : Option Addr} {n c k : Nat} {l : List Nat} (h : Bytes w w.heap.size (.slice a n c) l) (hk : k ≤ n) : ∃ a', (∀ v : World, (Instr.slice 48 (.slice a n c) (some (.int .i64 (k : Int))) none none).run Tryz.prog v = .ok (.slice a' (n - k) (c - k)) v) ∧ Bytes w w.heap.size (.slice a' (n - k) (c - k)) (l.drop k) := by
 obtain ⟨h1, h2, h3, h4⟩ := h.openT
 have hu : Tryz.prog.underlying 48 = some (.slice (Tryz.prog.elem 48)) := by kernel_rfl
 have he : Tryz.prog.elem 48 = 5 := by kernel_rfl
 have hz : ∀ w, (sizeOf 5).run Tryz.prog w = .ok 1 w := fun w => by kernel_rfl
 refine ⟨if c = k then a else a.map fun x => x.add (k * 1), fun v => ?_, ?_⟩
 · rw [run_slice_l v 48 a n c hu .i64 (k : Int) (by omega) (by omega), he, hz]
   simp only [Result.andThen, sliced, Int.toNat_natCast]
 · refine ⟨_, _, by rw [List.length_drop, ← h1], by rw [List.length_drop, ← h1]; omega, fun x hx => h3 x (List.mem_of_mem_drop hx), fun hpos => ?_⟩
   rw [List.length_drop, ← h1] at hpos
   obtain ⟨bg, bo, rfl, hbg, hc⟩ := h4 (by omega)
   refine ⟨bg, bo + k, by rw [if_neg (by omega)]; simp [Addr.add_mid], by omega, fun i hi => ?_⟩
   rw [List.length_drop, ← h1] at hi
   have := hc (k + i) (by omega)
   rw [Nat.add_assoc, this]
   simp [List.getD_eq_getElem?_getD, List.getElem?_drop]
theorem bytes_upto {w : World} {a : Option Addr} {n c k : Nat} {l : List Nat} (h : Bytes w w.heap.size (.slice a n c) l) (hk : k ≤ n) : ∃ a', (∀ v : World, (Instr.slice 48 (.slice a n c) none (some (.int .u64 (k : Int))) none).run Tryz.prog v = .ok (.slice a' k c) v) ∧ Bytes w w.heap.size (.slice a' k c) (l.take k) := by
 obtain ⟨h1, h2, h3, h4⟩ := h.openT
 have hu : Tryz.prog.underlying 48 = some (.slice (Tryz.prog.elem 48)) := by kernel_rfl
 have he : Tryz.prog.elem 48 = 5 := by kernel_rfl
 have hz : ∀ w, (sizeOf 5).run Tryz.prog w = .ok 1 w := fun w => by kernel_rfl
 have hlt : (l.take k).length = k := by rw [List.length_take]; omega
 refine ⟨if c - 0 = 0 then a else a.map fun x => x.add (0 * 1), fun v => ?_, ?_⟩
 · rw [run_slice_h v 48 a n c hu .u64 (k : Int) (by omega) (by omega), he, hz]
   simp only [Result.andThen, sliced, Int.toNat_natCast, Nat.sub_zero]
 · refine ⟨_, _, by rw [hlt], by rw [hlt]; omega, fun x hx => h3 x (List.mem_of_mem_take hx), fun hpos => ?_⟩
   rw [hlt] at hpos
   obtain ⟨bg, bo, rfl, hbg, hc⟩ := h4 (by omega)
   refine ⟨bg, bo, by rw [if_neg (by omega)]; simp [Addr.add_mid], by omega, fun i hi => ?_⟩
   rw [hlt] at hi
   rw [hc i (by omega)]
   simp [List.getD_eq_getElem?_getD, List.getElem?_take, hi]
end Go.Proofs.YtknfbccbdiidjaaGreatDoor
