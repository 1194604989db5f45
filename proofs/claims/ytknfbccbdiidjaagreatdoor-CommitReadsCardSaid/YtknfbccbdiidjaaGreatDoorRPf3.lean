/- The walk of Root: the root that a leaf has by a proof. -/
import Derived.Test.YtknfbccbdiidjaaGreatDoorWs
import Derived.Test.YtknfbccbdiidjaaGreatDoorRPf2
namespace Go.Proofs.YtknfbccbdiidjaaGreatDoor
set_option linter.unusedVariables false
set_option linter.unusedSimpArgs false
open Go.ChangeShapes Go.WideShapes Go.ChangeAt Go.RowKit Go.Maps

theorem two_nodes (W : World) (Z A B : Array Value) :
  Has ((W.alloc (.cells Z 30)).alloc (.cells Z 30)) W.heap.size 30 Z ∧
  Has (((W.alloc (.cells Z 30)).alloc (.cells Z 30)).setRow W.heap.size A) (W.heap.size + 1) 30 Z ∧
  Has ((((W.alloc (.cells Z 30)).alloc (.cells Z 30)).setRow W.heap.size A).setRow (W.heap.size + 1) B) W.heap.size 30 A ∧
  Has ((((W.alloc (.cells Z 30)).alloc (.cells Z 30)).setRow W.heap.size A).setRow (W.heap.size + 1) B) (W.heap.size + 1) 30 B ∧
  Below W.heap.size W ((((W.alloc (.cells Z 30)).alloc (.cells Z 30)).setRow W.heap.size A).setRow (W.heap.size + 1) B) := by
 have h1 := (Has.new W 30 Z).alloc (.cells Z 30)
 have h2 : Has ((W.alloc (.cells Z 30)).alloc (.cells Z 30)) (W.heap.size + 1) 30 Z := by
  have := Has.new (W.alloc (.cells Z 30)) 30 Z
  simpa using this
 have k1 := kept_setRow (g := W.heap.size) ((W.alloc (.cells Z 30)).alloc (.cells Z 30)) A
 have h3 : Has (((W.alloc (.cells Z 30)).alloc (.cells Z 30)).setRow W.heap.size A) (W.heap.size + 1) 30 Z := h2.kept k1 (by show ¬ W.heap.size + 1 = W.heap.size; omega)
 have k2 := kept_setRow (g := W.heap.size + 1) (((W.alloc (.cells Z 30)).alloc (.cells Z 30)).setRow W.heap.size A) B
 have hb : Below W.heap.size W ((W.alloc (.cells Z 30)).alloc (.cells Z 30)) := ((Below.refl _ _).alloc (Nat.le_refl _) _).alloc (by simp) _
 have s1 := k1.size
 have s2 := k2.size
 have s0 := hb.size
 refine ⟨h1, h3, (h1.setRow).kept k2 (by show ¬ W.heap.size = W.heap.size + 1; omega), h3.setRow, ?_⟩
 exact (hb.trans (k1.below (by omega) (fun k e => by have e' : k = W.heap.size := e; omega))).trans (k2.below (by omega) (fun k e => by have e' : k = W.heap.size + 1 := e; omega))
set_option maxRecDepth 100000 in
set_option maxHeartbeats 8000000 in
theorem pfRoot_is (K s0 : List Wd) (w : World) (hT : Tabs K s0 w) (bb : List Nat) (hbb : IsHash bb) (a : Option Addr) (n c : Nat) (xs : List Nd) (hxs : NodesAt w a n xs) (hn : n ≤ 1000000)
  (key : List Nat) (hkey : IsHash key) (av : Option Addr) (bs : List Nat) (cv s : Nat) (hB : Bytes w w.heap.size (.slice av bs.length cv) bs) (hl : bs.length ≤ 1000000) (hs : s < 18446744073709551616) (R : Except Nat Nd)
  (hR : R = pfRoot K s0 (bareB bb) key xs (leafNd K s0 bs s)) :
  Calls Tryz.prog 16 #[.agg (pcells bb a n c).toArray, arr key, leafV (.slice av bs.length cv) s] w fun e w' => e = .returned (.tuple #[.agg (ndV (pfN R)).toArray, .int .i64 (pfE R : Nat)]) ∧ Below w.heap.size w w' := by
 obtain ⟨Z, hz, hZs, hZn, hZ⟩ := zero_node
 obtain ⟨n0, hn0⟩ : ∃ x, x = leafNd K s0 bs s := ⟨_, rfl⟩
 obtain ⟨LP, hLP⟩ : ∃ L, L = pcells bb a n c := ⟨_, rfl⟩
 obtain ⟨CK, hCK⟩ : ∃ L, L = bcells key := ⟨_, rfl⟩
 obtain ⟨nb, hnb⟩ : ∃ x, x = bs.length := ⟨_, rfl⟩
 have lp : LP.length = 33 := by rw [hLP]; exact pcells_len hbb a n c
 have lk : CK.length = 32 := by rw [hCK, bcells_length, hkey.1]
 have hlow := hT.low
 unfold arr leafV
 rw [← hLP, ← hCK, ← hnb]
 rw [← hn0] at hR
 have hZz : Z = (ndV zNd).toArray := hZ
 have hbd : ∀ W, (Instr.build 30 #[]).run Tryz.prog W = .ok (.agg Z) W := fun W => by rw [hZ]; kernel_rfl
 have HBD := Lib.hid hbd
 have SZP := Lib.hid (show (Tryz.prog.info? 39).map (·.size) = some LP.toArray.size by rw [List.size_toArray, lp]; kernel_rfl)
 have SZK := Lib.hid (show (Tryz.prog.info? 27).map (·.size) = some CK.toArray.size by rw [List.size_toArray, lk]; kernel_rfl)
 have SZZ := Lib.hid (show (Tryz.prog.info? 30).map (·.size) = some Z.size by rw [hZs]; kernel_rfl)
 have ONEZ := Lib.hid (show Z.all (·.oneCell') = true by rw [hZ]; exact all_oneCell_toArray (ncells_one _ _))
 have SZN := Lib.hid (show ∀ x : Nd, IsHash x.h → (Tryz.prog.info? 30).map (·.size) = some (ndV x).toArray.size from fun x hx => by rw [List.size_toArray, ndV_len hx]; kernel_rfl)
 have SZL := Lib.hid (show ∀ x : Nd, IsHash x.h → (Tryz.prog.info? 30).map (·.size) = some (ndV x).length from fun x hx => by rw [ndV_len hx]; kernel_rfl)
 have HZN := Lib.hid (show ∀ x : Nd, IsHash x.h → Z.size = (ndV x).toArray.size from fun x hx => by rw [hZs, List.size_toArray, ndV_len hx])
 have HNN := Lib.hid (show ∀ x y : Nd, IsHash x.h → IsHash y.h → (ndV x).toArray.size = (ndV y).toArray.size from fun x y hx hy => by rw [List.size_toArray, List.size_toArray, ndV_len hx, ndV_len hy])
 have hrow : LP[32]? = some (.slice a n c) := by rw [hLP]; exact pcells_row hbb a n c
 have hn0h : IsHash n0.h := by rw [hn0]; exact leaf_hash K s0 hT.len bs s
 have hn0s : n0.s = s := by rw [hn0]; rfl
 have hleaf : ∀ W, Below w.heap.size w W → Calls Tryz.prog 48 #[.agg #[.slice av nb cv, .int .u64 (s : Int)]] W fun e w' => e = .returned (.agg (ndV n0).toArray) ∧ Below W.heap.size W w' := fun W hW => by
  rw [hn0]
  have := leafNode_is K s0 W (.slice av bs.length cv) bs s (hT.below hW hlow) (hB.alive hW hW.size) hl hs
  rw [← hnb] at this
  exact this
 have hemp : ∀ W, Below w.heap.size w W → Calls Tryz.prog 49 #[.int .i64 0] W fun e w' => e = .returned (.agg (ndV (emptyNd K s0 0)).toArray) ∧ Below W.heap.size W w' := fun W hW =>
  empty_in K s0 W (hT.below hW hlow) 0 (by decide)
 have hbare : ∀ W h, h < 256 → Calls Tryz.prog 50 #[.agg LP.toArray, .int .i64 ((h : Nat) : Int)] W fun e w' => e = .returned (.bool (bareB bb h)) ∧ Below W.heap.size W w' := fun W h hh => by
  rw [hLP]
  exact (bare_is W bb hbb a n c h hh).mono fun e w' ⟨h1, h2⟩ => ⟨h1, by rw [h2]; exact (Below.refl _ _).alloc (Nat.le_refl _) _⟩
 have hbit : ∀ W h, h < 256 → Calls Tryz.prog 51 #[.agg CK.toArray, .int .i64 ((h : Nat) : Int)] W fun e w' => e = .returned (.int .i64 (bitAt key h : Nat)) ∧ Below W.heap.size W w' := fun W h hh => by
  rw [hCK]
  exact (bit_in key (h : Int) W hkey.1 (by omega) (by omega)).mono fun e w' ⟨h1, h2⟩ => ⟨by rw [h1, Int.toNat_natCast], by rw [h2]; exact (Below.refl _ _).alloc (Nat.le_refl _) _⟩
 have HT := Lib.hid hT
 have HXS := Lib.hid hxs
 have HLEAF := Lib.hid hleaf
 have HEMP := Lib.hid hemp
 have HBARE := Lib.hid hbare
 have HBIT := Lib.hid hbit
 have HROW := Lib.hid hrow
 have EN0 := Lib.hid (And.intro hn0h hn0s)
 have ER := Lib.hid hR
 have EZ := Lib.hid hZz
 have HS := Lib.hid hs
 clear hZ hZz hn0 hLP hCK hnb hbd hrow hleaf hemp hbare hbit hT hxs hB hl hn0h hn0s hR hZs lp lk hkey hbb hs
 go_enter Tryz.func16, Tryz.ntmps16
 go_upto_region 1 with (fail)
 have h3 : Has ((((w.alloc (.cells LP.toArray 39)).alloc (.cells CK.toArray 27)).alloc (.cells #[.slice av nb cv, .int .u64 (s : Int)] 50)).alloc (.cells Z 30)) w.heap.size 39 LP.toArray := (((Has.new w _ _).alloc _).alloc _).alloc _
 have h4 : Has ((((w.alloc (.cells LP.toArray 39)).alloc (.cells CK.toArray 27)).alloc (.cells #[.slice av nb cv, .int .u64 (s : Int)] 50)).alloc (.cells Z 30)) (w.heap.size + 1) 27 CK.toArray := by
  have := Has.new (w.alloc (.cells LP.toArray 39)) 27 CK.toArray
  exact ((by simpa using this : Has _ (w.heap.size + 1) _ _).alloc _).alloc _
 have h5 : Has ((((w.alloc (.cells LP.toArray 39)).alloc (.cells CK.toArray 27)).alloc (.cells #[.slice av nb cv, .int .u64 (s : Int)] 50)).alloc (.cells Z 30)) (w.heap.size + 1 + 1) 50 #[.slice av nb cv, .int .u64 (s : Int)] := by
  have := Has.new ((w.alloc (.cells LP.toArray 39)).alloc (.cells CK.toArray 27)) 50 #[.slice av nb cv, .int .u64 (s : Int)]
  exact (by simpa using this : Has _ (w.heap.size + 1 + 1) _ _).alloc _
 have h6 : Has ((((w.alloc (.cells LP.toArray 39)).alloc (.cells CK.toArray 27)).alloc (.cells #[.slice av nb cv, .int .u64 (s : Int)] 50)).alloc (.cells Z 30)) (w.heap.size + 1 + 1 + 1) 30 Z := by
  have := Has.new (((w.alloc (.cells LP.toArray 39)).alloc (.cells CK.toArray 27)).alloc (.cells #[.slice av nb cv, .int .u64 (s : Int)] 50)) 30 Z
  simpa using this
 have hb1 : Below w.heap.size w ((((w.alloc (.cells LP.toArray 39)).alloc (.cells CK.toArray 27)).alloc (.cells #[.slice av nb cv, .int .u64 (s : Int)] 50)).alloc (.cells Z 30)) :=
  ((((Below.refl _ _).alloc (Nat.le_refl _) _).alloc (by simp) _).alloc (by simp; omega) _).alloc (by simp; omega) _
 generalize (((w.alloc (.cells LP.toArray 39)).alloc (.cells CK.toArray 27)).alloc (.cells #[.slice av nb cv, .int .u64 (s : Int)] 50)).alloc (.cells Z 30) = W1 at h3 h4 h5 h6 hb1 ⊢
 have H3 := Lib.hid h3
 have H4 := Lib.hid h4
 have H5 := Lib.hid h5
 have H6 := Lib.hid h6
 have HB1 := Lib.hid hb1
 have SZF := Lib.hid (show (Tryz.prog.info? 50).map (·.size) = some (#[Value.slice av nb cv, .int .u64 (s : Int)] : Array Value).size by kernel_rfl)
 clear h3 h4 h5 h6 hb1
 go_wp2_with (refine wpList_load_row rfl 50 (.tmp 5) rfl (w.heap.size + 1 + 1) rfl 50 #[.slice av nb cv, .int .u64 (s : Int)] (0, 0) _ H5.out Tryz.underlying50 rfl SZF.out ?_)
 refine (HLEAF.out _ HB1.out).mono ?_
 rintro _ w2 ⟨rfl, hb2⟩
 have HB2 := Lib.hid (HB1.out.trans (hb2.mono HB1.out.size))
 have HS2 := Lib.hid hb2
 clear hb2
 go_wp2_with fail
 refine (HEMP.out _ HB2.out).mono ?_
 rintro _ w3 ⟨rfl, hb3⟩
 obtain ⟨t1, t2, t3, t4, t5⟩ := two_nodes w3 Z (ndV n0).toArray (ndV (emptyNd K s0 0)).toArray
 have HT1 := Lib.hid t1
 have HT2 := Lib.hid t2
 have hb13 : Below W1.heap.size W1 w3 := HS2.out.trans (hb3.mono HS2.out.size)
 have hg : RootG w w.heap.size (w.heap.size + 1) (w.heap.size + 1 + 1 + 1) w3.heap.size (w3.heap.size + 1) := ⟨by have := H6.out.lt; have := hb13.size; omega⟩
 have hrw : RootW w w.heap.size (w.heap.size + 1) (w.heap.size + 1 + 1 + 1) w3.heap.size (w3.heap.size + 1) LP CK Z (ndV n0) (ndV (emptyNd K s0 0)) ((((w3.alloc (.cells Z 30)).alloc (.cells Z 30)).setRow w3.heap.size (ndV n0).toArray).setRow (w3.heap.size + 1) (ndV (emptyNd K s0 0)).toArray) :=
  ⟨(H3.out.below hb13 H3.out.lt).below t5 (by have := H3.out.lt; have := hb13.size; omega), (H4.out.below hb13 H4.out.lt).below t5 (by have := H4.out.lt; have := hb13.size; omega), (H6.out.below hb13 H6.out.lt).below t5 (by have := H6.out.lt; have := hb13.size; omega), t3, t4,
    (HB1.out.trans (hb13.mono HB1.out.size)).trans (t5.mono (by have := HB1.out.size; have := hb13.size; omega))⟩
 have HG := Lib.hid hg
 have HRW := Lib.hid hrw
 have HE0 := Lib.hid (show IsHash (emptyNd K s0 0).h from empty_hash K s0 HT.out.len 0)
 clear hb3 t1 t2 t3 t4 t5 hb13 hg hrw HS2 HB2 H3 H4 H5 H6 HB1 HLEAF HEMP
 go_upto_region 2 with (first
  | (refine wpList_store_row rfl 30 (.tmp 9) (.tmp 15) rfl w3.heap.size (ndV n0).toArray rfl rfl 30 Z HT1.out (SZN.out _ EN0.out.1) (HZN.out _ EN0.out.1) (ndV_one _) ?_)
  | (refine wpList_store_row rfl 30 (.tmp 10) (.tmp 16) rfl (w3.heap.size + 1) (ndV (emptyNd K s0 0)).toArray rfl rfl 30 Z HT2.out (SZN.out _ HE0.out) (HZN.out _ HE0.out) (ndV_one _) ?_))
 generalize ((((w3.alloc (.cells Z 30)).alloc (.cells Z 30)).setRow w3.heap.size (ndV n0).toArray).setRow (w3.heap.size + 1) (ndV (emptyNd K s0 0)).toArray) = W4 at HRW ⊢
 obtain ⟨G10, hG10⟩ : ∃ g, g = w3.heap.size + 1 := ⟨_, rfl⟩
 rw [← hG10] at HRW HG ⊢
 obtain ⟨G9, hG9⟩ : ∃ g, g = w3.heap.size := ⟨_, rfl⟩
 rw [← hG9] at HRW HG ⊢
 obtain ⟨G6, hG6⟩ : ∃ g, g = w.heap.size + 1 + 1 + 1 := ⟨_, rfl⟩
 rw [← hG6] at HRW HG ⊢
 obtain ⟨G4, hG4⟩ : ∃ g, g = w.heap.size + 1 := ⟨_, rfl⟩
 rw [← hG4] at HRW HG ⊢
 clear hG10 hG9 hG6 hG4 HT1 HT2
 go_wp2_with fail
 go_loopw [8, 17] (fun uv iv wr => ∃ (u h : Nat) (nd : Nd), uv = .int .i64 (u : Int) ∧ iv = .int .i64 (h : Int) ∧ h ≤ 256 ∧ pfAt K s0 (bareB bb) key xs n0 h = .ok (nd, u) ∧ RootW w w.heap.size G4 G6 G9 G10 LP CK Z (ndV nd) (ndV (emptyNd K s0 h)) wr) (fun _ iv _ => 256 - (intOf iv).toNat)
 case atStart => exact ⟨0, 0, n0, rfl, rfl, Nat.zero_le _, rfl, HRW.out⟩
 case round =>
  clear HRW HE0
  obtain ⟨u, h, nd, rfl, rfl, hh, hpf, hrw⟩ := hrel
  have hnh : IsHash nd.h := pfAt_hash HT.out.len EN0.out.1 h hpf
  have hns : nd.s < 18446744073709551616 := pfAt_fits (by rw [EN0.out.2]; exact HS.out) h hpf
  have hun : u ≤ n := by have := (pfAt_sum h hpf).1; rw [HXS.out.len] at this; exact this
  have heh : IsHash (emptyNd K s0 h).h := empty_hash K s0 HT.out.len h
  have HRW := Lib.hid hrw
  have HPF := Lib.hid hpf
  have HNH := Lib.hid hnh
  have HNS := Lib.hid hns
  have HEH := Lib.hid heh
  clear hpf hrw hnh hns heh
  by_cases hlt : h < 256
  · have hlt' : (h : Int) < 256 := by omega
    go_upto_region 6 with (first
      | (refine wpList_load_row rfl 30 (.tmp 10) rfl G10 rfl 30 (ndV (emptyNd K s0 h)).toArray (0, 0) _ HRW.out.e Tryz.underlying30 rfl (SZN.out _ HEH.out) ?_)
      | (refine wpList_store_row rfl 30 (.tmp 12) (.tmp 20) rfl wr.heap.size (ndV (emptyNd K s0 h)).toArray rfl rfl 30 Z (heap_alloc_new wr _) (SZN.out _ HEH.out) (HZN.out _ HEH.out) (ndV_one _) ?_))
    obtain ⟨hw5, h12⟩ := HRW.out.box Z (ndV (emptyNd K s0 h))
    have hg12 : G10 < wr.heap.size := HRW.out.e.lt
    generalize (wr.alloc (.cells Z 30)).setRow wr.heap.size (ndV (emptyNd K s0 h)).toArray = W5 at hw5 h12 ⊢
    generalize wr.heap.size = G12 at h12 hg12 ⊢
    have HW5 := Lib.hid hw5
    have H12 := Lib.hid h12
    clear hw5 h12 HRW
    go_wp2_with (refine wpList_load_row rfl 39 (.tmp 3) rfl w.heap.size rfl 39 LP.toArray (0, 0) _ HW5.out.p Tryz.underlying39 rfl SZP.out ?_)
    refine (HBARE.out _ h hlt).mono ?_
    rintro _ w6 ⟨rfl, hb6⟩
    have HW6 := Lib.hid (HW5.out.below hb6)
    have H126 := Lib.hid (H12.out.below hb6 H12.out.lt)
    obtain ⟨bt, hbt⟩ : ∃ b, b = bareB bb h := ⟨_, rfl⟩
    rw [← hbt]
    have EBT := Lib.hid hbt
    have c32 := HW6.out.p.cell_is (i := 32) (by rw [List.getElem?_toArray]; exact HROW.out)
    clear hb6 hbt H12 HW5
    go_upto_if 24 with (fail)
    go_cut [8] from 18 to 68 (fun uv wx => ∃ (u' : Nat) (x : Nd), uv = .int .i64 (u' : Int) ∧ u' ≤ n ∧ IsHash x.h ∧ x.s < 18446744073709551616 ∧ pfAt K s0 (bareB bb) key xs n0 (h + 1) = pfBr K s0 key h nd x u' ∧ RootW w w.heap.size G4 G6 G9 G10 LP CK Z (ndV nd) (ndV (emptyNd K s0 h)) wx ∧ Has wx G12 30 (ndV x).toArray)
    case first =>
      as_aux_lemma =>
        cases bt with
        | true =>
         have HFIN := Lib.hid (pfAt_bare h HPF.out EBT.out.symm)
         go_wp2
         go_meet
         case rel => exact ⟨u, emptyNd K s0 h, rfl, hun, HEH.out, by rw [empty_sum]; decide, HFIN.out, HW6.out, H126.out⟩
        | false =>
         by_cases hu : u = n
         · have hue : ((u : Int) == (n : Int)) = true := by rw [beq_iff_eq]; omega
           have HRES := Lib.hid (show R = .error 20 by
            rw [ER.out]
            exact pf_err (h := h + 1) (by omega) (pfAt_none h HPF.out EBT.out.symm (List.getElem?_eq_none (by rw [HXS.out.len]; omega))))
           have hset : Has (w6.setRow G6 Z) G6 30 Z := HW6.out.r.setRow
           have hbf : Below w.heap.size w (w6.setRow G6 Z) := HW6.out.bel.trans ((kept_setRow (g := G6) w6 Z).below HW6.out.bel.size (fun j e => by have e' : j = G6 := e; have := HG.out.base; omega))
           have HSET := Lib.hid hset
           have HBF := Lib.hid hbf
           clear hset hbf hu
           go_wp2_with (first
            | (refine wpList_build_run (by kernel_rfl) 30 _ rfl #[] (by kernel_rfl) (.agg Z) (HBD.out _) ?_)
            | (refine wpList_store_row rfl 30 (.tmp 6) (.tmp 30) rfl G6 Z rfl rfl 30 Z HW6.out.r SZZ.out rfl ONEZ.out ?_))
           refine bodyPost_ret (results_cell_tmp rfl _ _ G6 30 Z (0, 0) _ rfl rfl HSET.out Tryz.underlying30 SZZ.out) rfl ?_
           exact ⟨by rw [HRES.out, EZ.out]; rfl, HBF.out⟩
         · have hult : u < n := by omega
           have hue : ((u : Int) == (n : Int)) = false := by rw [beq_eq_false_iff_ne]; omega
           obtain ⟨x, hx⟩ : ∃ x, xs[u]? = some x := ⟨_, List.getElem?_eq_getElem (by rw [HXS.out.len]; exact hult)⟩
           have hxh : IsHash x.h := HXS.out.hash x (List.mem_of_getElem? hx)
           have hxs9 : x.s < 18446744073709551616 := HXS.out.fits x (List.mem_of_getElem? hx)
           obtain ⟨b, o, ha, hbl, hr⟩ := (HXS.out.below HW6.out.bel).at_ (by omega)
           subst ha
           have hrx := hr u x hx
           have hat := at_nodeo b o n c u hult
           have hset : Has (w6.setRow G12 (ndV x).toArray) G12 30 (ndV x).toArray := H126.out.setRow
           have hk12 := kept_setRow (g := G12) w6 (ndV x).toArray
           have hg := HG.out.base
           have hrw7 : RootW w w.heap.size G4 G6 G9 G10 LP CK Z (ndV nd) (ndV (emptyNd K s0 h)) (w6.setRow G12 (ndV x).toArray) :=
            ⟨HW6.out.p.kept hk12 (by show ¬ w.heap.size = G12; omega), HW6.out.k.kept hk12 (by show ¬ G4 = G12; omega), HW6.out.r.kept hk12 (by show ¬ G6 = G12; omega), HW6.out.n.kept hk12 (by show ¬ G9 = G12; omega), HW6.out.e.kept hk12 (by show ¬ G10 = G12; omega), HW6.out.bel.trans (hk12.below HW6.out.bel.size (fun j e => by have e' : j = G12 := e; omega))⟩
           have HRX := Lib.hid hrx
           have HSET := Lib.hid hset
           have HRW7 := Lib.hid hrw7
           have HX := Lib.hid hx
           have HXH := Lib.hid hxh
           have HX9 := Lib.hid hxs9
           have hcmp := nd_any x (emptyNd K s0 h) hxh HEH.out
           obtain ⟨sm, hsm⟩ : ∃ b, b = ndSame x (emptyNd K s0 h) := ⟨_, rfl⟩
           rw [← hsm] at hcmp
           have ESM := Lib.hid hsm
           have hun1 : u + 1 ≤ n := hult
           have hzr : RootW w w.heap.size G4 G6 G9 G10 LP CK Z (ndV nd) (ndV (emptyNd K s0 h)) (w6.setRow G12 (ndV x).toArray) → Has ((w6.setRow G12 (ndV x).toArray).setRow G6 Z) G6 30 Z ∧ Below w.heap.size w ((w6.setRow G12 (ndV x).toArray).setRow G6 Z) := fun q =>
            ⟨q.r.setRow, q.bel.trans ((kept_setRow (g := G6) (w6.setRow G12 (ndV x).toArray) Z).below q.bel.size (fun j e => by have e' : j = G6 := e; omega))⟩
           have HZR := Lib.hid (hzr hrw7)
           clear hx hxh hxs9 hr hrx hset hk12 hrw7 hsm hzr hbl hg hu
           go_upto_region 10 with (first
            | (refine wpList_load_mid rfl 30 (.tmp 34) rfl b (o + u * 33) rfl (ndV x) _ HRX.out Tryz.underlying30 rfl (SZL.out x HXH.out) ?_)
            | (refine wpList_store_row rfl 30 (.tmp 12) (.tmp 35) rfl G12 (ndV x).toArray rfl rfl 30 (ndV (emptyNd K s0 h)).toArray H126.out (SZN.out _ HXH.out) (HNN.out _ _ HEH.out HXH.out) (ndV_one _) ?_))
           generalize w6.setRow G12 (ndV x).toArray = W7 at HSET HRW7 HZR ⊢
           clear c32 HRX H126 HW6
           cases sm with
           | true =>
            have HRES := Lib.hid (show R = .error 21 by
             rw [ER.out]
             exact pf_err (h := h + 1) (by omega) (pfAt_form h HPF.out EBT.out.symm HX.out ESM.out.symm))
            go_wp2_with (first
             | (refine wpList_load_row rfl 30 (.tmp 12) rfl G12 rfl 30 (ndV x).toArray (0, 0) _ HSET.out Tryz.underlying30 rfl (SZN.out _ HXH.out) ?_)
             | (refine wpList_load_row rfl 30 (.tmp 10) rfl G10 rfl 30 (ndV (emptyNd K s0 h)).toArray (0, 0) _ HRW7.out.e Tryz.underlying30 rfl (SZN.out _ HEH.out) ?_)
             | (refine wpList_build_run (by kernel_rfl) 30 _ rfl #[] (by kernel_rfl) (.agg Z) (HBD.out _) ?_)
             | (refine wpList_store_row rfl 30 (.tmp 6) (.tmp 39) rfl G6 Z rfl rfl 30 Z HRW7.out.r SZZ.out rfl ONEZ.out ?_))
            refine bodyPost_ret (results_cell_tmp rfl _ _ G6 30 Z (0, 0) _ rfl rfl HZR.out.1 Tryz.underlying30 SZZ.out) rfl ?_
            exact ⟨by rw [HRES.out, EZ.out]; rfl, HZR.out.2⟩
           | false =>
            have HFIN := Lib.hid (pfAt_node h HPF.out EBT.out.symm HX.out ESM.out.symm)
            have hul : (u : Int) + 1 ≤ 1000001 := by omega
            go_wp2_with (first
             | (refine wpList_load_row rfl 30 (.tmp 12) rfl G12 rfl 30 (ndV x).toArray (0, 0) _ HSET.out Tryz.underlying30 rfl (SZN.out _ HXH.out) ?_)
             | (refine wpList_load_row rfl 30 (.tmp 10) rfl G10 rfl 30 (ndV (emptyNd K s0 h)).toArray (0, 0) _ HRW7.out.e Tryz.underlying30 rfl (SZN.out _ HEH.out) ?_))
            go_meet
            case rel => exact ⟨u + 1, x, by go_num, hun1, HXH.out, HX9.out, HFIN.out, HRW7.out, HSET.out⟩
    case rest =>
    obtain ⟨w7, hw7⟩ : ∃ y, y = wc := ⟨_, rfl⟩
    subst hw7
    obtain ⟨u', x, rfl, hu', hxh, hxs9, hpx, hrw, h12⟩ := hcut
    obtain ⟨E, M, hMh, hEM⟩ : ∃ (E : Int) (M : Nd), IsHash M.h ∧ ((nd.s + x.s < 18446744073709551616 ∧ E = 0 ∧ M = (if bitAt key h = 1 then brNd K s0 x nd else brNd K s0 nd x)) ∨ (¬ nd.s + x.s < 18446744073709551616 ∧ E = 10 ∧ M = zNd)) := by
      by_cases hf : nd.s + x.s < 18446744073709551616
      · exact ⟨0, _, by split <;> exact br_hash K s0 HT.out.len _ _, .inl ⟨hf, rfl, rfl⟩⟩
      · exact ⟨10, zNd, zNd_hash, .inr ⟨hf, rfl, rfl⟩⟩
    have hB1 : bitAt key h = 1 → ∀ W, Below w.heap.size w W → Calls Tryz.prog 52 #[.agg (ndV x).toArray, .agg (ndV nd).toArray] W fun e w' => e = .returned (.tuple #[.agg (ndV M).toArray, .int .i64 E]) ∧ Below W.heap.size W w' := fun hb W hW => by
      rcases hEM with ⟨h1, h2, h3⟩ | ⟨h1, h2, h3⟩
      · rw [h2, h3, if_pos hb]
        exact br_fits K s0 W x nd (HT.out.below hW hlow) hxh HNH.out (by omega)
      · rw [h2, h3]
        exact br_over W x nd hxh HNH.out (by omega) hxs9 HNS.out
    have hB0 : ¬ bitAt key h = 1 → ∀ W, Below w.heap.size w W → Calls Tryz.prog 52 #[.agg (ndV nd).toArray, .agg (ndV x).toArray] W fun e w' => e = .returned (.tuple #[.agg (ndV M).toArray, .int .i64 E]) ∧ Below W.heap.size W w' := fun hb W hW => by
      rcases hEM with ⟨h1, h2, h3⟩ | ⟨h1, h2, h3⟩
      · rw [h2, h3, if_neg hb]
        exact br_fits K s0 W nd x (HT.out.below hW hlow) HNH.out hxh h1
      · rw [h2, h3]
        exact br_over W nd x HNH.out hxh (by omega) HNS.out hxs9
    have HB1 := Lib.hid hB1
    have HB0 := Lib.hid hB0
    have HEM := Lib.hid hEM
    have HPX := Lib.hid hpx
    have HRW := Lib.hid hrw
    have H12 := Lib.hid h12
    have HXH := Lib.hid hxh
    have HMH := Lib.hid hMh
    clear hB1 hB0 hEM hpx hrw h12 hxh hMh hxs9 H126 HW6 c32 EBT HPF
    go_wp2_with (refine wpList_load_row rfl 27 (.tmp 4) rfl G4 rfl 27 CK.toArray (0, 0) _ HRW.out.k Tryz.underlying27 rfl SZK.out ?_)
    refine (HBIT.out _ h hlt).mono ?_
    rintro _ w8 ⟨rfl, hb8⟩
    have HW8 := Lib.hid (HRW.out.below hb8)
    have H128 := Lib.hid (H12.out.below hb8 H12.out.lt)
    obtain ⟨bi, hbi⟩ : ∃ b, b = bitAt key h := ⟨_, rfl⟩
    have hbi2 : bi < 2 := by rw [hbi]; exact bitAt_lt key h
    rw [← hbi] at HB1 HB0
    rw [← hbi]
    have EBI := Lib.hid hbi
    clear hb8 hbi HRW H12
    go_upto_if 45 with (fail)
    go_cut [13] from 18 to 68 (fun ev wx => ev = .int .i64 E ∧ RootW w w.heap.size G4 G6 G9 G10 LP CK Z (ndV M) (ndV (emptyNd K s0 h)) wx)
    case first =>
      rcases (by omega : bi = 1 ∨ bi = 0) with h0 | h0
      · subst h0
        go_wp2_with (first
         | (refine wpList_load_row rfl 30 (.tmp 12) rfl G12 rfl 30 (ndV x).toArray (0, 0) _ H128.out Tryz.underlying30 rfl (SZN.out _ HXH.out) ?_)
         | (refine wpList_load_row rfl 30 (.tmp 9) rfl G9 rfl 30 (ndV nd).toArray (0, 0) _ HW8.out.n Tryz.underlying30 rfl (SZN.out _ HNH.out) ?_))
        refine (HB1.out (by first | rfl | trivial) _ HW8.out.bel).mono ?_
        rintro _ w9 ⟨rfl, hb9⟩
        have HW9 := Lib.hid (HW8.out.below hb9)
        have HFIN := Lib.hid (HW9.out.setN HG.out (ndV M))
        clear hb9
        go_wp2_with (refine wpList_store_row rfl 30 (.tmp 9) (.tmp 50) rfl G9 (ndV M).toArray rfl rfl 30 (ndV nd).toArray HW9.out.n (SZN.out _ HMH.out) (HNN.out _ _ HNH.out HMH.out) (ndV_one _) ?_)
        go_meet
        case rel => exact ⟨rfl, HFIN.out⟩
      · subst h0
        go_wp2_with (first
         | (refine wpList_load_row rfl 30 (.tmp 12) rfl G12 rfl 30 (ndV x).toArray (0, 0) _ H128.out Tryz.underlying30 rfl (SZN.out _ HXH.out) ?_)
         | (refine wpList_load_row rfl 30 (.tmp 9) rfl G9 rfl 30 (ndV nd).toArray (0, 0) _ HW8.out.n Tryz.underlying30 rfl (SZN.out _ HNH.out) ?_))
        refine (HB0.out (by first | decide | trivial | simp) _ HW8.out.bel).mono ?_
        rintro _ w9 ⟨rfl, hb9⟩
        have HW9 := Lib.hid (HW8.out.below hb9)
        have HFIN := Lib.hid (HW9.out.setN HG.out (ndV M))
        clear hb9
        go_wp2_with (refine wpList_store_row rfl 30 (.tmp 9) (.tmp 56) rfl G9 (ndV M).toArray rfl rfl 30 (ndV nd).toArray HW9.out.n (SZN.out _ HMH.out) (HNN.out _ _ HNH.out HMH.out) (ndV_one _) ?_)
        go_meet
        case rel => exact ⟨rfl, HFIN.out⟩
    case rest =>
    obtain ⟨w9, hw9⟩ : ∃ y, y = wc := ⟨_, rfl⟩
    subst hw9
    obtain ⟨rfl, hrw⟩ := hcut
    have HW9 := Lib.hid hrw
    clear hrw HW8 H128 HB1 HB0
    rcases HEM.out with ⟨hf, hE, hM⟩ | ⟨hf, hE, hM⟩
    · subst hE
      have HNX := Lib.hid (show pfAt K s0 (bareB bb) key xs n0 (h + 1) = .ok (M, u') by
        rw [HPX.out, hM]; unfold pfBr; rw [if_pos hf])
      have HEN := Lib.hid (empty_hash K s0 HT.out.len (h + 1))
      clear hM hf HEM HPX
      go_wp2_with (refine wpList_load_row rfl 30 (.tmp 10) rfl G10 rfl 30 (ndV (emptyNd K s0 h)).toArray (0, 0) _ HW9.out.e Tryz.underlying30 rfl (SZN.out _ HEH.out) ?_)
      refine (br_empty K s0 _ h (HT.out.below HW9.out.bel hlow)).mono ?_
      rintro _ w10 ⟨rfl, hb10⟩
      have HW10 := Lib.hid (HW9.out.below hb10)
      have HFIN := Lib.hid (HW10.out.setE HG.out (ndV (emptyNd K s0 (h + 1))))
      clear hb10
      go_wp2_with (refine wpList_store_row rfl 30 (.tmp 10) (.tmp 66) rfl G10 (ndV (emptyNd K s0 (h + 1))).toArray rfl rfl 30 (ndV (emptyNd K s0 h)).toArray HW10.out.e (SZN.out _ HEN.out) (HNN.out _ _ HEH.out HEN.out) (ndV_one _) ?_)
      go_roundw
      case rel =>
        have hfin : ∃ (u1 h1 : Nat) (nd1 : Nd), Value.int .i64 (u' : Int) = .int .i64 (u1 : Int) ∧ Value.int .i64 ((h : Int) + 1) = .int .i64 (h1 : Int) ∧ h1 ≤ 256 ∧ pfAt K s0 (bareB bb) key xs n0 h1 = .ok (nd1, u1) ∧ RootW w w.heap.size G4 G6 G9 G10 LP CK Z (ndV nd1) (ndV (emptyNd K s0 h1)) (w10.setRow G10 (ndV (emptyNd K s0 (h + 1))).toArray) := ⟨u', h + 1, M, rfl, rfl, by omega, HNX.out, HFIN.out⟩
        first | exact hfin | ((repeat apply Exists.intro); exact ⟨hfin, rfl⟩)
      case measure => simp [intOf]; omega
    · subst hE
      have HRES := Lib.hid (show R = .error 10 by
        rw [ER.out]
        exact pf_err (h := h + 1) (by omega) (by rw [HPX.out]; unfold pfBr; rw [if_neg hf]))
      have hset : Has (w9.setRow G6 Z) G6 30 Z := HW9.out.r.setRow
      have hbf : Below w.heap.size w (w9.setRow G6 Z) := HW9.out.bel.trans ((kept_setRow (g := G6) w9 Z).below HW9.out.bel.size (fun j e => by have e' : j = G6 := e; have := HG.out.base; omega))
      have HSET := Lib.hid hset
      have HBF := Lib.hid hbf
      clear hset hbf hM hf HEM HPX
      go_wp2_with (first
        | (refine wpList_build_run (by kernel_rfl) 30 _ rfl #[] (by kernel_rfl) (.agg Z) (HBD.out _) ?_)
        | (refine wpList_store_row rfl 30 (.tmp 6) (.tmp 60) rfl G6 Z rfl rfl 30 Z HW9.out.r SZZ.out rfl ONEZ.out ?_))
      refine bodyPost_ret (results_cell_tmp rfl _ _ G6 30 Z (0, 0) _ rfl rfl HSET.out Tryz.underlying30 SZZ.out) rfl ?_
      exact ⟨by rw [HRES.out, EZ.out]; rfl, HBF.out⟩
  · obtain rfl : h = 256 := by omega
    have c32 := HRW.out.p.cell_is (i := 32) (by rw [List.getElem?_toArray]; exact HROW.out)
    have hres : R = if u < xs.length then .error 24 else .ok nd := by rw [ER.out]; exact pf_done HPF.out
    rw [HXS.out.len] at hres
    have HRES := Lib.hid hres
    have hset : ∀ L : List Value, Has (wr.setRow G6 L.toArray) G6 30 L.toArray ∧ Below w.heap.size w (wr.setRow G6 L.toArray) := fun L => ⟨HRW.out.r.setRow, HRW.out.bel.trans ((kept_setRow (g := G6) wr L.toArray).below HRW.out.bel.size (fun j e => by have e' : j = G6 := e; have := HG.out.base; omega))⟩
    have HSET := Lib.hid hset
    have HSZ := Lib.hid (show Has (wr.setRow G6 Z) G6 30 Z ∧ Below w.heap.size w (wr.setRow G6 Z) by have := hset (ndV zNd); rwa [← EZ.out] at this)
    clear hset hres hlt
    by_cases hu : u < n
    · have hu' : (u : Int) < (n : Int) := by omega
      have HR2 := Lib.hid (show R = .error 24 by rw [HRES.out, if_pos hu])
      go_wp2_with (first
        | (refine wpList_build_run (by kernel_rfl) 30 _ rfl #[] (by kernel_rfl) (.agg Z) (HBD.out _) ?_)
        | (refine wpList_store_row rfl 30 (.tmp 6) (.tmp 74) rfl G6 Z rfl rfl 30 Z HRW.out.r SZZ.out rfl ONEZ.out ?_))
      refine bodyPost_ret (results_cell_tmp rfl _ _ G6 30 Z (0, 0) _ rfl rfl HSZ.out.1 Tryz.underlying30 SZZ.out) rfl ?_
      exact ⟨by rw [HR2.out, EZ.out]; rfl, HSZ.out.2⟩
    · have hu' : ¬ (u : Int) < (n : Int) := by omega
      have HR2 := Lib.hid (show R = .ok nd by rw [HRES.out, if_neg hu])
      go_wp2_with (first
        | (refine wpList_load_row rfl 30 (.tmp 9) rfl G9 rfl 30 (ndV nd).toArray (0, 0) _ HRW.out.n Tryz.underlying30 rfl (SZN.out _ HNH.out) ?_)
        | (refine wpList_store_row rfl 30 (.tmp 6) (.tmp 75) rfl G6 (ndV nd).toArray rfl rfl 30 Z HRW.out.r (SZN.out _ HNH.out) (HZN.out _ HNH.out) (ndV_one _) ?_))
      refine bodyPost_ret (results_cell_tmp rfl _ _ G6 30 (ndV nd).toArray (0, 0) _ rfl rfl (HSET.out (ndV nd)).1 Tryz.underlying30 (SZN.out _ HNH.out)) rfl ?_
      exact ⟨by rw [HR2.out]; rfl, (HSET.out (ndV nd)).2⟩
end Go.Proofs.YtknfbccbdiidjaaGreatDoor

