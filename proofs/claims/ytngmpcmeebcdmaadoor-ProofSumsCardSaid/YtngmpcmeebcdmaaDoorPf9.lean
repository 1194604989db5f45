/- The walk of ProofSums. -/
import Derived.Test.YtngmpcmeebcdmaaDoorPf8
import Derived.Test.YtngmpcmeebcdmaaDoorOpenR
namespace Go.Proofs.YtngmpcmeebcdmaaDoor
set_option linter.unusedVariables false
set_option linter.unusedSimpArgs false
open Go.ChangeShapes Go.WideShapes Go.ChangeAt Go.RowKit Go.Maps

/-- three boxes, of a proof, a digest and a leaf. -/
theorem boxes3 (w : World) (LP CK : List Value) (LF : Array Value) : ∃ W1, W1 = ((w.alloc (.cells LP.toArray 56)).alloc (.cells CK.toArray 28)).alloc (.cells LF 32) ∧
    Has W1 w.heap.size 56 LP.toArray ∧ Has W1 (w.heap.size + 1) 28 CK.toArray ∧ Has W1 (w.heap.size + 1 + 1) 32 LF ∧ Below w.heap.size w W1 := by
  refine ⟨_, rfl, ((Has.new w _ _).alloc _).alloc _, ?_, ?_, (((Below.refl _ _).alloc (Nat.le_refl _) _).alloc (by simp) _).alloc (by simp; omega) _⟩
  · have := Has.new (w.alloc (.cells LP.toArray 56)) 28 CK.toArray
    exact (by simpa using this : Has _ (w.heap.size + 1) _ _).alloc _
  · have := Has.new ((w.alloc (.cells LP.toArray 56)).alloc (.cells CK.toArray 28)) 32 LF
    simpa using this
theorem sum_take_le (xs : List Nd) (k : Nat) : ((xs.take k).map (·.s)).sum ≤ (xs.map (·.s)).sum := by
  have := congrArg (fun l : List Nd => (l.map (·.s)).sum) (List.take_append_drop k xs)
  simp only [List.map_append, List.sum_append] at this
  omega
set_option maxRecDepth 100000 in
set_option maxHeartbeats 8000000 in
theorem sumsP_walk (K s0 : List Wd) (w : World) (hT : Tabs K s0 w) (bb : List Nat) (hbb : IsHash bb) (a : Option Addr) (n c : Nat) (xs : List Nd) (hxs : NodesAt w a n xs) (hnm : n ≤ 9223372036854775807)
    (key : List Nat) (hkey : IsHash key) (av : Option Addr) (bs : List Nat) (cv s : Nat) (hs : s < 18446744073709551616) (hl : bs.length ≤ 9223372036854775807) (hB : Bytes w w.heap.size (.slice av bs.length cv) bs) :
    Calls Tryd.prog 5 #[.agg (pcells bb a n c).toArray, arr key, leafV (.slice av bs.length cv) s] w fun e w' => e = .returned (.bool true) ∧ Below w.heap.size w w' := by
  obtain ⟨Z, hz, hZs, hZn, hZ⟩ := zero_node
  have hlow := hT.low
  have hbd : ∀ W, (Instr.build 58 #[]).run Tryd.prog W = .ok (.agg Z) W := fun W => by rw [hZ]; kernel_rfl
  have hZz : Z = (ndV zNd).toArray := hZ
  obtain ⟨R, hR⟩ : ∃ R, R = pfRoot K s0 (bareB bb) key xs (leafNd K s0 bs s) := ⟨_, rfl⟩
  have hroot : n ≤ 300 → bs.length ≤ 200 → ∀ W, Below w.heap.size w W → Calls Tryd.prog 27 #[.agg (pcells bb a n c).toArray, arr key, leafV (.slice av bs.length cv) s] W fun e w' => e = .returned (.tuple #[.agg (ndV (pfN R)).toArray, .int .i64 (pfE R : Nat)]) ∧ Below W.heap.size W w' := fun h1 h2 W hW =>
    root_is K s0 W (hT.below hW hlow) bb hbb a n c xs (hxs.below hW) (by omega) key hkey av bs cv s (hB.alive hW hW.size) (by omega) hs R hR
  have hrh : IsHash (pfN R).h := by rw [hR]; exact pf_hash hT.len (leaf_hash K s0 hT.len bs s)
  have hrs : (pfN R).s < 18446744073709551616 := by rw [hR]; exact pf_fits hs
  have hsum : ∀ m, R = .ok m → m.s = s + (xs.map (·.s)).sum := fun m hm => by
    rw [hm] at hR
    exact pf_sum hR.symm
  have hhead := fun W (hW : Below w.heap.size w W) => headP_is K s0 W (hT.below hW hlow)
  obtain ⟨LP, hLP⟩ : ∃ L, L = pcells bb a n c := ⟨_, rfl⟩
  obtain ⟨CK, hCK⟩ : ∃ L, L = bcells key := ⟨_, rfl⟩
  obtain ⟨nb, hnb⟩ : ∃ x, x = bs.length := ⟨_, rfl⟩
  have lp : LP.length = 33 := by rw [hLP]; exact pcells_len hbb a n c
  have lk : CK.length = 32 := by rw [hCK, bcells_length, hkey.1]
  have hrow : LP[32]? = some (.slice a n c) := by rw [hLP]; exact pcells_row hbb a n c
  unfold arr leafV at hroot ⊢
  rw [← hLP, ← hCK, ← hnb] at hroot ⊢
  rw [← hnb] at hl
  have HROOT := Lib.hid hroot
  have HRH := Lib.hid hrh
  have HRS := Lib.hid hrs
  have HSUM := Lib.hid hsum
  have HHEAD := Lib.hid hhead
  have HXS := Lib.hid hxs
  have HS := Lib.hid hs
  have HBD := Lib.hid hbd
  have EZ := Lib.hid hZz
  have HROW := Lib.hid hrow
  have ER := Lib.hid hR
  have SZP := Lib.hid (show (Tryd.prog.info? 56).map (·.size) = some LP.toArray.size by rw [List.size_toArray, lp]; kernel_rfl)
  have SZK := Lib.hid (show (Tryd.prog.info? 28).map (·.size) = some CK.toArray.size by rw [List.size_toArray, lk]; kernel_rfl)
  have SZN := Lib.hid (show ∀ x : Nd, IsHash x.h → (Tryd.prog.info? 58).map (·.size) = some (ndV x).toArray.size from fun x hx => by rw [List.size_toArray, ndV_len hx]; kernel_rfl)
  have SZL := Lib.hid (show ∀ x : Nd, IsHash x.h → (Tryd.prog.info? 58).map (·.size) = some (ndV x).length from fun x hx => by rw [ndV_len hx]; kernel_rfl)
  have HZN := Lib.hid (show ∀ x : Nd, IsHash x.h → Z.size = (ndV x).toArray.size from fun x hx => by rw [hZs, List.size_toArray, ndV_len hx])
  have SZF := Lib.hid (show (Tryd.prog.info? 32).map (·.size) = some (#[Value.slice av nb cv, .int .u64 (s : Int)] : Array Value).size by kernel_rfl)
  clear hroot hrh hrs hsum hhead hxs hs hbd hZz hrow hLP hCK hnb hT hB hZs lp lk hkey hbb hZ hR
  go_enter Tryd.func5, Tryd.ntmps5
  go_upto_region 1 with (fail)
  obtain ⟨W1, hW1, h3, h4, h5, hb1⟩ := boxes3 w LP CK #[.slice av nb cv, .int .u64 (s : Int)]
  rw [← hW1]
  clear hW1
  have H3 := Lib.hid h3
  have H4 := Lib.hid h4
  have H5 := Lib.hid h5
  have HB1 := Lib.hid hb1
  clear h3 h4 h5 hb1
  go_wp2_with fail
  refine (HHEAD.out _ HB1.out).mono ?_
  rintro _ w2 ⟨rfl, hb2⟩
  have H32 := Lib.hid (H3.out.below hb2 H3.out.lt)
  have H42 := Lib.hid (H4.out.below hb2 H4.out.lt)
  have H52 := Lib.hid (H5.out.below hb2 H5.out.lt)
  have HB2 := Lib.hid (HB1.out.trans (hb2.mono HB1.out.size))
  clear hb2 H3 H4 H5 HB1
  have c32 := H32.out.cell_is (i := 32) (by rw [List.getElem?_toArray]; exact HROW.out)
  have c50 : w2.cell? ⟨w.heap.size + 1 + 1, 0, none⟩ = some (.slice av nb cv) := H52.out.cell_is rfl
  have c51 : w2.cell? ⟨w.heap.size + 1 + 1, 1, none⟩ = some (.int .u64 (s : Int)) := H52.out.cell_is rfl
  by_cases hn3 : 300 < n
  · have hn3' : (300 : Int) < (n : Int) := by omega
    go_wp2
    go_ret
    exact ⟨rfl, HB2.out⟩
  have hn3' : ¬ (300 : Int) < (n : Int) := by omega
  by_cases hl3 : 200 < nb
  · have hl3' : (200 : Int) < (nb : Int) := by omega
    go_wp2
    go_ret
    exact ⟨rfl, HB2.out⟩
  have hl3' : ¬ (200 : Int) < (nb : Int) := by omega
  have HRT := Lib.hid (HROOT.out (by omega) (by omega) w2 HB2.out)
  clear HROOT HHEAD
  go_wp2_with (first
    | (refine wpList_load_row rfl 56 (.tmp 3) rfl w.heap.size rfl 56 LP.toArray (0, 0) _ H32.out Tryd.underlying56 rfl SZP.out ?_)
    | (refine wpList_load_row rfl 28 (.tmp 4) rfl (w.heap.size + 1) rfl 28 CK.toArray (0, 0) _ H42.out Tryd.underlying28 rfl SZK.out ?_)
    | (refine wpList_load_row rfl 32 (.tmp 5) rfl (w.heap.size + 1 + 1) rfl 32 #[.slice av nb cv, .int .u64 (s : Int)] (0, 0) _ H52.out Tryd.underlying32 rfl SZF.out ?_))
  refine HRT.out.mono ?_
  rintro _ w3 ⟨rfl, hb3⟩
  have hnw : Has ((w3.alloc (.cells Z 58)).setRow w3.heap.size (ndV (pfN R)).toArray) w3.heap.size 58 (ndV (pfN R)).toArray ∧ Below w2.heap.size w2 ((w3.alloc (.cells Z 58)).setRow w3.heap.size (ndV (pfN R)).toArray) := by
    rw [World.setRow_alloc_new]
    exact ⟨Has.new _ _ _, hb3.alloc hb3.size _⟩
  have HNW := Lib.hid hnw
  clear hb3 hnw HRT c32 c50 c51
  go_upto_region 6 with (refine wpList_store_row rfl 58 (.tmp 7) (.tmp 29) rfl w3.heap.size (ndV (pfN R)).toArray rfl rfl 58 Z (heap_alloc_new w3 _) (SZN.out _ HRH.out) (HZN.out _ HRH.out) (ndV_one _) ?_)
  generalize (w3.alloc (.cells Z 58)).setRow w3.heap.size (ndV (pfN R)).toArray = W4 at HNW ⊢
  generalize w3.heap.size = G7 at HNW ⊢
  have HB4 := Lib.hid (HB2.out.trans (HNW.out.2.mono HB2.out.size))
  have h34 := H32.out.below HNW.out.2 H32.out.lt
  have h54 := H52.out.below HNW.out.2 H52.out.lt
  cases R with
  | error e =>
    have he : ¬ e = 0 := by rcases pf_errs ER.out.symm with h | h | h | h <;> omega
    have hne : ((e : Int) != 0) = true := by rw [bne_iff_ne]; omega
    have hcmp : ∀ W, (Op.equalIn 10000 58 (.agg (ndV (pfN (.error e))).toArray) (.agg Z)).run Tryd.prog W = .ok true W := fun W => by
      rw [EZ.out]
      exact nd_any zNd zNd zNd_hash zNd_hash W
    unfold pfE
    go_wp2_with (first
      | (refine wpList_load_row rfl 58 (.tmp 7) rfl G7 rfl 58 (ndV (pfN (.error e))).toArray (0, 0) _ HNW.out.1 Tryd.underlying58 rfl (SZN.out _ HRH.out) ?_)
      | (refine wpList_build_run (by kernel_rfl) 58 _ rfl #[] (by kernel_rfl) (.agg Z) (HBD.out _) ?_))
    go_ret
    exact ⟨rfl, HB4.out⟩
  | ok m =>
    unfold pfE
    have c32 := h34.cell_is (i := 32) (by rw [List.getElem?_toArray]; exact HROW.out)
    have c51 : W4.cell? ⟨w.heap.size + 1 + 1, 1, none⟩ = some (.int .u64 (s : Int)) := h54.cell_is rfl
    have hms : m.s = s + (xs.map (·.s)).sum := HSUM.out m rfl
    have hmf : m.s < 18446744073709551616 := HRS.out
    have c7 : W4.cell? ⟨G7, 32, none⟩ = some (.int .u64 (m.s : Int)) := HNW.out.1.cell_is (by
      rw [List.getElem?_toArray]
      show (ndV m)[32]? = _
      have hm : IsHash m.h := HRH.out
      rw [ndV, ncells, List.getElem?_append_right (by rw [bcells_length, hm.1]; exact Nat.le_refl _), bcells_length, hm.1]; rfl)
    have HMS := Lib.hid hms
    have HMF := Lib.hid hmf
    have C7 := Lib.hid c7
    have C51 := Lib.hid c51
    have hgl := HNW.out.1.lt
    have hl5 := h54.lt
    have HGL := Lib.hid (And.intro hgl hl5)
    clear hms hmf h34 h54 hgl hl5
    go_wp2_with fail
    go_loopw [9, 41] (fun sv iv wr => ∃ k : Nat, iv = .int .i64 (k : Int) ∧ k ≤ n ∧ sv = .int .u64 ((s + ((xs.take k).map (·.s)).sum : Nat) : Int) ∧ Below W4.heap.size W4 wr) (fun _ iv _ => n - (intOf iv).toNat)
    case atStart => exact ⟨0, rfl, Nat.zero_le _, rfl, Below.refl _ _⟩
    case round =>
      clear c7 c51 c32
      obtain ⟨k, rfl, hk, rfl, hbr⟩ := hrel
      obtain ⟨acc, hacc⟩ : ∃ x, x = s + ((xs.take k).map (·.s)).sum := ⟨_, rfl⟩
      rw [← hacc]
      have hle := sum_take_le xs k
      have hal : acc ≤ m.s := by rw [hacc, HMS.out]; omega
      have haf : acc < 18446744073709551616 := Nat.lt_of_le_of_lt hal HMF.out
      have EA := Lib.hid hacc
      have HBR := Lib.hid hbr
      clear hacc hle hbr
      by_cases hlt : k < n
      · have hlt' : (k : Int) < (n : Int) := by omega
        obtain ⟨x, hx⟩ : ∃ x, xs[k]? = some x := ⟨_, List.getElem?_eq_getElem (by rw [HXS.out.len]; exact hlt)⟩
        have hxh : IsHash x.h := HXS.out.hash x (List.mem_of_getElem? hx)
        obtain ⟨b, o, ha, hbl, hr⟩ := ((HXS.out.below HB4.out).below HBR.out).at_ (by omega)
        subst ha
        have hrx := hr k x hx
        have hat := at_nodeo b o n c k hlt
        have hnx := take_succ_sum (nodes := xs) k x hx
        have hle2 := sum_take_le xs (k + 1)
        have hax : acc + x.s < 18446744073709551616 := by
          have h1 := EA.out
          have h2 := HMS.out
          have h3 := HMF.out
          omega
        obtain ⟨xv, hxv⟩ : ∃ v, v = x.s := ⟨_, rfl⟩
        rw [← hxv] at hax
        have hnw : Has ((wr.alloc (.cells Z 58)).setRow wr.heap.size (ndV x).toArray) wr.heap.size 58 (ndV x).toArray ∧ Below W4.heap.size W4 ((wr.alloc (.cells Z 58)).setRow wr.heap.size (ndV x).toArray) := by
          rw [World.setRow_alloc_new]
          exact ⟨Has.new _ _ _, HBR.out.alloc HBR.out.size _⟩
        have HRX := Lib.hid hrx
        have HXH := Lib.hid hxh
        have HN2 := Lib.hid hnw
        have HNX := Lib.hid (show s + ((xs.take (k + 1)).map (·.s)).sum = acc + xv by rw [hnx, hxv, EA.out]; omega)
        have EXV := Lib.hid hxv
        clear hx hxh hr hrx hnx hle2 hnw hxv hbl
        go_upto_region 12 with (first
          | (refine wpList_load_mid rfl 58 (.tmp 43) rfl b (o + k * 33) rfl (ndV x) _ HRX.out Tryd.underlying58 rfl (SZL.out x HXH.out) ?_)
          | (refine wpList_store_row rfl 58 (.tmp 11) (.tmp 44) rfl wr.heap.size (ndV x).toArray rfl rfl 58 Z (heap_alloc_new wr _) (SZN.out _ HXH.out) (HZN.out _ HXH.out) (ndV_one _) ?_))
        generalize (wr.alloc (.cells Z 58)).setRow wr.heap.size (ndV x).toArray = W5 at HN2 ⊢
        generalize wr.heap.size = G11 at HN2 ⊢
        have c11 : W5.cell? ⟨G11, 32, none⟩ = some (.int .u64 (xv : Int)) := HN2.out.1.cell_is (by
          rw [List.getElem?_toArray, ndV, ncells, List.getElem?_append_right (by rw [bcells_length, HXH.out.1]; exact Nat.le_refl _), bcells_length, HXH.out.1, EXV.out]; rfl)
        have hax' : (acc : Int) + (xv : Int) < 18446744073709551616 := by omega
        go_wp2
        go_roundw
        case rel =>
          have hfin : ∃ k1 : Nat, Value.int .i64 ((k : Int) + 1) = .int .i64 (k1 : Int) ∧ k1 ≤ n ∧ Value.int .u64 ((acc : Int) + (xv : Int)) = .int .u64 ((s + ((xs.take k1).map (·.s)).sum : Nat) : Int) ∧ Below W4.heap.size W4 W5 := ⟨k + 1, by go_num, by omega, by rw [HNX.out]; go_num, HN2.out.2⟩
          first | exact hfin | ((repeat apply Exists.intro); exact ⟨hfin, rfl⟩)
        case measure => simp [intOf]; omega
      · obtain rfl : k = n := by omega
        have hacm : acc = m.s := by rw [EA.out, HMS.out, List.take_of_length_le (by rw [HXS.out.len]; exact Nat.le_refl _)]
        have hsle : s ≤ acc := by have := EA.out; omega
        have c7 := HBR.out.cell (p := ⟨G7, 32, none⟩) HGL.out.1
        rw [C7.out, ← hacm] at c7
        have c51 := HBR.out.cell (p := ⟨w.heap.size + 1 + 1, 1, none⟩) HGL.out.2
        rw [C51.out] at c51
        have HFB := Lib.hid (HB4.out.trans (HBR.out.mono HB4.out.size))
        have hlt' : ¬ (k : Int) < (k : Int) := by omega
        have hsle' : ((s : Int) ≤ (acc : Int)) := by omega
        clear hacm hlt
        go_wp2
        go_ret
        exact ⟨rfl, HFB.out⟩
end Go.Proofs.YtngmpcmeebcdmaaDoor
