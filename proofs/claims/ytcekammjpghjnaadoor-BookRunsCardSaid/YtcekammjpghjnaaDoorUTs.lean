/- What the listed variables hold, word by word: the reference's tables. -/
import Derived.Test.YtcekammjpghjnaaDoorWs
import Derived.Test.YtcekammjpghjnaaDoorUBook24
import Derived.Test.YtcekammjpghjnaaDoorURef1
import Derived.Test.YtcekammjpghjnaaDoorURef2
import Derived.Test.YtcekammjpghjnaaDoorUMem
import Derived.Test.YtcekammjpghjnaaDoorURg3
import Derived.Deep.WholeRow
namespace Go.Proofs.YtcekammjpghjnaaDoor
set_option linter.unusedVariables false
set_option linter.unusedSimpArgs false
open Go.ChangeShapes Go.WideShapes Go.ChangeAt Go.RowKit

def KS : List Wd := ks64.map (BitVec.ofNat 32)
def SS : List Wd := ss8.map (BitVec.ofNat 32)
theorem ss_len : SS.length = 8 := by decide
theorem words_at {H : Type} {enc : TypeId × Value → H} {P : Program} {w : World} {base : Nat} {spare : Nat → Bool} {held : Bool} {T e : TypeId} {n fuel : Nat} {cs : List Value} {d : DataW H} {p : List MemPlace} (l : List Nat)
  (ht : P.underlying T = some (.array n e)) (he : P.underlying e = some (.int .u32)) (h1 : P.cellsOf e = 1) (hT : P.cellsOf T = n) (hf : DataW.trod enc P w base spare held fuel T cs = some (d, p))
  (hd : d = .agg (l.map fun (k : Nat) => .lit (.int .u32 (k : Int)))) : ∀ i, i < n → cs[i]? = some (.int .u32 ((l.getD i 0 : Nat) : Int)) := by
 obtain ⟨xs, m, _, hx, hlen, hn, hall⟩ := DataW.trod_array ht hf
 rw [hT] at hlen
 subst hd
 have e3 : (xs.map (·.1)) = l.map fun (k : Nat) => (.lit (.int .u32 (k : Int)) : DataW H) := (DataW.agg.inj (Prod.mk.inj hx).1).symm
 have hll : l.length = n := by
  have := congrArg List.length e3
  simpa [hn] using this.symm
 intro i hi
 have hE := hall i hi
 rw [h1, Nat.mul_one, List.getElem?_eq_getElem (by omega)] at hE
 obtain ⟨k, hk1, e2, hw⟩ := DataW.trod_int he hE
 rw [List.drop_eq_getElem_cons (by omega)] at hk1
 simp only [List.take_succ_cons, List.take_zero, List.cons.injEq, and_true] at hk1
 have e4 : (xs.map (·.1))[i]? = (l.map fun (k : Nat) => (.lit (.int .u32 (k : Int)) : DataW H))[i]? := by rw [e3]
 rw [List.getElem?_map, List.getElem?_map, List.getElem?_eq_getElem (by omega : i < xs.length), List.getElem?_eq_getElem (by omega : i < l.length), e2] at e4
 simp only [Option.map_some, Option.some.injEq, DataW.lit.injEq, Lit.int.injEq, true_and] at e4
 rw [List.getElem?_eq_getElem (by omega), hk1, e4, List.getD_eq_getElem?_getD, List.getElem?_eq_getElem (by omega)]
 rfl
theorem ks_nat : ∀ i, i < 64 → (KS.getD i 0).toNat = ks64.getD i 0 := by decide
theorem ss_nat : ∀ i, i < 8 → (SS.getD i 0).toNat = ss8.getD i 0 := by decide
theorem of_laid2 {W : World} (h : laidMetH Tryd.prog laid2 W) : Tabs KS SS W := by
 rw [MakeChecks.laidMetH_plain _ _ _ (by kernel_rfl)] at h
 obtain ⟨ps, ⟨g0, t0, cs0, f0, p0, q0, hg0, ht0, hv0, hd0, ⟨g1, t1, cs1, f1, p1, q1, hg1, ht1, hv1, hd1, _, _⟩, _⟩, _, _⟩ := h
 obtain rfl := Option.some.inj (gStart.symm.trans hg0)
 obtain rfl := Option.some.inj (gRounds.symm.trans hg1)
 obtain rfl := Option.some.inj (tStart.symm.trans ht0)
 obtain rfl := Option.some.inj (tRounds.symm.trans ht1)
 have hsc := words_at ss8 Tryd.underlying33 Tryd.underlying32 (by kernel_rfl) (by kernel_rfl) hd0 (by rfl)
 have hkc := words_at ks64 Tryd.underlying34 Tryd.underlying32 (by kernel_rfl) (by kernel_rfl) hd1 (by rfl)
 have c0 : ∀ i, i < 8 → W.cell? ⟨0, i, none⟩ = some (.int .u32 ((SS.getD i 0).toNat : Int)) := fun i hi => by
  rw [World.var?_cell hg0 hv0 i, ss_nat i hi]; simpa using hsc i hi
 have c1 : ∀ i, i < 64 → W.cell? ⟨2, i, none⟩ = some (.int .u32 ((KS.getD i 0).toNat : Int)) := fun i hi => by
  rw [World.var?_cell hg1 hv1 i, ks_nat i hi]; simpa using hkc i hi
 refine ⟨c1, c0, ?_, ss_len⟩
 have a0 := World.block_lt_of_cell? W _ (c0 0 (by decide))
 have a1 := World.block_lt_of_cell? W _ (c1 0 (by decide))
 dsimp only at a0 a1
 omega
end Go.Proofs.YtcekammjpghjnaaDoor
/- The walk of the reference's digest of parts. -/
namespace Go.Proofs.YtcekammjpghjnaaDoor
set_option linter.unusedVariables false
set_option linter.unusedSimpArgs false
open Go.ChangeShapes Go.WideShapes Go.ChangeAt Go.RowKit Go.Maps

theorem at_part (b o n c k : Nat) (hk : k < n) (w : World) : (Instr.indexAt 111 (.slice (some ⟨b, o, none⟩) n c) (.int .i64 (k : Int))).run Tryd.prog w = .ok (.pointer (some ⟨b, o + k, none⟩)) w := by
 have hu : Tryd.prog.underlying 111 = some (.slice (Tryd.prog.elem 111)) := by kernel_rfl
 have he : Tryd.prog.elem 111 = 87 := by kernel_rfl
 have hz : ∀ w, (sizeOf 87).run Tryd.prog w = .ok 1 w := fun w => by kernel_rfl
 rw [run_indexAt_slice w 111 ⟨b, o, none⟩ n c .i64 (k : Int) hu, if_pos ⟨by omega, by omega⟩, he, hz]
 simp only [Result.andThen, Int.toNat_natCast, Nat.mul_one, Addr.add_mid]
def tabsL (s0 K : List Wd) : List Value := wcells s0 ++ wcells K
theorem tab_words : tabL = tabsL SS KS := by kernel_rfl
set_option maxRecDepth 100000 in
set_option maxHeartbeats 4000000 in
theorem tsum_is (K s0 : List Wd) (hK : K.length = 64) (hs0 : s0.length = 8) (w : World) (v : Value) (ps : List (List Nat)) (hP : Parts w v ps) (hl : ps.flatten.length ≤ 1000000) (hn : ps.length ≤ 1000000) :
  Calls Tryd.prog 37 #[.agg (tabsL s0 K).toArray, v] w fun e w' => e = .returned (arr (digest K s0 ps.flatten)) ∧ Below w.heap.size w w' := by
 obtain ⟨a, c, rfl, hps⟩ := hP
 obtain ⟨Z, hzv, hbd, hZs, hZn, hZo⟩ := zero_h32
 obtain ⟨CT, hCT⟩ : ∃ C, C = (tabsL s0 K).toArray := ⟨_, rfl⟩
 rw [← hCT]
 obtain ⟨n, hnn⟩ : ∃ n, n = ps.length := ⟨_, rfl⟩
 rw [← hnn] at hn hps ⊢
 have s1 : ∀ (x : World) o, (x.alloc o).heap.size = x.heap.size + 1 := fun x o => by simp
 have b0 := (Has.new w 36 CT).alloc (.cells Z 38)
 have b1 := Has.new (w.alloc (.cells CT 36)) 38 Z
 rw [s1] at b1
 have hbel := ((Below.refl w.heap.size w).alloc (Nat.le_refl _) (.cells CT 36)).alloc (by rw [s1]; omega) (.cells Z 38)
 have hsz : ((w.alloc (.cells CT 36)).alloc (.cells Z 38)).heap.size = w.heap.size + 2 := by rw [s1, s1]
 have HB0 := Lib.hid b0
 have HB1 := Lib.hid b1
 have HBEL := Lib.hid hbel
 have HSZ := Lib.hid hsz
 have HPS := Lib.hid hps
 have EN := Lib.hid hnn
 have ECT := Lib.hid hCT
 have EZ := Lib.hid (And.intro hZs hZo)
 have HL := Lib.hid (And.intro hK hs0)
 have HLL := Lib.hid (And.intro hl hn)
 clear b0 b1 hbel hsz hps hnn hCT hZs hZo s1 hK hs0 hl hn hbd
 go_enter Tryd.func37, Tryd.ntmps37
 go_upto_region 1 with (fail)
 generalize (w.alloc (.cells CT 36)).alloc (.cells Z 38) = W0 at HB0 HB1 HBEL HSZ ⊢
 obtain ⟨B0, hB0⟩ : ∃ B, B = w.heap.size := ⟨_, rfl⟩
 obtain ⟨B1, hB1⟩ : ∃ B, B = w.heap.size + 1 := ⟨_, rfl⟩
 rw [← hB1] at HB1 ⊢
 rw [← hB0] at HB0 ⊢
 have EB := Lib.hid (And.intro hB0 hB1)
 clear hB0 hB1
 have hown0 : (W0.alloc (.cells #[] 5)).ownsRow W0.heap.size 5 1 (.slice (some ⟨W0.heap.size, 0, none⟩) 0 0) 0 (bcells ((ps.take 0).flatten)) := World.ownsRow_made W0 #[] 0 (Nat.le_refl _) (by decide) rfl
 have HOWN0 := Lib.hid hown0
 have HAL0 := Lib.hid (show Below W0.heap.size W0 (W0.alloc (.cells #[] 5)) from (Below.refl _ _).alloc (Nat.le_refl _) _)
 clear hown0
 go_wp2_with fail
 go_loopw [5, 11] (fun ov iv wr => ∃ (i t : Nat) (oa : Option Addr) (oc : Nat), iv = .int .i64 (i : Int) ∧ i ≤ n ∧ ov = .slice oa t oc ∧ t = (ps.take i).flatten.length ∧ wr.ownsRow W0.heap.size 5 1 (.slice oa t oc) t (bcells ((ps.take i).flatten)) ∧ Below W0.heap.size W0 wr) (fun _ iv _ => n - (intOf iv).toNat)
 case atStart => exact ⟨0, 0, _, _, rfl, Nat.zero_le _, rfl, by simp, HOWN0.out, HAL0.out⟩
 case round =>
  clear HOWN0 HAL0
  obtain ⟨i, t, oa, oc, rfl, hi, rfl, ht, hown, hbel⟩ := hrel
  have HOWN := Lib.hid hown
  have HBE := Lib.hid hbel
  have HTT := Lib.hid ht
  clear hown hbel
  by_cases hlt : i < n
  · obtain ⟨pg, po, hA, hall⟩ := HPS.out (by omega)
    subst hA
    obtain ⟨pv, hpv, hpb⟩ := hall i hlt
    have hk : Kept (fun _ => False) w wr := (Kept.of_below HBEL.out).trans (Kept.of_below HBE.out)
    have hc0 := cell_held hk hpv (fun h => h)
    have hb0 := hpb.alive (HBEL.out.trans (HBE.out.mono HBEL.out.size)) (Nat.le_trans HBEL.out.size HBE.out.size)
    have hat := at_part pg po n c i hlt
    have hstep := take_flatten ps i (by rw [← EN.out]; exact hlt)
    have hle := take_flatten_le ps (i + 1)
    rw [← hstep, List.length_append] at hle
    have HSRC := Lib.hid hb0
    have HSTEP := Lib.hid hstep
    have HLN := Lib.hid (show t + (ps.getD i []).length ≤ 100000000 by have := HLL.out.1; omega)
    have HBS := Lib.hid HBE.out.size
    have HK2 := Lib.hid (show i + 1 ≤ n ∧ n - (i + 1) < n - i by omega)
    have hib : i < 4611686018427387904 := by have := HLL.out.2; omega
    have hiw := wrap64_succ i hib
    have HWI := Lib.hid hiw
    have hlt' : (i : Int) < (n : Int) := by omega
    clear hall hpv hpb hk hb0 hstep hle hib hlt hi ht hiw
    go_wp2_with (at_builtin; refine wpList_append_bytes rfl (.tmp 15) (.tmp 16) rfl W0.heap.size _ t _ rfl HOWN.out _ _ (ps.getD i []) rfl HSRC.out HLN.out HBS.out ?_; intro oa6 oc6 w6 hown6 hgr6)
    have HBE6 := Lib.hid (HBE.out.grown hgr6 HBS.out (own_blk HOWN.out))
    have HOWN6 := Lib.hid hown6
    clear hown6 hgr6
    go_roundw
    case rel =>
     have e : bcells ((ps.take i).flatten) ++ bcells (ps.getD i []) = bcells ((ps.take (i + 1)).flatten) := by rw [← HSTEP.out]; simp [bcells]
     have h6 := HOWN6.out
     rw [e] at h6
     exact ⟨i + 1, _, oa6, oc6, by first | exact congrArg (Value.int .i64) HWI.out | rfl, HK2.out.1, rfl, by rw [← HSTEP.out, List.length_append, ← HTT.out, List.getD_eq_getElem?_getD], h6, HBE6.out⟩
    case measure =>
     first | exact HK2.out.2 | (show n - (intOf (Value.int .i64 (wrap64 ((i : Int) + 1)))).toNat < _; rw [HWI.out]; exact HK2.out.2)
  · have ei : (ps.take i).flatten = ps.flatten := by rw [List.take_of_length_le (by rw [← EN.out]; omega)]
    have hno : ¬ (i : Int) < (n : Int) := by omega
    have hbts : Bytes wr wr.heap.size (.slice oa t oc) ps.flatten := by
     have h := HOWN.out
     rw [ei] at h
     refine own_bytes h (by rw [HTT.out, ei]) ?_ (Nat.le_refl _)
     intro x hx
     obtain ⟨l, hl, hxl⟩ := List.mem_flatten.1 hx
     obtain ⟨k, hk⟩ := List.getElem?_of_mem hl
     have hkl := (List.getElem?_eq_some_iff.1 hk).1
     obtain ⟨pg, po, hA, hall⟩ := HPS.out (by rw [EN.out]; omega)
     obtain ⟨pv, hpv, hpb⟩ := hall k (by rw [EN.out]; exact hkl)
     rw [List.getD_eq_getElem?_getD, hk] at hpb
     exact bytes_lt hpb x hxl
    have hha := hash_is K s0 HL.out.1 HL.out.2 wr oa t oc ps.flatten (by rw [HTT.out, ei]) hbts (by rw [HTT.out, ei]; exact HLL.out.1)
    obtain ⟨LD, hLD⟩ : ∃ L, L = (bcells (digest K s0 ps.flatten)).toArray := ⟨_, rfl⟩
    unfold arr at hha
    rw [← hLD] at hha
    have ld : LD.size = 32 := by rw [hLD, List.size_toArray, bcells_length, digest_length K s0 HL.out.2]
    have hct := HB0.out.below HBE.out HB0.out.lt
    have hls : (wcells s0).length = 8 := by rw [wcells_length, HL.out.2]
    have hr0 : wr.rangeAt B0 0 (wcells s0) := fun j u hu => by
     rw [Nat.zero_add]
     refine hct.cell_is ?_
     rw [ECT.out, List.getElem?_toArray, tabsL, List.getElem?_append_left (List.getElem?_eq_some_iff.1 hu).1]
     exact hu
    have hr8 : wr.rangeAt B0 8 (wcells K) := fun j u hu => by
     refine hct.cell_is ?_
     rw [ECT.out, List.getElem?_toArray, tabsL, List.getElem?_append_right (by omega), hls, Nat.add_sub_cancel_left]
     exact hu
    have hb1 := HB1.out.below HBE.out HB1.out.lt
    obtain ⟨LS, hLS⟩ : ∃ L, L = wcells s0 := ⟨_, rfl⟩
    obtain ⟨LK, hLK⟩ : ∃ L, L = wcells K := ⟨_, rfl⟩
    rw [← hLS] at hha hr0 hls
    rw [← hLK] at hha hr8
    have SZS := Lib.hid (show (Tryd.prog.info? 33).map (·.size) = some LS.length by rw [hls]; kernel_rfl)
    have SZK := Lib.hid (show (Tryd.prog.info? 34).map (·.size) = some LK.length by rw [hLK, wcells_length, HL.out.1]; kernel_rfl)
    have SZL := Lib.hid (show (Tryd.prog.info? 38).map (·.size) = some LD.size by rw [ld]; kernel_rfl)
    have ONEL := Lib.hid (show LD.all (·.oneCell') = true by rw [hLD]; exact all_oneCell_toArray (bcells_oneC _))
    have HLZ := Lib.hid (show Z.size = LD.size by rw [ld, EZ.out.1])
    have HHA := Lib.hid hha
    have HR0 := Lib.hid hr0
    have HR8 := Lib.hid hr8
    have HRB1 := Lib.hid hb1
    have ELD := Lib.hid hLD
    clear ei hbts hha hLD ld hct hls hr0 hr8 hb1 hLS hLK hlt hi ht
    go_wp2_with (first
     | (refine wpList_load_mid rfl 33 (.tmp 20) rfl B0 0 rfl LS _ HR0.out Tryd.underlying33 rfl SZS.out ?_)
     | (refine wpList_load_mid rfl 34 (.tmp 22) rfl B0 8 rfl LK _ HR8.out Tryd.underlying34 rfl SZK.out ?_))
    refine HHA.out.mono ?_
    rintro _ w3 ⟨rfl, hb3⟩
    have hb1 := HRB1.out.below hb3 HRB1.out.lt
    have hbw : Below w.heap.size w w3 := (HBEL.out.trans (HBE.out.mono HBEL.out.size)).trans (hb3.mono (Nat.le_trans HBEL.out.size HBE.out.size))
    have hres : Has (w3.setRow B1 LD) B1 38 LD := hb1.setRow
    have hbf : Below w.heap.size w (w3.setRow B1 LD) := hbw.trans ((kept_setRow (g := B1) w3 LD).below hbw.size (fun k e => by have e' : k = B1 := e; have := EB.out; omega))
    have HR3 := Lib.hid hb1
    have HRES := Lib.hid hres
    have HBF := Lib.hid hbf
    clear hb3 hb1 hbw hres hbf
    go_wp2_with (refine wpList_store_row rfl 38 (.tmp 4) (.tmp 24) rfl B1 LD rfl rfl 38 Z HR3.out SZL.out HLZ.out ONEL.out ?_)
    refine bodyPost_ret (results_cell_row rfl _ _ B1 38 LD (0, 0) _ rfl HRES.out Tryd.underlying38 rfl SZL.out) rfl ?_
    exact ⟨by rw [ELD.out]; rfl, HBF.out⟩
end Go.Proofs.YtcekammjpghjnaaDoor

/- The walks of the reference's Of and Branch: what stands for a leaf, for two parts. -/
namespace Go.Proofs.YtcekammjpghjnaaDoor
set_option linter.unusedVariables false
set_option linter.unusedSimpArgs false
open Go.ChangeShapes Go.WideShapes Go.ChangeAt Go.RowKit Go.Maps

theorem tabs_length (K s0 : List Wd) (hK : K.length = 64) (hs0 : s0.length = 8) : (tabsL s0 K).length = 72 := by rw [tabsL, List.length_append, wcells_length, wcells_length, hK, hs0]
end Go.Proofs.YtcekammjpghjnaaDoor
