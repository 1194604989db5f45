/- The walk of the reference's digest of parts. -/
import Derived.Test.YtngmpcmeebcdmaaDoorRef2
import Derived.Test.YtngmpcmeebcdmaaDoorMsum3
import Derived.Test.YtngmpcmeebcdmaaDoorLaid
import Derived.Test.YtngmpcmeebcdmaaDoorPf2
import Derived.Test.YtngmpcmeebcdmaaDoorStill2
import Derived.Test.YtngmpcmeebcdmaaDoorCells
import Derived.Deep.WholeRow
import Derived.Test.YtngmpcmeebcdmaaDoorApp
namespace Go.Proofs.YtngmpcmeebcdmaaDoor
set_option linter.unusedVariables false
set_option linter.unusedSimpArgs false
open Go.ChangeShapes Go.WideShapes Go.ChangeAt Go.RowKit Go.Maps

theorem at_part (b o n c k : Nat) (hk : k < n) (w : World) : (Instr.indexAt 156 (.slice (some ⟨b, o, none⟩) n c) (.int .i64 (k : Int))).run Tryd.prog w = .ok (.pointer (some ⟨b, o + k, none⟩)) w := by
  have hu : Tryd.prog.underlying 156 = some (.slice (Tryd.prog.elem 156)) := by kernel_rfl
  have he : Tryd.prog.elem 156 = 29 := by kernel_rfl
  have hz : ∀ w, (sizeOf 29).run Tryd.prog w = .ok 1 w := fun w => by kernel_rfl
  rw [run_indexAt_slice w 156 ⟨b, o, none⟩ n c .i64 (k : Int) hu, if_pos ⟨by omega, by omega⟩, he, hz]
  simp only [Result.andThen, Int.toNat_natCast, Nat.mul_one, Addr.add_mid]
def tabsL (s0 K : List Wd) : List Value := wcells s0 ++ wcells K
/-- the reference's tables as words. -/
def KS : List Wd := ks64.map (BitVec.ofNat 32)
def SS : List Wd := ss8.map (BitVec.ofNat 32)
theorem tab_words : tabL = tabsL SS KS := by kernel_rfl
theorem ks_len : KS.length = 64 := by decide
theorem ss_len : SS.length = 8 := by decide
set_option maxRecDepth 100000 in
set_option maxHeartbeats 4000000 in
theorem tsum_is (K s0 : List Wd) (hK : K.length = 64) (hs0 : s0.length = 8) (w : World) (v : Value) (ps : List (List Nat)) (hP : Parts w v ps) (hl : ps.flatten.length ≤ 1000000) (hn : ps.length ≤ 1000000) :
    Calls Tryd.prog 75 #[.agg (tabsL s0 K).toArray, v] w fun e w' => e = .returned (arr (digest K s0 ps.flatten)) ∧ Below w.heap.size w w' := by
  obtain ⟨a, c, rfl, hps⟩ := hP
  obtain ⟨Z, hzv, hbd, hZs, hZn, hZo⟩ := zero_h32
  obtain ⟨CT, hCT⟩ : ∃ C, C = (tabsL s0 K).toArray := ⟨_, rfl⟩
  rw [← hCT]
  obtain ⟨n, hnn⟩ : ∃ n, n = ps.length := ⟨_, rfl⟩
  rw [← hnn] at hn hps ⊢
  have s1 : ∀ (x : World) o, (x.alloc o).heap.size = x.heap.size + 1 := fun x o => by simp
  have b0 := (Has.new w 69 CT).alloc (.cells Z 27)
  have b1 := Has.new (w.alloc (.cells CT 69)) 27 Z
  rw [s1] at b1
  have hbel := ((Below.refl w.heap.size w).alloc (Nat.le_refl _) (.cells CT 69)).alloc (by rw [s1]; omega) (.cells Z 27)
  have hsz : ((w.alloc (.cells CT 69)).alloc (.cells Z 27)).heap.size = w.heap.size + 2 := by rw [s1, s1]
  have HB0 := Lib.hid b0
  have HB1 := Lib.hid b1
  have HBEL := Lib.hid hbel
  have HSZ := Lib.hid hsz
  have HPS := Lib.hid hps
  have EN := Lib.hid hnn
  have ECT := Lib.hid hCT
  have EZ := Lib.hid (And.intro hZs hZo)
  have HL := Lib.hid (And.intro hK hs0)
  have HLL := Lib.hid (And.intro hl hn)
  clear b0 b1 hbel hsz hps hnn hCT hZs hZo s1 hK hs0 hl hn hbd
  go_enter Tryd.func75, Tryd.ntmps75
  go_upto_region 1 with (fail)
  generalize (w.alloc (.cells CT 69)).alloc (.cells Z 27) = W0 at HB0 HB1 HBEL HSZ ⊢
  obtain ⟨B0, hB0⟩ : ∃ B, B = w.heap.size := ⟨_, rfl⟩
  obtain ⟨B1, hB1⟩ : ∃ B, B = w.heap.size + 1 := ⟨_, rfl⟩
  rw [← hB1] at HB1 ⊢
  rw [← hB0] at HB0 ⊢
  have EB := Lib.hid (And.intro hB0 hB1)
  clear hB0 hB1
  have hown0 : (W0.alloc (.cells #[] 5)).ownsRow W0.heap.size 5 1 (.slice (some ⟨W0.heap.size, 0, none⟩) 0 0) 0 (bcells ((ps.take 0).flatten)) := World.ownsRow_made W0 #[] 0 (Nat.le_refl _) (by decide) rfl
  have HOWN0 := Lib.hid hown0
  have HAL0 := Lib.hid (show Below W0.heap.size W0 (W0.alloc (.cells #[] 5)) from (Below.refl _ _).alloc (Nat.le_refl _) _)
  clear hown0
  go_wp2_with fail
  go_loopw [5, 11] (fun ov iv wr => ∃ (i t : Nat) (oa : Option Addr) (oc : Nat), iv = .int .i64 (i : Int) ∧ i ≤ n ∧ ov = .slice oa t oc ∧ t = (ps.take i).flatten.length ∧ wr.ownsRow W0.heap.size 5 1 (.slice oa t oc) t (bcells ((ps.take i).flatten)) ∧ Below W0.heap.size W0 wr) (fun _ iv _ => n - (intOf iv).toNat)
  case atStart => exact ⟨0, 0, _, _, rfl, Nat.zero_le _, rfl, by simp, HOWN0.out, HAL0.out⟩
  case round =>
    clear HOWN0 HAL0
    obtain ⟨i, t, oa, oc, rfl, hi, rfl, ht, hown, hbel⟩ := hrel
    have HOWN := Lib.hid hown
    have HBE := Lib.hid hbel
    have HTT := Lib.hid ht
    clear hown hbel
    by_cases hlt : i < n
    · obtain ⟨pg, po, hA, hall⟩ := HPS.out (by omega)
      subst hA
      obtain ⟨pv, hpv, hpb⟩ := hall i hlt
      have hk : Kept (fun _ => False) w wr := (Kept.of_below HBEL.out).trans (Kept.of_below HBE.out)
      have hc0 := cell_held hk hpv (fun h => h)
      have hb0 := hpb.alive (HBEL.out.trans (HBE.out.mono HBEL.out.size)) (Nat.le_trans HBEL.out.size HBE.out.size)
      have hat := at_part pg po n c i hlt
      have hstep := take_flatten ps i (by rw [← EN.out]; exact hlt)
      have hle := take_flatten_le ps (i + 1)
      rw [← hstep, List.length_append] at hle
      have HSRC := Lib.hid hb0
      have HSTEP := Lib.hid hstep
      have HLN := Lib.hid (show t + (ps.getD i []).length ≤ 100000000 by have := HLL.out.1; omega)
      have HBS := Lib.hid HBE.out.size
      have HK2 := Lib.hid (show i + 1 ≤ n ∧ n - (i + 1) < n - i by omega)
      have hib : i < 4611686018427387904 := by have := HLL.out.2; omega
      have hiw := wrap64_succ i hib
      have HWI := Lib.hid hiw
      have hlt' : (i : Int) < (n : Int) := by omega
      clear hall hpv hpb hk hb0 hstep hle hib hlt hi ht hiw
      go_wp2_with (at_builtin; refine wpList_append_bytes rfl (.tmp 15) (.tmp 16) rfl W0.heap.size _ t _ rfl HOWN.out _ _ (ps.getD i []) rfl HSRC.out HLN.out HBS.out ?_; intro oa6 oc6 w6 hown6 hgr6)
      have HBE6 := Lib.hid (HBE.out.grown hgr6 HBS.out (own_blk HOWN.out))
      have HOWN6 := Lib.hid hown6
      clear hown6 hgr6
      go_roundw
      case rel =>
        have e : bcells ((ps.take i).flatten) ++ bcells (ps.getD i []) = bcells ((ps.take (i + 1)).flatten) := by rw [← HSTEP.out]; simp [bcells]
        have h6 := HOWN6.out
        rw [e] at h6
        exact ⟨i + 1, _, oa6, oc6, by first | exact congrArg (Value.int .i64) HWI.out | rfl, HK2.out.1, rfl, by rw [← HSTEP.out, List.length_append, ← HTT.out, List.getD_eq_getElem?_getD], h6, HBE6.out⟩
      case measure =>
        first | exact HK2.out.2 | (show n - (intOf (Value.int .i64 (wrap64 ((i : Int) + 1)))).toNat < _; rw [HWI.out]; exact HK2.out.2)
    · have ei : (ps.take i).flatten = ps.flatten := by rw [List.take_of_length_le (by rw [← EN.out]; omega)]
      have hno : ¬ (i : Int) < (n : Int) := by omega
      have hbts : Bytes wr wr.heap.size (.slice oa t oc) ps.flatten := by
        have h := HOWN.out
        rw [ei] at h
        refine own_bytes h (by rw [HTT.out, ei]) ?_ (Nat.le_refl _)
        intro x hx
        obtain ⟨l, hl, hxl⟩ := List.mem_flatten.1 hx
        obtain ⟨k, hk⟩ := List.getElem?_of_mem hl
        have hkl := (List.getElem?_eq_some_iff.1 hk).1
        obtain ⟨pg, po, hA, hall⟩ := HPS.out (by rw [EN.out]; omega)
        obtain ⟨pv, hpv, hpb⟩ := hall k (by rw [EN.out]; exact hkl)
        rw [List.getD_eq_getElem?_getD, hk] at hpb
        exact bytes_lt hpb x hxl
      have hha := hash_is K s0 HL.out.1 HL.out.2 wr oa t oc ps.flatten (by rw [HTT.out, ei]) hbts (by rw [HTT.out, ei]; exact HLL.out.1)
      obtain ⟨LD, hLD⟩ : ∃ L, L = (bcells (digest K s0 ps.flatten)).toArray := ⟨_, rfl⟩
      unfold arr at hha
      rw [← hLD] at hha
      have ld : LD.size = 32 := by rw [hLD, List.size_toArray, bcells_length, digest_length K s0 HL.out.2]
      have hct := HB0.out.below HBE.out HB0.out.lt
      have hls : (wcells s0).length = 8 := by rw [wcells_length, HL.out.2]
      have hr0 : wr.rangeAt B0 0 (wcells s0) := fun j u hu => by
        rw [Nat.zero_add]
        refine hct.cell_is ?_
        rw [ECT.out, List.getElem?_toArray, tabsL, List.getElem?_append_left (List.getElem?_eq_some_iff.1 hu).1]
        exact hu
      have hr8 : wr.rangeAt B0 8 (wcells K) := fun j u hu => by
        refine hct.cell_is ?_
        rw [ECT.out, List.getElem?_toArray, tabsL, List.getElem?_append_right (by omega), hls, Nat.add_sub_cancel_left]
        exact hu
      have hb1 := HB1.out.below HBE.out HB1.out.lt
      obtain ⟨LS, hLS⟩ : ∃ L, L = wcells s0 := ⟨_, rfl⟩
      obtain ⟨LK, hLK⟩ : ∃ L, L = wcells K := ⟨_, rfl⟩
      rw [← hLS] at hha hr0 hls
      rw [← hLK] at hha hr8
      have SZS := Lib.hid (show (Tryd.prog.info? 66).map (·.size) = some LS.length by rw [hls]; kernel_rfl)
      have SZK := Lib.hid (show (Tryd.prog.info? 67).map (·.size) = some LK.length by rw [hLK, wcells_length, HL.out.1]; kernel_rfl)
      have SZL := Lib.hid (show (Tryd.prog.info? 27).map (·.size) = some LD.size by rw [ld]; kernel_rfl)
      have ONEL := Lib.hid (show LD.all (·.oneCell') = true by rw [hLD]; exact all_oneCell_toArray (bcells_oneC _))
      have HLZ := Lib.hid (show Z.size = LD.size by rw [ld, EZ.out.1])
      have HHA := Lib.hid hha
      have HR0 := Lib.hid hr0
      have HR8 := Lib.hid hr8
      have HRB1 := Lib.hid hb1
      have ELD := Lib.hid hLD
      clear ei hbts hha hLD ld hct hls hr0 hr8 hb1 hLS hLK hlt hi ht
      go_wp2_with (first
        | (refine wpList_load_mid rfl 66 (.tmp 20) rfl B0 0 rfl LS _ HR0.out Tryd.underlying66 rfl SZS.out ?_)
        | (refine wpList_load_mid rfl 67 (.tmp 22) rfl B0 8 rfl LK _ HR8.out Tryd.underlying67 rfl SZK.out ?_))
      refine HHA.out.mono ?_
      rintro _ w3 ⟨rfl, hb3⟩
      have hb1 := HRB1.out.below hb3 HRB1.out.lt
      have hbw : Below w.heap.size w w3 := (HBEL.out.trans (HBE.out.mono HBEL.out.size)).trans (hb3.mono (Nat.le_trans HBEL.out.size HBE.out.size))
      have hres : Has (w3.setRow B1 LD) B1 27 LD := hb1.setRow
      have hbf : Below w.heap.size w (w3.setRow B1 LD) := hbw.trans ((kept_setRow (g := B1) w3 LD).below hbw.size (fun k e => by have e' : k = B1 := e; have := EB.out; omega))
      have HR3 := Lib.hid hb1
      have HRES := Lib.hid hres
      have HBF := Lib.hid hbf
      clear hb3 hb1 hbw hres hbf
      go_wp2_with (refine wpList_store_row rfl 27 (.tmp 4) (.tmp 24) rfl B1 LD rfl rfl 27 Z HR3.out SZL.out HLZ.out ONEL.out ?_)
      refine bodyPost_ret (results_cell_row rfl _ _ B1 27 LD (0, 0) _ rfl HRES.out Tryd.underlying27 rfl SZL.out) rfl ?_
      exact ⟨by rw [ELD.out]; rfl, HBF.out⟩
end Go.Proofs.YtngmpcmeebcdmaaDoor

/- The walks of the reference's Of and Branch: what stands for a leaf, for two parts. -/
namespace Go.Proofs.YtngmpcmeebcdmaaDoor
set_option linter.unusedVariables false
set_option linter.unusedSimpArgs false
open Go.ChangeShapes Go.WideShapes Go.ChangeAt Go.RowKit Go.Maps

theorem rn_zero : ∃ Z : Array Value, (∀ w, (zeroValue 62).run Tryd.prog w = .ok (.agg Z) w) ∧ Z.size = 33 ∧ ¬ Z = #[] ∧ Z = (ncells (List.replicate 32 0) 0).toArray := by
  have hs : (ncells (List.replicate 32 0) 0).toArray.size = 33 := by kernel_rfl
  exact ⟨_, fun w => by kernel_rfl, hs, (fun e => (by rw [e] at hs; cases hs)), rfl⟩
/-- how a node is built, as the walk lays it open. -/
theorem rn_ops (Z : Array Value) (hZ : Z = (ncells (List.replicate 32 0) 0).toArray) (D : List Nat) (s : Nat) (h : D.length = 32) (LD LN : List Value) (hD : LD = bcells D) (hN : LN = ncells D s) :
    ∃ F : Array Value, LD.length = 32 ∧ Z.size = 33 ∧ List.foldl (fun (cs : Array Value) (x : Value × Nat) => cs.setIfInBounds x.snd x.fst) Z LD.zipIdx = F ∧ F.size = 33 ∧ F.setIfInBounds 32 (.int .u64 (s : Int)) = LN.toArray := by
  subst hZ hD hN
  refine ⟨(ncells D 0).toArray, by rw [bcells_length, h], by kernel_rfl, ?_, by simp [ncells, bcells_length, h], ?_⟩
  · obtain ⟨d0, d1, d2, d3, d4, d5, d6, d7, d8, d9, d10, d11, d12, d13, d14, d15, d16, d17, d18, d19, d20, d21, d22, d23, d24, d25, d26, d27, d28, d29, d30, d31, rfl⟩ := thirty_two D h
    kernel_rfl
  · rw [List.setIfInBounds_toArray, ncells, ncells, List.set_append_right _ _ (by rw [bcells_length, h]; exact Nat.le_refl _), bcells_length, h]
    rfl
theorem rn_build (D : List Nat) (s : Nat) (h : D.length = 32) (w : World) : (Instr.build 62 #[(0, .agg (bcells D).toArray), (1, .int .u64 (s : Int))]).run Tryd.prog w = .ok (.agg (ncells D s).toArray) w := by
  obtain ⟨d0, d1, d2, d3, d4, d5, d6, d7, d8, d9, d10, d11, d12, d13, d14, d15, d16, d17, d18, d19, d20, d21, d22, d23, d24, d25, d26, d27, d28, d29, d30, d31, rfl⟩ := thirty_two D h
  exact run_build w 62 _ _ (by kernel_rfl)
theorem rset {w : World} {B : Nat} {t : TypeId} {Z : Array Value} {L : List Value} (h : Has w B t Z) (hl : Z.size = L.length) : Has (w.setCells B 0 L) B t L.toArray ∧ Kept (· = B) w (w.setCells B 0 L) := by
  obtain ⟨cur, h1, h2, h3, h4⟩ := Has.setCells L 0 w Z h
  refine ⟨?_, h4⟩
  have e : cur = L.toArray := by
    apply Array.toList_inj.1
    apply List.ext_getElem?
    intro q
    rw [Array.getElem?_toList]
    rcases Nat.lt_or_ge q Z.size with hq | hq
    · rw [h3 q hq, if_pos ⟨Nat.zero_le _, by omega⟩, Nat.sub_zero]
    · rw [Array.getElem?_eq_none (by omega), List.getElem?_eq_none (by show L.length ≤ q; omega)]
  rwa [e] at h1
/-- parts that a literal holds. -/
theorem parts_new (w : World) (t : TypeId) (n : Nat) (vs : List Value) (ps : List (List Nat)) (hl : vs.length = n) (hp : ps.length = n) (h : ∀ (i : Nat) v p, vs[i]? = some v → ps[i]? = some p → Bytes w w.heap.size v p) :
    Parts (w.alloc (.cells vs.toArray t)) (.slice (some ⟨w.heap.size, 0, none⟩) n n) ps := by
  refine ⟨_, _, by rw [hp], fun _ => ⟨w.heap.size, 0, rfl, fun i hi => ?_⟩⟩
  have hv : vs[i]? = some (vs[i]'(by omega)) := List.getElem?_eq_getElem (by omega)
  have hq : ps[i]? = some (ps[i]'hi) := List.getElem?_eq_getElem hi
  refine ⟨vs[i]'(by omega), ?_, ?_⟩
  · rw [Nat.zero_add]
    exact (Has.new w t vs.toArray).cell_is (by rw [List.getElem?_toArray]; exact hv)
  · rw [List.getD_eq_getElem?_getD, hq]
    have hb : Below w.heap.size w (w.alloc (.cells vs.toArray t)) := (Below.refl _ _).alloc (Nat.le_refl _) _
    exact (h i _ _ hv hq).alive hb hb.size
theorem parts_two {w : World} {u v : Value} {p q : List Nat} (hu : Bytes w w.heap.size u p) (hv : Bytes w w.heap.size v q) : ∀ (i : Nat) x y, [u, v][i]? = some x → [p, q][i]? = some y → Bytes w w.heap.size x y
  | 0, x, y, hx, hy => by cases hx; cases hy; exact hu
  | 1, x, y, hx, hy => by cases hx; cases hy; exact hv
  | i + 2, x, y, hx, hy => by cases hx
theorem parts_four {w : World} {u v x0 y0 : Value} {p q r s : List Nat} (hu : Bytes w w.heap.size u p) (hv : Bytes w w.heap.size v q) (hx0 : Bytes w w.heap.size x0 r) (hy0 : Bytes w w.heap.size y0 s) : ∀ (i : Nat) x y, [u, v, x0, y0][i]? = some x → [p, q, r, s][i]? = some y → Bytes w w.heap.size x y
  | 0, x, y, hx, hy => by cases hx; cases hy; exact hu
  | 1, x, y, hx, hy => by cases hx; cases hy; exact hv
  | 2, x, y, hx, hy => by cases hx; cases hy; exact hx0
  | 3, x, y, hx, hy => by cases hx; cases hy; exact hy0
  | i + 4, x, y, hx, hy => by cases hx
theorem tabs_length (K s0 : List Wd) (hK : K.length = 64) (hs0 : s0.length = 8) : (tabsL s0 K).length = 72 := by rw [tabsL, List.length_append, wcells_length, wcells_length, hK, hs0]
theorem nd_row (D : List Nat) (s : Nat) (h : D.length = 32) : (ncells D s).length = 33 ∧ (ncells D s)[32]? = some (.int .u64 (s : Int)) := by
  refine ⟨by simp [ncells, bcells_length, h], ?_⟩
  rw [ncells, List.getElem?_append_right (by rw [bcells_length, h]; exact Nat.le_refl _), bcells_length, h]; rfl
set_option maxRecDepth 100000 in
set_option maxHeartbeats 4000000 in
theorem refOf_is (K s0 : List Wd) (hK : K.length = 64) (hs0 : s0.length = 8) (w : World) (v : Value) (bs : List Nat) (s : Nat) (hB : Bytes w w.heap.size v bs) (hl : bs.length ≤ 100000) (hs : s < 18446744073709551616) :
    Calls Tryd.prog 57 #[.agg (tabsL s0 K).toArray, v, .int .u64 (s : Int)] w fun e w' => e = .returned (nodeV (digest K s0 (bs ++ eight s)) s) ∧ Below w.heap.size w w' := by
  obtain ⟨a, c, rfl, _⟩ := id hB
  obtain ⟨Z, hz, hZs, hZn, hZe⟩ := rn_zero
  obtain ⟨LT, hLT⟩ : ∃ L, L = tabsL s0 K := ⟨_, rfl⟩
  obtain ⟨LD, hLD⟩ : ∃ L, L = bcells (digest K s0 (bs ++ eight s)) := ⟨_, rfl⟩
  obtain ⟨LN, hLN⟩ : ∃ L, L = ncells (digest K s0 (bs ++ eight s)) s := ⟨_, rfl⟩
  obtain ⟨n, hn⟩ : ∃ n, n = bs.length := ⟨_, rfl⟩
  have hdl := digest_length K s0 hs0 (bs ++ eight s)
  have HSUM := Lib.hid (show ∀ (x : World) (v : Value), Parts x v [bs, eight s] → Calls Tryd.prog 75 #[.agg LT.toArray, v] x fun e w' => e = .returned (.agg LD.toArray) ∧ Below x.heap.size x w' from fun x v hp => by
    have h := tsum_is K s0 hK hs0 x v [bs, eight s] hp (by simp [eight_length]; omega) (by simp)
    rw [show [bs, eight s].flatten = bs ++ eight s by simp] at h
    rw [hLT, hLD]; exact h)
  obtain ⟨F, q1, q2, q3, q4, q5⟩ := rn_ops Z hZe _ s hdl LD LN hLD hLN
  have hlt72 := tabs_length K s0 hK hs0
  rw [← hLT] at hlt72 ⊢
  rw [← hn]
  have s1 : ∀ (x : World) o, (x.alloc o).heap.size = x.heap.size + 1 := fun x o => by simp
  have b0 := (Has.new w 69 LT.toArray).alloc (.cells Z 62)
  have b1 := Has.new (w.alloc (.cells LT.toArray 69)) 62 Z
  rw [s1] at b1
  have hbel := ((Below.refl w.heap.size w).alloc (Nat.le_refl _) (.cells LT.toArray 69)).alloc (by rw [s1]; omega) (.cells Z 62)
  have HB0 := Lib.hid b0
  have HB1 := Lib.hid b1
  have HBEL := Lib.hid hbel
  have HB := Lib.hid hB
  have HN := Lib.hid hn
  have HLN := Lib.hid (And.intro hLN (show LN.length = 33 by rw [hLN]; exact (nd_row _ s hdl).1))
  have EZ := Lib.hid hZs
  have HS64 := Lib.hid hs
  have SZT := Lib.hid (show (Tryd.prog.info? 69).map (·.size) = some LT.length by rw [hlt72]; kernel_rfl)
  have SZN := Lib.hid (show (Tryd.prog.info? 62).map (·.size) = some LN.toArray.size by rw [List.size_toArray, HLN.out.2]; kernel_rfl)
  have SZN2 := Lib.hid (show (Tryd.prog.info? 62).map (·.size) = some LN.toArray.size from SZN.out)
  have ONEN := Lib.hid (show LN.toArray.all (·.oneCell') = true by rw [hLN]; exact all_oneCell_toArray (ncells_one _ _))
  have HQ := Lib.hid (And.intro q1 (And.intro q2 (And.intro q3 (And.intro q4 q5))))
  clear q1 q2 q3 q4 q5 hZe b0 b1 hbel hB hn hLN hZs hs hlt72 hLT hLD hdl s1 hK hs0 hl
  go_enter Tryd.func57, Tryd.ntmps57
  go_upto_region 1 with (fail)
  generalize (w.alloc (.cells LT.toArray 69)).alloc (.cells Z 62) = W0 at HB0 HB1 HBEL ⊢
  obtain ⟨B0, hB0⟩ : ∃ B, B = w.heap.size := ⟨_, rfl⟩
  obtain ⟨B1, hB1⟩ : ∃ B, B = w.heap.size + 1 := ⟨_, rfl⟩
  rw [← hB1] at HB1 ⊢
  rw [← hB0] at HB0 ⊢
  have EB := Lib.hid (And.intro hB0 hB1)
  clear hB0 hB1
  have hS0 : W0.rangeAt B0 0 LT := HB0.out.row0
  refine wp_region_noPanic ?_
  refine wp_region_held_drew (S := (fun v => v.rangeAt B0 0 LT)) (by kernel_rfl) hS0 (fun hH0 => ?_)
  refine wpAnyH_take (i := 0) (v := (.agg LT.toArray)) rfl (by kernel_rfl) (by kernel_rfl) (by kernel_rfl) (fun _ _ _ h => h) (yieldsIf_load_mid (by kernel_rfl) 69 (.tmp 3) rfl B0 0 rfl LT _ (fun w' h => h) Tryd.underlying69 rfl SZT.out) hH0 ?_
  simp only [Act.put, List.getElem_toArray, List.getElem_cons_zero, List.getElem_cons_succ, List.setIfInBounds_toArray, List.set_cons_zero, List.set_cons_succ]
  refine wpAnyH_take (i := 1) (v := ((.slice a n c))) rfl (by kernel_rfl) (by kernel_rfl) (by kernel_rfl) (fun _ _ _ h => h) (Or.inl ⟨by kernel_rfl, by intro w' hS; go_simp⟩) hH0 ?_
  simp only [Act.put, List.getElem_toArray, List.getElem_cons_zero, List.getElem_cons_succ, List.setIfInBounds_toArray, List.set_cons_zero, List.set_cons_succ]
  refine wpAnyH_take (i := 2) (v := ((.int .u64 (s : Int)))) rfl (by kernel_rfl) (by kernel_rfl) (by kernel_rfl) (fun _ _ _ h => h) (Or.inl ⟨by kernel_rfl, by intro w' hS; go_simp⟩) hH0 ?_
  simp only [Act.put, List.getElem_toArray, List.getElem_cons_zero, List.getElem_cons_succ, List.setIfInBounds_toArray, List.set_cons_zero, List.set_cons_succ]
  refine wpAnyH_take (i := 6) (v := ((.int .u64 (s : Int)))) rfl (by kernel_rfl) (by kernel_rfl) (by kernel_rfl) (fun _ _ _ h => h) (Or.inl ⟨by kernel_rfl, by intro w' hS; go_simp⟩) hH0 ?_
  simp only [Act.put, List.getElem_toArray, List.getElem_cons_zero, List.getElem_cons_succ, List.setIfInBounds_toArray, List.set_cons_zero, List.set_cons_succ]
  refine wpAnyH_ready (rs := [3]) (by kernel_rfl) (by simp) ?_
  refine AllReadyH.cons rfl (fun K hK => ?_) AllReadyH.nil
  go_simp
  refine (eight_is _ s HS64.out).mono ?_
  rintro _ w1 ⟨⟨a8, c8, rfl, hb8⟩, hbe8⟩
  have hk1 : Kept (fun _ => False) W0 w1 := (Kept.of_below hbe8).undrew
  have hs1 := rangeAt_kept hS0 hk1 (fun h => h)
  have hal1 : Kept (fun _ => False) w1 (w1.alloc (.cells #[Value.slice a n c, .slice a8 8 c8] 29)) := (Kept.refl _ _).alloc _
  have hs2 := rangeAt_kept hs1 hal1 (fun h => h)
  have hx1 : Below w.heap.size w w1 := HBEL.out.trans (hk1.below HBEL.out.size (fun _ h => h.elim))
  have hpa := parts_new w1 29 2 [Value.slice a n c, .slice a8 8 c8] [bs, eight s] rfl rfl (parts_two (by rw [HN.out]; exact HB.out.alive hx1 hx1.size) hb8)
  have HPA := Lib.hid hpa
  have HK1 := Lib.hid (hk1.trans hal1)
  clear hb8 hbe8 hk1 hal1 hx1 hpa
  refine Shut.out hK _ _ hs1 (fun hH1 => ?_)
  clear hK K
  try simp only [Act.put, List.getElem_toArray, List.getElem_cons_zero, List.getElem_cons_succ, List.setIfInBounds_toArray, List.set_cons_zero, List.set_cons_succ]
  refine wpAnyH_ready (rs := [4]) (by kernel_rfl) (by simp) ?_
  refine AllReadyH.cons rfl (fun K hK => ?_) AllReadyH.nil
  go_simp
  refine Shut.out hK _ _ hs2 (fun hH2 => ?_)
  clear hK K
  try simp only [Act.put, List.getElem_toArray, List.getElem_cons_zero, List.getElem_cons_succ, List.setIfInBounds_toArray, List.set_cons_zero, List.set_cons_succ]
  refine wpAnyH_ready (rs := [5]) (by kernel_rfl) (by simp) ?_
  refine AllReadyH.cons rfl (fun K hK => ?_) AllReadyH.nil
  go_simp
  refine (HSUM.out _ _ HPA.out).mono ?_
  rintro _ w3 ⟨rfl, hb3⟩
  have hk3 : Kept (fun _ => False) W0 w3 := HK1.out.trans (Kept.of_below hb3)
  have hs3 := rangeAt_kept hS0 hk3 (fun h => h)
  have hz3 := HB1.out.kept hk3 (fun h => h)
  have HTH := Lib.hid (hz3.there 0 33 (by rw [EZ.out]; decide))
  obtain ⟨hr3, hkr⟩ := rset hz3 (show Z.size = LN.length by rw [EZ.out, HLN.out.2])
  have hs4 := rangeAt_kept hs3 hkr (show ¬ B0 = B1 by have := EB.out; omega)
  have HFIN := Lib.hid (And.intro hr3 (HBEL.out.trans ((hk3.mono (S' := (· = B1)) (fun _ _ h => h.elim)).trans hkr |>.below HBEL.out.size (fun k e => by have e' : k = B1 := e; have := EB.out; omega))))
  have HS4 := Lib.hid hs4
  obtain ⟨q1, q2, q3, q4, q5⟩ := HQ.out
  clear hb3 hk3 hz3 hr3 hkr hs4
  refine Shut.out hK _ _ hs3 (fun hH3 => ?_)
  clear hK K
  try simp only [Act.put, List.getElem_toArray, List.getElem_cons_zero, List.getElem_cons_succ, List.setIfInBounds_toArray, List.set_cons_zero, List.set_cons_succ]
  refine wpAnyH_take (i := 7) (v := ((.agg LN.toArray))) rfl (by kernel_rfl) (by kernel_rfl) (by kernel_rfl) (fun _ _ _ h => h) (Or.inl ⟨by kernel_rfl, by intro w' hS; go_simp⟩) hH3 ?_
  simp only [Act.put, List.getElem_toArray, List.getElem_cons_zero, List.getElem_cons_succ, List.setIfInBounds_toArray, List.set_cons_zero, List.set_cons_succ]
  refine wpAnyH_ready (rs := [8]) (by kernel_rfl) (by simp) ?_
  refine AllReadyH.cons rfl (fun K hK => ?_) AllReadyH.nil
  refine step_store_mid rfl 62 (.tmp 6) (.tmp 14) rfl B1 0 LN.toArray rfl rfl (by rw [List.size_toArray, HLN.out.2]; exact HTH.out) SZN.out ONEN.out ?_
  refine Shut.out hK _ _ HS4.out (fun hH4 => ?_)
  clear hK K
  try simp only [Act.put, List.getElem_toArray, List.getElem_cons_zero, List.getElem_cons_succ, List.setIfInBounds_toArray, List.set_cons_zero, List.set_cons_succ]
  refine wpAnyH_done (by kernel_rfl) ?_ _
  refine NoPanic.normal ?_
  clear q1 q2 q3 q4 q5
  go_wp2_with fail
  refine bodyPost_ret (results_cell_row rfl _ _ B1 62 LN.toArray (0, 0) _ rfl HFIN.out.1 Tryd.underlying62 rfl SZN2.out) rfl ?_
  exact ⟨by rw [HLN.out.1]; rfl, HFIN.out.2⟩
theorem node_bytes {w : World} {B s : Nat} {t : TypeId} {L : List Value} {h : List Nat} (hb : Has w B t L.toArray) (hL : L = ncells h s) (hh : IsHash h) : Bytes w w.heap.size (.slice (some ⟨B, 0, none⟩) 32 32) h := by
  refine ⟨_, 32, by rw [hh.1], by rw [hh.1]; exact Nat.le_refl _, hh.2, fun _ => ⟨B, 0, rfl, by have := hb.lt; omega, fun i hi => ?_⟩⟩
  rw [Nat.zero_add]
  refine hb.cell_is ?_
  rw [List.getElem?_toArray, hL, ncells, List.getElem?_append_left (by rw [bcells_length]; exact hi)]
  exact bcells_get h i hi
set_option maxRecDepth 100000 in
set_option maxHeartbeats 4000000 in
theorem refBranch_is (K s0 : List Wd) (hK : K.length = 64) (hs0 : s0.length = 8) (w : World) (ha hb : List Nat) (sa sb : Nat) (h1 : IsHash ha) (h2 : IsHash hb) (hf : sa + sb < 18446744073709551616) :
    Calls Tryd.prog 60 #[.agg (tabsL s0 K).toArray, nodeV ha sa, nodeV hb sb] w fun e w' => e = .returned (nodeV (digest K s0 (ha ++ eight sa ++ (hb ++ eight sb))) (sa + sb)) ∧ Below w.heap.size w w' := by
  obtain ⟨Z, hz, hZs, hZn, hZe⟩ := rn_zero
  obtain ⟨M, hM⟩ : ∃ M, M = ha ++ eight sa ++ (hb ++ eight sb) := ⟨_, rfl⟩
  obtain ⟨sab, hsab⟩ : ∃ x, x = sa + sb := ⟨_, rfl⟩
  rw [← hM, ← hsab]
  obtain ⟨LT, hLT⟩ : ∃ L, L = tabsL s0 K := ⟨_, rfl⟩
  obtain ⟨LA, hLA⟩ : ∃ L, L = ncells ha sa := ⟨_, rfl⟩
  obtain ⟨LB, hLB⟩ : ∃ L, L = ncells hb sb := ⟨_, rfl⟩
  obtain ⟨LD, hLD⟩ : ∃ L, L = bcells (digest K s0 M) := ⟨_, rfl⟩
  obtain ⟨LN, hLN⟩ : ∃ L, L = ncells (digest K s0 M) sab := ⟨_, rfl⟩
  have hdl := digest_length K s0 hs0 M
  have HSUM := Lib.hid (show ∀ (x : World) (v : Value), Parts x v [ha, eight sa, hb, eight sb] → Calls Tryd.prog 75 #[.agg LT.toArray, v] x fun e w' => e = .returned (.agg LD.toArray) ∧ Below x.heap.size x w' from fun x v hp => by
    have h := tsum_is K s0 hK hs0 x v [ha, eight sa, hb, eight sb] hp (by simp [eight_length, h1.1, h2.1]) (by simp)
    rw [show [ha, eight sa, hb, eight sb].flatten = M by rw [hM]; simp] at h
    rw [hLT, hLD]; exact h)
  obtain ⟨F, q1, q2, q3, q4, q5⟩ := rn_ops Z hZe _ sab hdl LD LN hLD hLN
  have hlt72 := tabs_length K s0 hK hs0
  have la := nd_row ha sa h1.1
  have lb := nd_row hb sb h2.1
  rw [← hLA] at la
  rw [← hLB] at lb
  have ea : nodeV ha sa = .agg LA.toArray := by rw [hLA]; rfl
  have eb : nodeV hb sb = .agg LB.toArray := by rw [hLB]; rfl
  rw [← hLT] at hlt72 ⊢
  rw [ea, eb]
  have s1 : ∀ (x : World) o, (x.alloc o).heap.size = x.heap.size + 1 := fun x o => by simp
  have b0 := (((Has.new w 69 LT.toArray).alloc (.cells LA.toArray 62)).alloc (.cells LB.toArray 62)).alloc (.cells Z 62)
  have b1 := ((Has.new (w.alloc (.cells LT.toArray 69)) 62 LA.toArray).alloc (.cells LB.toArray 62)).alloc (.cells Z 62)
  have b2 := (Has.new ((w.alloc (.cells LT.toArray 69)).alloc (.cells LA.toArray 62)) 62 LB.toArray).alloc (.cells Z 62)
  have b3 := Has.new (((w.alloc (.cells LT.toArray 69)).alloc (.cells LA.toArray 62)).alloc (.cells LB.toArray 62)) 62 Z
  rw [s1] at b1
  rw [s1, s1] at b2
  rw [s1, s1, s1] at b3
  have hbel := (((((Below.refl w.heap.size w).alloc (Nat.le_refl _) (.cells LT.toArray 69)).alloc (by rw [s1]; omega) (.cells LA.toArray 62)).alloc (by rw [s1, s1]; omega) (.cells LB.toArray 62)).alloc (by rw [s1, s1, s1]; omega) (.cells Z 62))
  have HB0 := Lib.hid b0
  have HB1 := Lib.hid b1
  have HB2 := Lib.hid b2
  have HB3 := Lib.hid b3
  have HBEL := Lib.hid hbel
  have HLN := Lib.hid (And.intro hLN (show LN.length = 33 by rw [hLN]; exact (nd_row _ sab hdl).1))
  have EZ := Lib.hid hZs
  have HS64 := Lib.hid (show sa < 18446744073709551616 ∧ sb < 18446744073709551616 by omega)
  have hsum : IntKind.u64.wrap ((sa : Int) + (sb : Int)) = (sab : Int) := by rw [IntKind.wrap_u64, hsab]; omega
  have HIS := Lib.hid (And.intro h1 h2)
  have HLA := Lib.hid (And.intro hLA hLB)
  have HCA := Lib.hid (And.intro la.2 lb.2)
  have SZT := Lib.hid (show (Tryd.prog.info? 69).map (·.size) = some LT.length by rw [hlt72]; kernel_rfl)
  have SZN := Lib.hid (show (Tryd.prog.info? 62).map (·.size) = some LN.toArray.size by rw [List.size_toArray, HLN.out.2]; kernel_rfl)
  have SZN2 := Lib.hid (show (Tryd.prog.info? 62).map (·.size) = some LN.toArray.size from SZN.out)
  have ONEN := Lib.hid (show LN.toArray.all (·.oneCell') = true by rw [hLN]; exact all_oneCell_toArray (ncells_one _ _))
  have HQ := Lib.hid (And.intro q1 (And.intro q2 (And.intro q3 (And.intro q4 q5))))
  clear q1 q2 q3 q4 q5 hZe b0 b1 b2 b3 hbel hLN hZs hlt72 hLT hLD hdl s1 hK hs0 la lb ea eb hLA hLB hsab hM h1 h2 hf
  go_enter Tryd.func60, Tryd.ntmps60
  go_upto_region 1 with (fail)
  generalize (((w.alloc (.cells LT.toArray 69)).alloc (.cells LA.toArray 62)).alloc (.cells LB.toArray 62)).alloc (.cells Z 62) = W0 at HB0 HB1 HB2 HB3 HBEL ⊢
  obtain ⟨B0, hB0⟩ : ∃ B, B = w.heap.size := ⟨_, rfl⟩
  obtain ⟨B1, hB1⟩ : ∃ B, B = w.heap.size + 1 := ⟨_, rfl⟩
  obtain ⟨B2, hB2⟩ : ∃ B, B = w.heap.size + 1 + 1 := ⟨_, rfl⟩
  obtain ⟨B3, hB3⟩ : ∃ B, B = w.heap.size + 1 + 1 + 1 := ⟨_, rfl⟩
  rw [← hB3] at HB3
  rw [← hB2] at HB2
  rw [← hB1] at HB1
  rw [← hB0] at HB0
  rw [← hB0]
  try rw [show B0 + 1 + 1 + 1 = B3 by omega]
  try rw [show B0 + 3 = B3 by omega]
  try rw [show B0 + 1 + 1 = B2 by omega]
  try rw [show B0 + 2 = B2 by omega]
  rw [show B0 + 1 = B1 by omega]
  have EB := Lib.hid (And.intro hB0 (And.intro hB1 (And.intro hB2 hB3)))
  clear hB0 hB1 hB2 hB3
  have HKS := Lib.hid (show ∀ v, Kept (fun _ => False) W0 v → v.rangeAt B0 0 LT ∧ v.cell? ⟨B1, 32, none⟩ = some (.int .u64 (sa : Int)) ∧ v.cell? ⟨B2, 32, none⟩ = some (.int .u64 (sb : Int)) from fun v hk => ⟨rangeAt_kept HB0.out.row0 hk (fun h => h), (HB1.out.kept hk (fun h => h)).cell_is (by rw [List.getElem?_toArray]; exact HCA.out.1), (HB2.out.kept hk (fun h => h)).cell_is (by rw [List.getElem?_toArray]; exact HCA.out.2)⟩)
  have HKA := Lib.hid (show ∀ v, Kept (fun _ => False) W0 v → Bytes v v.heap.size (.slice (some ⟨B1, 0, none⟩) 32 32) ha from fun v hk => node_bytes (HB1.out.kept hk (fun h => h)) HLA.out.1 HIS.out.1)
  have HKB := Lib.hid (show ∀ v, Kept (fun _ => False) W0 v → Bytes v v.heap.size (.slice (some ⟨B2, 0, none⟩) 32 32) hb from fun v hk => node_bytes (HB2.out.kept hk (fun h => h)) HLA.out.2 HIS.out.2)
  have hS0 := HKS.out W0 (Kept.refl _ _)
  refine wp_region_noPanic ?_
  refine wp_region_held_drew (S := (fun v => v.rangeAt B0 0 LT ∧ v.cell? ⟨B1, 32, none⟩ = some (.int .u64 (sa : Int)) ∧ v.cell? ⟨B2, 32, none⟩ = some (.int .u64 (sb : Int)))) (by kernel_rfl) hS0 (fun hH0 => ?_)
  refine wpAnyH_take (i := 0) (v := (.agg LT.toArray)) rfl (by kernel_rfl) (by kernel_rfl) (by kernel_rfl) (fun _ _ _ h => h) (yieldsIf_load_mid (by kernel_rfl) 69 (.tmp 3) rfl B0 0 rfl LT _ (fun w' h => h.1) Tryd.underlying69 rfl SZT.out) hH0 ?_
  simp only [Act.put, List.getElem_toArray, List.getElem_cons_zero, List.getElem_cons_succ, List.setIfInBounds_toArray, List.set_cons_zero, List.set_cons_succ]
  refine wpAnyH_take (i := 1) (v := ((.pointer (some ⟨B1, 0, none⟩)))) rfl (by kernel_rfl) (by kernel_rfl) (by kernel_rfl) (fun _ _ _ h => h) (Or.inl ⟨by kernel_rfl, by intro w' hS; obtain ⟨z0, z1, z2⟩ := hS; go_simp⟩) hH0 ?_
  simp only [Act.put, List.getElem_toArray, List.getElem_cons_zero, List.getElem_cons_succ, List.setIfInBounds_toArray, List.set_cons_zero, List.set_cons_succ]
  refine wpAnyH_take (i := 2) (v := ((.slice (some ⟨B1, 0, none⟩) 32 32))) rfl (by kernel_rfl) (by kernel_rfl) (by kernel_rfl) (fun _ _ _ h => h) (Or.inl ⟨by kernel_rfl, by intro w' hS; obtain ⟨z0, z1, z2⟩ := hS; go_simp⟩) hH0 ?_
  simp only [Act.put, List.getElem_toArray, List.getElem_cons_zero, List.getElem_cons_succ, List.setIfInBounds_toArray, List.set_cons_zero, List.set_cons_succ]
  refine wpAnyH_take (i := 3) (v := ((.pointer (some ⟨B1, 32, none⟩)))) rfl (by kernel_rfl) (by kernel_rfl) (by kernel_rfl) (fun _ _ _ h => h) (Or.inl ⟨by kernel_rfl, by intro w' hS; obtain ⟨z0, z1, z2⟩ := hS; go_simp⟩) hH0 ?_
  simp only [Act.put, List.getElem_toArray, List.getElem_cons_zero, List.getElem_cons_succ, List.setIfInBounds_toArray, List.set_cons_zero, List.set_cons_succ]
  refine wpAnyH_take (i := 4) (v := ((.int .u64 (sa : Int)))) rfl (by kernel_rfl) (by kernel_rfl) (by kernel_rfl) (fun _ _ _ h => h) (Or.inl ⟨by kernel_rfl, by intro w' hS; obtain ⟨z0, z1, z2⟩ := hS; go_simp⟩) hH0 ?_
  simp only [Act.put, List.getElem_toArray, List.getElem_cons_zero, List.getElem_cons_succ, List.setIfInBounds_toArray, List.set_cons_zero, List.set_cons_succ]
  refine wpAnyH_take (i := 6) (v := ((.pointer (some ⟨B2, 0, none⟩)))) rfl (by kernel_rfl) (by kernel_rfl) (by kernel_rfl) (fun _ _ _ h => h) (Or.inl ⟨by kernel_rfl, by intro w' hS; obtain ⟨z0, z1, z2⟩ := hS; go_simp⟩) hH0 ?_
  simp only [Act.put, List.getElem_toArray, List.getElem_cons_zero, List.getElem_cons_succ, List.setIfInBounds_toArray, List.set_cons_zero, List.set_cons_succ]
  refine wpAnyH_take (i := 7) (v := ((.slice (some ⟨B2, 0, none⟩) 32 32))) rfl (by kernel_rfl) (by kernel_rfl) (by kernel_rfl) (fun _ _ _ h => h) (Or.inl ⟨by kernel_rfl, by intro w' hS; obtain ⟨z0, z1, z2⟩ := hS; go_simp⟩) hH0 ?_
  simp only [Act.put, List.getElem_toArray, List.getElem_cons_zero, List.getElem_cons_succ, List.setIfInBounds_toArray, List.set_cons_zero, List.set_cons_succ]
  refine wpAnyH_take (i := 8) (v := ((.pointer (some ⟨B2, 32, none⟩)))) rfl (by kernel_rfl) (by kernel_rfl) (by kernel_rfl) (fun _ _ _ h => h) (Or.inl ⟨by kernel_rfl, by intro w' hS; obtain ⟨z0, z1, z2⟩ := hS; go_simp⟩) hH0 ?_
  simp only [Act.put, List.getElem_toArray, List.getElem_cons_zero, List.getElem_cons_succ, List.setIfInBounds_toArray, List.set_cons_zero, List.set_cons_succ]
  refine wpAnyH_take (i := 9) (v := ((.int .u64 (sb : Int)))) rfl (by kernel_rfl) (by kernel_rfl) (by kernel_rfl) (fun _ _ _ h => h) (Or.inl ⟨by kernel_rfl, by intro w' hS; obtain ⟨z0, z1, z2⟩ := hS; go_simp⟩) hH0 ?_
  simp only [Act.put, List.getElem_toArray, List.getElem_cons_zero, List.getElem_cons_succ, List.setIfInBounds_toArray, List.set_cons_zero, List.set_cons_succ]
  refine wpAnyH_take (i := 13) (v := ((.pointer (some ⟨B1, 32, none⟩)))) rfl (by kernel_rfl) (by kernel_rfl) (by kernel_rfl) (fun _ _ _ h => h) (Or.inl ⟨by kernel_rfl, by intro w' hS; obtain ⟨z0, z1, z2⟩ := hS; go_simp⟩) hH0 ?_
  simp only [Act.put, List.getElem_toArray, List.getElem_cons_zero, List.getElem_cons_succ, List.setIfInBounds_toArray, List.set_cons_zero, List.set_cons_succ]
  refine wpAnyH_take (i := 14) (v := ((.int .u64 (sa : Int)))) rfl (by kernel_rfl) (by kernel_rfl) (by kernel_rfl) (fun _ _ _ h => h) (Or.inl ⟨by kernel_rfl, by intro w' hS; obtain ⟨z0, z1, z2⟩ := hS; go_simp⟩) hH0 ?_
  simp only [Act.put, List.getElem_toArray, List.getElem_cons_zero, List.getElem_cons_succ, List.setIfInBounds_toArray, List.set_cons_zero, List.set_cons_succ]
  refine wpAnyH_take (i := 15) (v := ((.pointer (some ⟨B2, 32, none⟩)))) rfl (by kernel_rfl) (by kernel_rfl) (by kernel_rfl) (fun _ _ _ h => h) (Or.inl ⟨by kernel_rfl, by intro w' hS; obtain ⟨z0, z1, z2⟩ := hS; go_simp⟩) hH0 ?_
  simp only [Act.put, List.getElem_toArray, List.getElem_cons_zero, List.getElem_cons_succ, List.setIfInBounds_toArray, List.set_cons_zero, List.set_cons_succ]
  refine wpAnyH_take (i := 16) (v := ((.int .u64 (sb : Int)))) rfl (by kernel_rfl) (by kernel_rfl) (by kernel_rfl) (fun _ _ _ h => h) (Or.inl ⟨by kernel_rfl, by intro w' hS; obtain ⟨z0, z1, z2⟩ := hS; go_simp⟩) hH0 ?_
  simp only [Act.put, List.getElem_toArray, List.getElem_cons_zero, List.getElem_cons_succ, List.setIfInBounds_toArray, List.set_cons_zero, List.set_cons_succ]
  refine wpAnyH_take (i := 17) (v := ((.int .u64 (sab : Int)))) rfl (by kernel_rfl) (by kernel_rfl) (by kernel_rfl) (fun _ _ _ h => h) (Or.inl ⟨by kernel_rfl, by intro w' hS; obtain ⟨z0, z1, z2⟩ := hS; go_simp⟩) hH0 ?_
  simp only [Act.put, List.getElem_toArray, List.getElem_cons_zero, List.getElem_cons_succ, List.setIfInBounds_toArray, List.set_cons_zero, List.set_cons_succ]
  refine wpAnyH_ready (rs := [5]) (by kernel_rfl) (by simp) ?_
  refine AllReadyH.cons rfl (fun K hK => ?_) AllReadyH.nil
  go_simp
  refine (eight_is _ sa HS64.out.1).mono ?_
  rintro _ w1 ⟨⟨a8, c8, rfl, hb8⟩, hbe8⟩
  have hk1 : Kept (fun _ => False) W0 w1 := (Kept.of_below hbe8).undrew
  have hs1 := HKS.out _ hk1
  have HB8 := Lib.hid hb8
  have HK1 := Lib.hid hk1
  clear hb8 hbe8 hk1
  refine Shut.out hK _ _ hs1 (fun hH1 => ?_)
  clear hK K
  try simp only [Act.put, List.getElem_toArray, List.getElem_cons_zero, List.getElem_cons_succ, List.setIfInBounds_toArray, List.set_cons_zero, List.set_cons_succ]
  refine wpAnyH_ready (rs := [10]) (by kernel_rfl) (by simp) ?_
  refine AllReadyH.cons rfl (fun K hK => ?_) AllReadyH.nil
  go_simp
  refine (eight_is _ sb HS64.out.2).mono ?_
  rintro _ w2 ⟨⟨a9, c9, rfl, hb9⟩, hbe9⟩
  have hk2 : Kept (fun _ => False) W0 w2 := HK1.out.trans (Kept.of_below hbe9)
  have hs2 := HKS.out _ hk2
  have hal2 : Kept (fun _ => False) w2 (w2.alloc (.cells #[Value.slice (some ⟨B1, 0, none⟩) 32 32, .slice a8 8 c8, .slice (some ⟨B2, 0, none⟩) 32 32, .slice a9 8 c9] 29)) := (Kept.refl _ _).alloc _
  have hs3 := HKS.out _ (hk2.trans hal2)
  have hpa := parts_new w2 29 4 [Value.slice (some ⟨B1, 0, none⟩) 32 32, .slice a8 8 c8, .slice (some ⟨B2, 0, none⟩) 32 32, .slice a9 8 c9] [ha, eight sa, hb, eight sb] rfl rfl (parts_four (HKA.out _ hk2) (HB8.out.alive hbe9 hbe9.size) (HKB.out _ hk2) hb9)
  have HPA := Lib.hid hpa
  have HK2 := Lib.hid (hk2.trans hal2)
  clear hb9 hbe9 hk2 hal2 hpa
  refine Shut.out hK _ _ hs2 (fun hH2 => ?_)
  clear hK K
  try simp only [Act.put, List.getElem_toArray, List.getElem_cons_zero, List.getElem_cons_succ, List.setIfInBounds_toArray, List.set_cons_zero, List.set_cons_succ]
  refine wpAnyH_ready (rs := [11]) (by kernel_rfl) (by simp) ?_
  refine AllReadyH.cons rfl (fun K hK => ?_) AllReadyH.nil
  go_simp
  refine Shut.out hK _ _ hs3 (fun hH3 => ?_)
  clear hK K
  try simp only [Act.put, List.getElem_toArray, List.getElem_cons_zero, List.getElem_cons_succ, List.setIfInBounds_toArray, List.set_cons_zero, List.set_cons_succ]
  refine wpAnyH_ready (rs := [12]) (by kernel_rfl) (by simp) ?_
  refine AllReadyH.cons rfl (fun K hK => ?_) AllReadyH.nil
  go_simp
  refine (HSUM.out _ _ HPA.out).mono ?_
  rintro _ w3 ⟨rfl, hb3⟩
  have hk3 : Kept (fun _ => False) W0 w3 := HK2.out.trans (Kept.of_below hb3)
  have hs4 := HKS.out _ hk3
  have hz3 := HB3.out.kept hk3 (fun h => h)
  have HTH := Lib.hid (hz3.there 0 33 (by rw [EZ.out]; decide))
  obtain ⟨hr3, hkr⟩ := rset hz3 (show Z.size = LN.length by rw [EZ.out, HLN.out.2])
  have hs5 := And.intro (rangeAt_kept hs4.1 hkr (show ¬ B0 = B3 by have := EB.out; omega)) (And.intro (cell_held hkr hs4.2.1 (show ¬ B1 = B3 by have := EB.out; omega)) (cell_held hkr hs4.2.2 (show ¬ B2 = B3 by have := EB.out; omega)))
  have HFIN := Lib.hid (And.intro hr3 (HBEL.out.trans ((hk3.mono (S' := (· = B3)) (fun _ _ h => h.elim)).trans hkr |>.below HBEL.out.size (fun k e => by have e' : k = B3 := e; have := EB.out; omega))))
  have HS5 := Lib.hid hs5
  obtain ⟨q1, q2, q3, q4, q5⟩ := HQ.out
  clear hb3 hk3 hz3 hr3 hkr hs5
  refine Shut.out hK _ _ hs4 (fun hH4 => ?_)
  clear hK K
  try simp only [Act.put, List.getElem_toArray, List.getElem_cons_zero, List.getElem_cons_succ, List.setIfInBounds_toArray, List.set_cons_zero, List.set_cons_succ]
  refine wpAnyH_take (i := 18) (v := ((.agg LN.toArray))) rfl (by kernel_rfl) (by kernel_rfl) (by kernel_rfl) (fun _ _ _ h => h) (Or.inl ⟨by kernel_rfl, by intro w' hS; obtain ⟨z0, z1, z2⟩ := hS; go_simp⟩) hH4 ?_
  simp only [Act.put, List.getElem_toArray, List.getElem_cons_zero, List.getElem_cons_succ, List.setIfInBounds_toArray, List.set_cons_zero, List.set_cons_succ]
  refine wpAnyH_ready (rs := [19]) (by kernel_rfl) (by simp) ?_
  refine AllReadyH.cons rfl (fun K hK => ?_) AllReadyH.nil
  refine step_store_mid rfl 62 (.tmp 6) (.tmp 25) rfl B3 0 LN.toArray rfl rfl (by rw [List.size_toArray, HLN.out.2]; exact HTH.out) SZN.out ONEN.out ?_
  refine Shut.out hK _ _ HS5.out (fun hH5 => ?_)
  clear hK K
  try simp only [Act.put, List.getElem_toArray, List.getElem_cons_zero, List.getElem_cons_succ, List.setIfInBounds_toArray, List.set_cons_zero, List.set_cons_succ]
  refine wpAnyH_done (by kernel_rfl) ?_ _
  refine NoPanic.normal ?_
  clear q1 q2 q3 q4 q5
  go_wp2_with fail
  refine bodyPost_ret (results_cell_row rfl _ _ B3 62 LN.toArray (0, 0) _ rfl HFIN.out.1 Tryd.underlying62 rfl SZN2.out) rfl ?_
  exact ⟨by rw [HLN.out.1]; rfl, HFIN.out.2⟩
end Go.Proofs.YtngmpcmeebcdmaaDoor

/- What the listed variables hold, word by word: the reference's tables. -/
namespace Go.Proofs.YtngmpcmeebcdmaaDoor
set_option linter.unusedVariables false
set_option linter.unusedSimpArgs false
open Go.ChangeShapes Go.WideShapes Go.ChangeAt Go.RowKit

theorem words_at {H : Type} {enc : TypeId × Value → H} {P : Program} {w : World} {base : Nat} {spare : Nat → Bool} {held : Bool} {T e : TypeId} {n fuel : Nat} {cs : List Value} {d : DataW H} {p : List MemPlace} (l : List Nat)
    (ht : P.underlying T = some (.array n e)) (he : P.underlying e = some (.int .u32)) (h1 : P.cellsOf e = 1) (hT : P.cellsOf T = n) (hf : DataW.trod enc P w base spare held fuel T cs = some (d, p))
    (hd : d = .agg (l.map fun (k : Nat) => .lit (.int .u32 (k : Int)))) : ∀ i, i < n → cs[i]? = some (.int .u32 ((l.getD i 0 : Nat) : Int)) := by
  obtain ⟨xs, m, _, hx, hlen, hn, hall⟩ := DataW.trod_array ht hf
  rw [hT] at hlen
  subst hd
  have e3 : (xs.map (·.1)) = l.map fun (k : Nat) => (.lit (.int .u32 (k : Int)) : DataW H) := (DataW.agg.inj (Prod.mk.inj hx).1).symm
  have hll : l.length = n := by
    have := congrArg List.length e3
    simpa [hn] using this.symm
  intro i hi
  have hE := hall i hi
  rw [h1, Nat.mul_one, List.getElem?_eq_getElem (by omega)] at hE
  obtain ⟨k, hk1, e2, hw⟩ := DataW.trod_int he hE
  rw [List.drop_eq_getElem_cons (by omega)] at hk1
  simp only [List.take_succ_cons, List.take_zero, List.cons.injEq, and_true] at hk1
  have e4 : (xs.map (·.1))[i]? = (l.map fun (k : Nat) => (.lit (.int .u32 (k : Int)) : DataW H))[i]? := by rw [e3]
  rw [List.getElem?_map, List.getElem?_map, List.getElem?_eq_getElem (by omega : i < xs.length), List.getElem?_eq_getElem (by omega : i < l.length), e2] at e4
  simp only [Option.map_some, Option.some.injEq, DataW.lit.injEq, Lit.int.injEq, true_and] at e4
  rw [List.getElem?_eq_getElem (by omega), hk1, e4, List.getD_eq_getElem?_getD, List.getElem?_eq_getElem (by omega)]
  rfl
theorem ks_nat : ∀ i, i < 64 → (KS.getD i 0).toNat = ks64.getD i 0 := by decide
theorem ss_nat : ∀ i, i < 8 → (SS.getD i 0).toNat = ss8.getD i 0 := by decide
theorem of_laid2 {W : World} (h : laidMetH Tryd.prog laid2 W) : Tabs KS SS W := by
  rw [MakeChecks.laidMetH_plain _ _ _ (by kernel_rfl)] at h
  obtain ⟨ps, ⟨g0, t0, cs0, f0, p0, q0, hg0, ht0, hv0, hd0, ⟨g1, t1, cs1, f1, p1, q1, hg1, ht1, hv1, hd1, _, _⟩, _⟩, _, _⟩ := h
  obtain rfl := Option.some.inj (gStart.symm.trans hg0)
  obtain rfl := Option.some.inj (gRounds.symm.trans hg1)
  obtain rfl := Option.some.inj (tStart.symm.trans ht0)
  obtain rfl := Option.some.inj (tRounds.symm.trans ht1)
  have hsc := words_at ss8 Tryd.underlying66 Tryd.underlying65 (by kernel_rfl) (by kernel_rfl) hd0 (by rfl)
  have hkc := words_at ks64 Tryd.underlying67 Tryd.underlying65 (by kernel_rfl) (by kernel_rfl) hd1 (by rfl)
  have c0 : ∀ i, i < 8 → W.cell? ⟨1, i, none⟩ = some (.int .u32 ((SS.getD i 0).toNat : Int)) := fun i hi => by
    rw [World.var?_cell hg0 hv0 i, ss_nat i hi]; simpa using hsc i hi
  have c1 : ∀ i, i < 64 → W.cell? ⟨2, i, none⟩ = some (.int .u32 ((KS.getD i 0).toNat : Int)) := fun i hi => by
    rw [World.var?_cell hg1 hv1 i, ks_nat i hi]; simpa using hkc i hi
  refine ⟨c1, c0, ?_, ss_len⟩
  have a0 := World.block_lt_of_cell? W _ (c0 0 (by decide))
  have a1 := World.block_lt_of_cell? W _ (c1 0 (by decide))
  dsimp only at a0 a1
  omega
end Go.Proofs.YtngmpcmeebcdmaaDoor

/- The walk of msum.Empty. -/
namespace Go.Proofs.YtngmpcmeebcdmaaDoor
set_option linter.unusedVariables false
set_option linter.unusedSimpArgs false
open Go.ChangeShapes Go.WideShapes Go.ChangeAt Go.RowKit Go.Maps

end Go.Proofs.YtngmpcmeebcdmaaDoor

/- The walk of the reference's Empties: what stands where nothing does, at all heights. -/
namespace Go.Proofs.YtngmpcmeebcdmaaDoor
set_option linter.unusedVariables false
set_option linter.unusedSimpArgs false
open Go.ChangeShapes Go.WideShapes Go.ChangeAt Go.RowKit Go.Maps

/-- rows, one behind the other. -/
def flatE (LE : Nat → List Value) (n : Nat) : List Value := (List.range n).flatMap LE
theorem flatE_succ (LE : Nat → List Value) (n : Nat) : flatE LE (n + 1) = flatE LE n ++ LE n := by simp [flatE, List.range_succ, List.flatMap_append]
theorem flatE_len (LE : Nat → List Value) (h : ∀ k, (LE k).length = 33) (n : Nat) : (flatE LE n).length = n * 33 := by
  induction n with
  | zero => rfl
  | succ n ih => rw [flatE_succ, List.length_append, ih, h]; omega
theorem flatE_get (LE : Nat → List Value) (h : ∀ k, (LE k).length = 33) {n k j : Nat} {u : Value} (hk : k < n) (hu : (LE k)[j]? = some u) : (flatE LE n)[k * 33 + j]? = some u := by
  induction n with
  | zero => omega
  | succ n ih =>
    have hj := (List.getElem?_eq_some_iff.1 hu).1
    rw [h] at hj
    rw [flatE_succ]
    rcases Nat.lt_or_ge k n with hlt | hge
    · rw [List.getElem?_append_left (by rw [flatE_len LE h]; omega)]
      exact ih hlt
    · obtain rfl : k = n := by omega
      rw [List.getElem?_append_right (by rw [flatE_len LE h]; omega), flatE_len LE h, Nat.add_sub_cancel_left]
      exact hu
theorem info_rn : (Tryd.prog.info? 62).map (fun i => (i.zero, i.size, i.bytes)) = some (some (.agg (ncells (List.replicate 32 0) 0).toArray), 33, 40) := by kernel_rfl
/-- what the reference says of the empty parts. -/
def EmpAt (w : World) (K s0 : List Wd) (g : Nat) : Prop := g < w.heap.size ∧ ∀ h, h ≤ 256 → w.rangeAt g (h * 33) (ndV (emptyNd K s0 h))
def EmpP (w : World) (K s0 : List Wd) (e : Ending) (w' : World) : Prop := ∃ g c, e = .returned (.slice (some ⟨g, 0, none⟩) 257 c) ∧ EmpAt w' K s0 g ∧ w.heap.size ≤ g ∧ Below w.heap.size w w'
theorem at_rn (b n c k : Nat) (hk : k < n) (w : World) : (Instr.indexAt 72 (.slice (some ⟨b, 0, none⟩) n c) (.int .i64 (k : Int))).run Tryd.prog w = .ok (.pointer (some ⟨b, k * 33, none⟩)) w := by
  have hu : Tryd.prog.underlying 72 = some (.slice (Tryd.prog.elem 72)) := by kernel_rfl
  have he : Tryd.prog.elem 72 = 62 := by kernel_rfl
  have hz : ∀ w, (sizeOf 62).run Tryd.prog w = .ok 33 w := fun w => by kernel_rfl
  rw [run_indexAt_slice w 72 ⟨b, 0, none⟩ n c .i64 (k : Int) hu, if_pos ⟨by omega, by omega⟩, he, hz]
  simp only [Result.andThen, Int.toNat_natCast, Addr.add_mid, Nat.zero_add]
set_option maxRecDepth 100000 in
set_option maxHeartbeats 4000000 in
theorem refEmpties_is (K s0 : List Wd) (hK : K.length = 64) (hs0 : s0.length = 8) (w : World) :
    Calls Tryd.prog 58 #[.agg (tabsL s0 K).toArray] w (EmpP w K s0) := by
  obtain ⟨irn, hir, hir0, hir1, hir2⟩ := info_parts info_rn
  obtain ⟨LT, hLT⟩ : ∃ L, L = tabsL s0 K := ⟨_, rfl⟩
  have hlt72 := tabs_length K s0 hK hs0
  rw [← hLT] at hlt72 ⊢
  obtain ⟨LE, hLE⟩ : ∃ L, L = fun k => ndV (emptyNd K s0 k) := ⟨_, rfl⟩
  have hle : ∀ k, (LE k).length = 33 := fun k => by rw [hLE]; exact ndV_len (empty_hash K s0 hs0 k)
  have hof : ∀ x, Calls Tryd.prog 57 #[.agg LT.toArray, .slice none 0 0, .int .u64 0] x fun e w' => e = .returned (.agg (LE 0).toArray) ∧ Below x.heap.size x w' := fun x => by
    rw [hLT, hLE]; exact refOf_is K s0 hK hs0 x (.slice none 0 0) [] 0 (nil_bytes _ _) (by decide) (by decide)
  have hbr : ∀ x k, Calls Tryd.prog 60 #[.agg LT.toArray, .agg (LE k).toArray, .agg (LE k).toArray] x fun e w' => e = .returned (.agg (LE (k + 1)).toArray) ∧ Below x.heap.size x w' := fun x k => by
    have hk := empty_hash K s0 hs0 k
    have hs := empty_sum0 K s0 k
    rw [hLT, hLE]; exact refBranch_is K s0 hK hs0 x (emptyNd K s0 k).h (emptyNd K s0 k).h (emptyNd K s0 k).s (emptyNd K s0 k).s hk hk (by rw [hs]; decide)
  have HOF := Lib.hid hof
  have HBR := Lib.hid hbr
  have HLE := Lib.hid hle
  have ELE := Lib.hid hLE
  have SZT := Lib.hid (show (Tryd.prog.info? 69).map (·.size) = some LT.length by rw [hlt72]; kernel_rfl)
  have SZL := Lib.hid (show ∀ k, (Tryd.prog.info? 62).map (·.size) = some (LE k).length from fun k => by rw [hle]; kernel_rfl)
  have HONE := Lib.hid (show ∀ k, ∀ u ∈ LE k, u.oneCell' = true from fun k => by rw [hLE]; exact ncells_one _ _)
  have HZ33 := Lib.hid (show (Value.agg (ncells (List.replicate 32 0) 0).toArray).cells.size = 33 by kernel_rfl)
  have hb0 := Has.new w 69 LT.toArray
  have hbel := (Below.refl w.heap.size w).alloc (Nat.le_refl _) (.cells LT.toArray 69)
  have HB0 := Lib.hid hb0
  have HBEL := Lib.hid hbel
  have HS0 := Lib.hid hs0
  clear hlt72 hLT hle hLE hof hbr hb0 hbel hK hs0
  go_enter Tryd.func58, Tryd.ntmps58
  go_upto_region 1 with (fail)
  generalize w.alloc (.cells LT.toArray 69) = W0 at HB0 HBEL ⊢
  obtain ⟨Bt, hBt⟩ : ∃ B, B = w.heap.size := ⟨_, rfl⟩
  rw [← hBt] at HB0 ⊢
  have EBT := Lib.hid hBt
  clear hBt
  have HR0 := Lib.hid HB0.out.row0
  go_wp2_with (refine wpList_load_mid rfl 69 (.tmp 1) rfl Bt 0 rfl LT _ HR0.out Tryd.underlying69 rfl SZT.out ?_)
  refine (HOF.out _).mono ?_
  rintro _ w2 ⟨rfl, hb2⟩
  have hk2 : Kept (fun _ => False) W0 w2 := Kept.of_below hb2
  have hal := (Kept.refl (fun _ => False) w2).alloc (.cells (LE 0).toArray 62)
  have hst : Has (w2.alloc (.cells (LE 0).toArray 62)) Bt 69 LT.toArray := HB0.out.kept (hk2.trans hal) (fun h => h)
  have hown : (w2.alloc (.cells (LE 0).toArray 62)).ownsRow w.heap.size 62 33 (.slice (some ⟨w2.heap.size, 0, none⟩) 1 1) 1 (flatE LE 1) := by
    refine ⟨by rw [flatE_len LE HLE.out], .inr ⟨w2.heap.size, 1, (LE 0).toArray, rfl, ?_, heap_alloc_new w2 _, Nat.le_refl _, by decide, by rw [List.size_toArray, HLE.out], ?_⟩⟩
    · have h1 := HBEL.out.size
      have h2 := hk2.size
      omega
    · show (LE 0).take (1 * 33) = _
      rw [List.take_of_length_le (by rw [HLE.out]; decide)]
      simp [flatE]
  have hbe : Below w.heap.size w (w2.alloc (.cells (LE 0).toArray 62)) := HBEL.out.trans ((hk2.trans hal).below HBEL.out.size (fun _ h => h.elim))
  have hne : Bt ≠ w2.heap.size := by
    have h1 := HB0.out.lt
    have h2 := hk2.size
    omega
  have HST := Lib.hid hst
  have HOW := Lib.hid hown
  have HBE1 := Lib.hid hbe
  have HNE := Lib.hid hne
  clear hb2 hk2 hal hst hown hbe hne
  go_wp2_with (refine wpList_build1 rfl 72 62 (.tmp 6) rfl irn _ Tryd.underlying72 hir hir0 (LE 0) (by rw [hir1, HLE.out]) (by rw [HLE.out]; kernel_rfl) (by rw [HLE.out]; decide) (by rw [HLE.out]; decide) rfl ?_)
  go_loopw [3, 4] (fun ov iv wr => ∃ (k g oc : Nat), iv = .int .i64 (k : Int) ∧ ov = .slice (some ⟨g, 0, none⟩) (k + 1) oc ∧ k ≤ 256 ∧ wr.ownsRow w.heap.size 62 33 (.slice (some ⟨g, 0, none⟩) (k + 1) oc) (k + 1) (flatE LE (k + 1)) ∧ Has wr Bt 69 LT.toArray ∧ Bt ≠ g ∧ Below w.heap.size w wr) (fun _ iv _ => 256 - (intOf iv).toNat)
  case atStart => exact ⟨0, _, _, rfl, rfl, by decide, HOW.out, HST.out, HNE.out, HBE1.out⟩
  case round =>
    clear HOW HST HNE HBE1 HB0 HR0 HBEL HOF
    obtain ⟨k, g, oc, rfl, rfl, hk, hown, hst, hne, hbe⟩ := hrel
    have hcells : wr.rangeAt g (k * 33) (LE k) := fun j u hu => by
      have := hown.cells (g := g) rfl _ u (flatE_get LE HLE.out (Nat.lt_succ_self k) hu)
      rwa [Addr.add_mid, Nat.zero_add] at this
    have HOW := Lib.hid hown
    have HST := Lib.hid hst
    have HBE := Lib.hid hbe
    have HCE := Lib.hid hcells
    have HNE := Lib.hid hne
    clear hown hst hbe hcells
    by_cases hlt : k < 256
    · have HKS := Lib.hid (show ∀ v, Kept (fun _ => False) wr v → v.rangeAt Bt 0 LT ∧ v.rangeAt g (k * 33) (LE k) from fun v hk => ⟨(HST.out.kept hk (fun h => h)).row0, rangeAt_kept HCE.out hk (fun h => h)⟩)
      have HOWN := Lib.hid (show ∀ v, Kept (fun _ => False) wr v → v.ownsRow w.heap.size 62 33 (.slice (some ⟨g, 0, none⟩) (k + 1) oc) (k + 1) (flatE LE (k + 1)) from fun v hk => own_kept HOW.out hk (fun _ _ h => h))
      have HTB := Lib.hid (show ∀ (v x : World), v.grownBy x (Value.slice (some ⟨g, 0, none⟩) (k + 1) oc).ownBlock → Has v Bt 69 LT.toArray → Has x Bt 69 LT.toArray from fun v x hg hr => (hg.block Bt hr.lt (by simpa [Value.ownBlock] using HNE.out)).trans hr)
      have hKept0 : Kept (fun _ => False) wr wr.drew := (Kept.refl _ _).drew
      have HML := Lib.hid (show k + 1 + 1 ≤ maxLen by unfold maxLen; omega)
      have HBY := Lib.hid (show (k + 1 + 1) * 40 ≤ 140737488355328 by omega)
      have hat := at_rn g (k + 1) oc k (Nat.lt_succ_self k)
      have hlt' : (k : Int) < 256 := by omega
      have hS0 := HKS.out wr (Kept.refl _ _)
      have HK2 := Lib.hid (show k + 1 ≤ 256 ∧ 256 - (k + 1) < 256 - k by omega)
      have HWK := Lib.hid (wrap64_succ k (by omega))
      have HLT := Lib.hid hlt
      clear hlt hk hne
      go_upto_region 5 with (fail)
      refine wp_region_noPanic ?_
      refine wp_region_held_drew (S := (fun v => v.rangeAt Bt 0 LT ∧ v.rangeAt g (k * 33) (LE k))) (by kernel_rfl) hS0 (fun hH0 => ?_)
      refine wpAnyH_take (i := 0) (v := ((.slice (some ⟨g, 0, none⟩) (k + 1) oc))) rfl (by kernel_rfl) (by kernel_rfl) (by kernel_rfl) (fun _ _ _ h => h) (Or.inl ⟨by kernel_rfl, by intro w' hS; obtain ⟨z0, z1⟩ := hS; go_simp⟩) hH0 ?_
      simp only [Act.put, List.getElem_toArray, List.getElem_cons_zero, List.getElem_cons_succ, List.setIfInBounds_toArray, List.set_cons_zero, List.set_cons_succ]
      refine wpAnyH_take (i := 1) (v := (.agg LT.toArray)) rfl (by kernel_rfl) (by kernel_rfl) (by kernel_rfl) (fun _ _ _ h => h) (yieldsIf_load_mid (by kernel_rfl) 69 (.tmp 1) rfl Bt 0 rfl LT _ (fun w' h => h.1) Tryd.underlying69 rfl SZT.out) hH0 ?_
      simp only [Act.put, List.getElem_toArray, List.getElem_cons_zero, List.getElem_cons_succ, List.setIfInBounds_toArray, List.set_cons_zero, List.set_cons_succ]
      refine wpAnyH_take (i := 2) (v := ((.slice (some ⟨g, 0, none⟩) (k + 1) oc))) rfl (by kernel_rfl) (by kernel_rfl) (by kernel_rfl) (fun _ _ _ h => h) (Or.inl ⟨by kernel_rfl, by intro w' hS; obtain ⟨z0, z1⟩ := hS; go_simp⟩) hH0 ?_
      simp only [Act.put, List.getElem_toArray, List.getElem_cons_zero, List.getElem_cons_succ, List.setIfInBounds_toArray, List.set_cons_zero, List.set_cons_succ]
      refine wpAnyH_take (i := 3) (v := ((.int .i64 (k : Int)))) rfl (by kernel_rfl) (by kernel_rfl) (by kernel_rfl) (fun _ _ _ h => h) (Or.inl ⟨by kernel_rfl, by intro w' hS; obtain ⟨z0, z1⟩ := hS; go_simp⟩) hH0 ?_
      simp only [Act.put, List.getElem_toArray, List.getElem_cons_zero, List.getElem_cons_succ, List.setIfInBounds_toArray, List.set_cons_zero, List.set_cons_succ]
      refine wpAnyH_take (i := 4) (v := ((.pointer (some ⟨g, k * 33, none⟩)))) rfl (by kernel_rfl) (by kernel_rfl) (by kernel_rfl) (fun _ _ _ h => h) (Or.inl ⟨by kernel_rfl, by intro w' hS; obtain ⟨z0, z1⟩ := hS; go_simp⟩) hH0 ?_
      simp only [Act.put, List.getElem_toArray, List.getElem_cons_zero, List.getElem_cons_succ, List.setIfInBounds_toArray, List.set_cons_zero, List.set_cons_succ]
      refine wpAnyH_take (i := 5) (v := (.agg (LE k).toArray)) rfl (by kernel_rfl) (by kernel_rfl) (by kernel_rfl) (fun _ _ _ h => h) (yieldsIf_load_mid (by kernel_rfl) 62 (.tmp 16) rfl g (k * 33) rfl (LE k) _ (fun w' h => h.2) Tryd.underlying62 rfl (SZL.out k)) hH0 ?_
      simp only [Act.put, List.getElem_toArray, List.getElem_cons_zero, List.getElem_cons_succ, List.setIfInBounds_toArray, List.set_cons_zero, List.set_cons_succ]
      refine wpAnyH_take (i := 6) (v := ((.slice (some ⟨g, 0, none⟩) (k + 1) oc))) rfl (by kernel_rfl) (by kernel_rfl) (by kernel_rfl) (fun _ _ _ h => h) (Or.inl ⟨by kernel_rfl, by intro w' hS; obtain ⟨z0, z1⟩ := hS; go_simp⟩) hH0 ?_
      simp only [Act.put, List.getElem_toArray, List.getElem_cons_zero, List.getElem_cons_succ, List.setIfInBounds_toArray, List.set_cons_zero, List.set_cons_succ]
      refine wpAnyH_take (i := 7) (v := ((.int .i64 (k : Int)))) rfl (by kernel_rfl) (by kernel_rfl) (by kernel_rfl) (fun _ _ _ h => h) (Or.inl ⟨by kernel_rfl, by intro w' hS; obtain ⟨z0, z1⟩ := hS; go_simp⟩) hH0 ?_
      simp only [Act.put, List.getElem_toArray, List.getElem_cons_zero, List.getElem_cons_succ, List.setIfInBounds_toArray, List.set_cons_zero, List.set_cons_succ]
      refine wpAnyH_take (i := 8) (v := ((.pointer (some ⟨g, k * 33, none⟩)))) rfl (by kernel_rfl) (by kernel_rfl) (by kernel_rfl) (fun _ _ _ h => h) (Or.inl ⟨by kernel_rfl, by intro w' hS; obtain ⟨z0, z1⟩ := hS; go_simp⟩) hH0 ?_
      simp only [Act.put, List.getElem_toArray, List.getElem_cons_zero, List.getElem_cons_succ, List.setIfInBounds_toArray, List.set_cons_zero, List.set_cons_succ]
      refine wpAnyH_take (i := 9) (v := (.agg (LE k).toArray)) rfl (by kernel_rfl) (by kernel_rfl) (by kernel_rfl) (fun _ _ _ h => h) (yieldsIf_load_mid (by kernel_rfl) 62 (.tmp 20) rfl g (k * 33) rfl (LE k) _ (fun w' h => h.2) Tryd.underlying62 rfl (SZL.out k)) hH0 ?_
      simp only [Act.put, List.getElem_toArray, List.getElem_cons_zero, List.getElem_cons_succ, List.setIfInBounds_toArray, List.set_cons_zero, List.set_cons_succ]
      refine wpAnyH_ready (rs := [10]) (by kernel_rfl) (by simp) ?_
      refine AllReadyH.cons rfl (fun K hK => ?_) AllReadyH.nil
      go_simp
      refine (HBR.out _ k).mono ?_
      rintro _ x1 ⟨rfl, hc1⟩
      have hk1 : Kept (fun _ => False) wr x1 := hKept0.trans (Kept.of_below hc1)
      have hs1 := HKS.out _ hk1
      have hal : Kept (fun _ => False) x1 (x1.alloc (.cells (LE (k + 1)).toArray 62)) := (Kept.refl _ _).alloc _
      have hk2 := hk1.trans hal
      have hs2 := HKS.out _ hk2
      have HST2 := Lib.hid (HST.out.kept hk2 (fun h => h))
      have hown2 := HOWN.out _ hk2
      have HOWN2 := Lib.hid hown2
      have HN1 := Lib.hid (World.news_of_block (w := x1.alloc (.cells (LE (k + 1)).toArray 62)) (cs := (LE (k + 1)).toArray) (t := 62) (fr := (0, 0)) (heap_alloc_new x1 _))
      have HBS2 := Lib.hid (show w.heap.size ≤ (x1.alloc (.cells (LE (k + 1)).toArray 62)).heap.size from (HBE.out.trans (hk2.below HBE.out.size (fun _ h => h.elim))).size)
      have HBE2 := Lib.hid (HBE.out.trans (hk2.below HBE.out.size (fun _ h => h.elim)))
      clear hc1 hk1 hal hown2 hk2
      refine Shut.out hK _ _ hs1 (fun hH1 => ?_)
      clear hK K
      try simp only [Act.put, List.getElem_toArray, List.getElem_cons_zero, List.getElem_cons_succ, List.setIfInBounds_toArray, List.set_cons_zero, List.set_cons_succ]
      refine wpAnyH_ready (rs := [11]) (by kernel_rfl) (by simp) ?_
      refine AllReadyH.cons rfl (fun K hK => ?_) AllReadyH.nil
      refine step_build1 (by rfl) 72 62 (.tmp 22) (by rfl) irn _ Tryd.underlying72 hir hir0 (LE (k + 1)) (by rw [hir1, HLE.out]) (by rw [HLE.out]; kernel_rfl) (by rw [HLE.out]; decide) (by rw [HLE.out]; decide) (by rfl) ?_
      refine Shut.out hK _ _ hs2 (fun hH2 => ?_)
      clear hK K
      try simp only [Act.put, List.getElem_toArray, List.getElem_cons_zero, List.getElem_cons_succ, List.setIfInBounds_toArray, List.set_cons_zero, List.set_cons_succ]
      refine wpAnyH_ready (rs := [12]) (by kernel_rfl) (by simp) ?_
      refine AllReadyH.cons rfl (fun K hK => ?_) AllReadyH.nil
      refine step_append_stays (by rfl) _ _ 72 (by rfl) w.heap.size 62 irn _ 33 40 Tryd.underlying72 hir hir0 hir1 hir2 HZ33.out (by decide) (.slice (some ⟨g, 0, none⟩) (k + 1) oc) (k + 1) (flatE LE (k + 1)) (by rfl) HOWN2.out ⟨x1.heap.size, 0, none⟩ 1 1 (LE (k + 1)) (by rfl) (by rw [HLE.out]) HN1.out (HONE.out (k + 1)) (by decide) HML.out HBY.out HBS2.out _ rfl ?_
      intro g6 cap6 w6 hown6 hgr6 hat6 hlt6 hsy6
      have hbe6 : Below w.heap.size w w6 := HBE2.out.grown hgr6 HBS2.out (own_blk HOWN2.out)
      have hst6 := HTB.out _ _ hgr6 HST2.out
      have HNE6 := Lib.hid (show Bt ≠ g6 from by rcases hat6 with h | h; (have e : g = g6 := by simpa [Value.ownBlock] using h); (rw [← e]; exact HNE.out); (have := HST2.out.lt; omega))
      have HST6 := Lib.hid hst6
      have hs6 : w6.rangeAt Bt 0 LT ∧ w6.rangeAt g (k * 33) (LE k) := ⟨hst6.row0, fun j u hu => hsy6 g rfl _ u (flatE_get LE HLE.out (Nat.lt_succ_self k) hu)⟩
      have HBE6 := Lib.hid hbe6
      have HOWN6 := Lib.hid hown6
      clear hgr6 hat6 hlt6 hsy6 hst6 hbe6 hown6
      refine Shut.out hK _ _ hs6 (fun hH3 => ?_)
      clear hK K
      try simp only [Act.put, List.getElem_toArray, List.getElem_cons_zero, List.getElem_cons_succ, List.setIfInBounds_toArray, List.set_cons_zero, List.set_cons_succ]
      refine wpAnyH_take (i := 13) (v := ((.slice (some ⟨g6, 0, none⟩) (k + 1 + 1) cap6))) rfl (by kernel_rfl) (by kernel_rfl) (by kernel_rfl) (fun _ _ _ h => h) (Or.inl ⟨by kernel_rfl, by intro w' hS; obtain ⟨z0, z1⟩ := hS; go_simp⟩) hH3 ?_
      simp only [Act.put, List.getElem_toArray, List.getElem_cons_zero, List.getElem_cons_succ, List.setIfInBounds_toArray, List.set_cons_zero, List.set_cons_succ]
      refine wpAnyH_done (by kernel_rfl) ?_ _
      refine NoPanic.normal ?_
      clear hS0 hH0 hH1 hH2 hH3 hs1 hs2 hs6 hat hKept0
      go_wp2
      go_roundw
      case rel => exact ⟨k + 1, g6, cap6, by first | exact congrArg (Value.int .i64) HWK.out | rfl, rfl, HK2.out.1, by rw [flatE_succ]; exact HOWN6.out, HST6.out, HNE6.out, HBE6.out⟩
      case measure =>
        first | exact HK2.out.2 | (show 256 - (intOf (Value.int .i64 (wrap64 ((k : Int) + 1)))).toNat < _; rw [HWK.out]; exact HK2.out.2)
    · obtain rfl : k = 256 := by omega
      have hno : ¬ ((256 : Nat) : Int) < 256 := by omega
      have HFIN := Lib.hid (show EmpAt wr K s0 g from ⟨by
        have := World.block_lt_of_cell? wr _ (HCE.out 32 _ (by rw [ELE.out]; exact (nd_row _ _ (empty_hash K s0 HS0.out 256).1).2))
        exact this, fun h hh j u hu => by
        have := HOW.out.cells (g := g) rfl _ u (flatE_get LE HLE.out (show h < 256 + 1 by omega) (by rw [ELE.out]; exact hu))
        rwa [Addr.add_mid, Nat.zero_add] at this⟩)
      have HGE := Lib.hid (own_blk HOW.out g rfl)
      go_wp2
      go_ret
      exact ⟨g, oc, rfl, HFIN.out, HGE.out, HBE.out⟩
end Go.Proofs.YtngmpcmeebcdmaaDoor
