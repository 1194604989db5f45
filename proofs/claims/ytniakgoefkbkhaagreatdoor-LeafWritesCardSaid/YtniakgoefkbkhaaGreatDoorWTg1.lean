/- The walk of the reference's Tag. -/
import Derived.Test.YtniakgoefkbkhaaGreatDoorWs
import Derived.Test.YtniakgoefkbkhaaGreatDoorWRef4
import Derived.Test.YtniakgoefkbkhaaGreatDoorWTag2
import Derived.Test.YtniakgoefkbkhaaGreatDoorWTv0
namespace Go.Proofs.YtniakgoefkbkhaaGreatDoor
set_option linter.unusedVariables false
set_option linter.unusedSimpArgs false
open Go.ChangeShapes Go.WideShapes Go.ChangeAt Go.RowKit Go.Maps

theorem box_bytes {w : World} {B : Nat} {t : TypeId} {s : List Nat} (hs : IsHash s) (h : Has w B t (bcells s).toArray) : Bytes w w.heap.size (.slice (some ⟨B, 0, none⟩) 32 32) s :=
 ⟨_, _, by rw [hs.1], by rw [hs.1]; exact Nat.le_refl _, hs.2, fun _ => ⟨B, 0, rfl, Nat.ne_of_lt h.lt, fun i hi => h.cell_is (by rw [List.getElem?_toArray, Nat.zero_add]; exact bcells_get _ i hi)⟩⟩
set_option maxRecDepth 100000 in
set_option maxHeartbeats 4000000 in
theorem ttag_is (K s0 : List Wd) (hK : K.length = 64) (hs0 : s0.length = 8) (w : World) (s : ByteArray) (hss : s.size ≤ 1000) (v : Value) (ps : List (List Nat)) (hP : Parts w v ps) (hl : ps.flatten.length ≤ 100000) (hn : ps.length ≤ 100000) :
  Calls Tryz.prog 44 #[.agg (tabsL s0 K).toArray, .string s, v] w fun e w' => e = .returned (arr (tagD K s0 s ps.flatten)) ∧ Below w.heap.size w w' := by
 obtain ⟨a, c, rfl, hps⟩ := hP
 obtain ⟨Z, hzv, hbd, hZs, hZn, hZo⟩ := zero_h32
 obtain ⟨CT, hCT⟩ : ∃ C, C = (tabsL s0 K).toArray := ⟨_, rfl⟩
 obtain ⟨n, hnn⟩ : ∃ n, n = ps.length := ⟨_, rfl⟩
 have HSUM := Lib.hid (fun v vp pp h1 h2 h3 => tsum_is K s0 hK hs0 v vp pp h1 h2 h3)
 rw [← hCT] at HSUM ⊢
 rw [← hnn] at hn hps ⊢
 have SZT := Lib.hid (show (Tryz.prog.info? 72).map (·.size) = some CT.size by rw [hCT, List.size_toArray, tabs_length K s0 hK hs0]; kernel_rfl)
 have s1 : ∀ (x : World) o, (x.alloc o).heap.size = x.heap.size + 1 := fun x o => by simp
 have b0 := (Has.new w 72 CT).alloc (.cells Z 24)
 have b1 := Has.new (w.alloc (.cells CT 72)) 24 Z
 rw [s1] at b1
 have hbel := ((Below.refl w.heap.size w).alloc (Nat.le_refl _) (.cells CT 72)).alloc (by rw [s1]; omega) (.cells Z 24)
 obtain ⟨D1, hD1⟩ : ∃ D, D = digest K s0 (sbytes s) := ⟨_, rfl⟩
 have hd1 : IsHash D1 := by rw [hD1]; exact digest_hash K s0 hs0 _
 have HB0 := Lib.hid b0
 have HB1 := Lib.hid b1
 have HBEL := Lib.hid hbel
 have HPS := Lib.hid hps
 have EN := Lib.hid hnn
 have ED1 := Lib.hid hD1
 have HD1 := Lib.hid hd1
 have EZ := Lib.hid (And.intro hZs hZo)
 have HLL := Lib.hid (And.intro hl hn)
 have HSS := Lib.hid hss
 clear b0 b1 hbel hps hnn hCT hZs hZo s1 hl hn hbd hD1 hd1 hss
 go_enter Tryz.func44, Tryz.ntmps44
 go_upto_region 1 with (fail)
 obtain ⟨W0, hW0⟩ : ∃ W, W = (w.alloc (.cells CT 72)).alloc (.cells Z 24) := ⟨_, rfl⟩
 rw [← hW0] at HB0 HB1 HBEL ⊢
 clear hW0
 obtain ⟨B0, hB0⟩ : ∃ B, B = w.heap.size := ⟨_, rfl⟩
 obtain ⟨B1, hB1⟩ : ∃ B, B = w.heap.size + 1 := ⟨_, rfl⟩
 rw [← hB1] at HB1 ⊢
 rw [← hB0] at HB0 ⊢
 have EB := Lib.hid (And.intro hB0 hB1)
 clear hB0 hB1
 obtain ⟨cap, C, hcv, hby⟩ := str_bytes W0 s
 obtain ⟨X0, hX0⟩ : ∃ W, W = W0.drew.alloc (.cells C 5 (C.size, C.size + 1)) := ⟨_, rfl⟩
 have hby' : Bytes X0 X0.heap.size (.slice (some ⟨W0.heap.size, 0, none⟩) s.size cap) (sbytes s) := by rw [hX0]; exact hby
 have hx0 : Below W0.heap.size W0 X0 := by rw [hX0]; exact (below_drew (Below.refl W0.heap.size W0)).alloc (Nat.le_refl _) _
 have hxs : X0.heap.size = W0.heap.size + 1 := by rw [hX0]; simp
 rw [← hX0] at hcv
 have HPO := Lib.hid (parts_oneT X0 (.slice (some ⟨W0.heap.size, 0, none⟩) s.size cap) (sbytes s) hby')
 have HS1 := Lib.hid (HSUM.out _ _ [sbytes s] HPO.out (by have := HSS.out; simp [sbytes]; omega) (by simp))
 have HX0 := Lib.hid hx0
 have HXS := Lib.hid hxs
 clear hX0 hby hby' hx0 hxs
 go_wp2_with (refine wpList_load_row rfl 72 (.tmp 3) rfl B0 rfl 72 CT (0, 0) _ HB0.out Tryz.underlying72 rfl SZT.out ?_)
 refine HS1.out.mono ?_
 rintro _ w3 ⟨rfl, hb3⟩
 have hfl : [sbytes s].flatten = sbytes s := by simp
 rw [hfl, ← ED1.out]
 unfold arr
 have hq3 : Below W0.heap.size W0 w3 := HX0.out.trans (((Below.refl X0.heap.size X0).alloc (Nat.le_refl _) _).trans (hb3.mono (by simp)) |>.mono HX0.out.size)
 obtain ⟨LD, hLD⟩ : ∃ L, L = bcells D1 := ⟨_, rfl⟩
 rw [← hLD]
 have ld : LD.length = 32 := by rw [hLD, bcells_length, HD1.out.1]
 obtain ⟨h4, hb4⟩ := new_row w3 24 Z LD.toArray
 have SZD := Lib.hid (show (Tryz.prog.info? 24).map (·.size) = some LD.toArray.size by rw [List.size_toArray, ld]; kernel_rfl)
 have HZD := Lib.hid (show Z.size = LD.toArray.size by rw [EZ.out.1, List.size_toArray, ld])
 have HON := Lib.hid (show LD.toArray.all (·.oneCell') = true by rw [hLD]; exact all_oneCell_toArray (bcells_oneC _))
 have H4 := Lib.hid h4
 have HB4 := Lib.hid hb4
 have HQ3 := Lib.hid hq3
 have ELD := Lib.hid hLD
 clear hcv hb3 hq3 hLD ld h4 hb4 HS1 HPO HX0 HXS
 go_upto_region 2 with (refine wpList_store_row rfl 24 (.tmp 7) (.tmp 15) rfl w3.heap.size LD.toArray rfl rfl 24 Z (heap_alloc_new w3 _) SZD.out HZD.out HON.out ?_)
 obtain ⟨W4, hW4⟩ : ∃ W, W = (w3.alloc (.cells Z 24)).setRow w3.heap.size LD.toArray := ⟨_, rfl⟩
 rw [← hW4] at H4 HB4 ⊢
 obtain ⟨G, hG⟩ : ∃ g, g = w3.heap.size := ⟨_, rfl⟩
 have HQ4 := Lib.hid (HQ3.out.trans (HB4.out.mono HQ3.out.size))
 rw [← hG] at H4 ⊢
 rw [ELD.out] at H4
 have HE4 := Lib.hid (show Below W4.heap.size W4 (W4.alloc (.cells #[] 5)) from (Below.refl _ _).alloc (Nat.le_refl _) _)
 have HO4 := Lib.hid (own_empty (w := W4) (Nat.le_refl W4.heap.size) 5 1)
 have HY4 := Lib.hid (box_bytes HD1.out (H4.out.below HE4.out H4.out.lt))
 have HL4 := Lib.hid (show 0 + D1.length ≤ 100000000 by rw [HD1.out.1]; decide)
 have HL5 := Lib.hid (show 32 + D1.length ≤ 100000000 by rw [HD1.out.1]; decide)
 have HE32 := Lib.hid (show 0 + D1.length = 32 by rw [HD1.out.1])
 have HE64 := Lib.hid (show 32 + D1.length = 64 by rw [HD1.out.1])
 clear hW4 hG
 go_wp2_with (first
  | (at_builtin; refine wpList_append_bytes rfl (.tmp 16) _ rfl W4.heap.size _ 0 [] rfl HO4.out _ _ D1 rfl HY4.out HL4.out HE4.out.size ?_; intro oa5 oc5 w5 hown5 hgr5; rw [HE32.out] at hown5 ⊢; (have HB5 := Lib.hid (HE4.out.grown hgr5 HE4.out.size (own_blk HO4.out))); (have HO5 := Lib.hid hown5); (have HY5 := Lib.hid (box_bytes HD1.out (H4.out.below HB5.out H4.out.lt))); clear hown5 hgr5)
  | (at_builtin; refine wpList_append_bytes rfl (.tmp 19) _ rfl W4.heap.size _ 32 _ rfl HO5.out _ _ D1 rfl HY5.out HL5.out HB5.out.size ?_; intro oa6 oc6 w6 hown6 hgr6; rw [HE64.out] at hown6 ⊢; (have HB6 := Lib.hid (HB5.out.grown hgr6 HB5.out.size (own_blk HO5.out))); (have HO6 := Lib.hid hown6); clear hown6 hgr6))
 have hst : w6.ownsRow W4.heap.size 5 1 (.slice oa6 64 oc6) 64 (bcells (D1 ++ D1 ++ (ps.take 0).flatten)) := by
  have h6 := HO6.out
  rw [List.nil_append, ← bcells_cat] at h6
  simpa using h6
 have HST := Lib.hid hst
 have HLN0 := Lib.hid (show 64 = (D1 ++ D1 ++ (ps.take 0).flatten).length by simp [HD1.out.1])
 clear hst HO4 HY4 HO5 HY5 HB5 HO6
 go_loopw [8, 24] (fun ov iv wr => ∃ (i t : Nat) (oa : Option Addr) (oc : Nat), iv = .int .i64 (i : Int) ∧ i ≤ n ∧ ov = .slice oa t oc ∧ t = (D1 ++ D1 ++ (ps.take i).flatten).length ∧ wr.ownsRow W4.heap.size 5 1 (.slice oa t oc) t (bcells (D1 ++ D1 ++ (ps.take i).flatten)) ∧ Below W4.heap.size W4 wr) (fun _ iv _ => n - (intOf iv).toNat)
 case atStart => exact ⟨0, 64, oa6, oc6, rfl, Nat.zero_le _, rfl, HLN0.out, HST.out, HB6.out⟩
 case round =>
  clear HST HB6 HLN0
  obtain ⟨i, t, oa, oc, rfl, hi, rfl, ht, hown, hbel⟩ := hrel
  have HOWN := Lib.hid hown
  have HBE := Lib.hid hbel
  have HTT := Lib.hid ht
  have HW := Lib.hid (HBEL.out.trans ((HQ4.out.trans (hbel.mono HQ4.out.size)).mono HBEL.out.size))
  have hn5 : n ≤ 100000 := HLL.out.2
  clear hown hbel
  by_cases hlt : i < n
  · obtain ⟨pg, po, hA, hall⟩ := HPS.out (by omega)
    subst hA
    obtain ⟨pv, hpv, hpb⟩ := hall i hlt
    have hc0 := cell_held (Kept.of_below (S := fun _ => False) HW.out) hpv (fun h => h)
    have hb0 := hpb.alive HW.out HW.out.size
    have hat := at_part pg po n c i hlt
    have hstep := take_flatten ps i (by rw [← EN.out]; exact hlt)
    have hle := take_flatten_le ps (i + 1)
    rw [← hstep, List.length_append] at hle
    have HSRC := Lib.hid hb0
    have HSTEP := Lib.hid hstep
    have HLN := Lib.hid (show t + (ps.getD i []).length ≤ 100000000 by have h1 := HLL.out.1; have h2 := HD1.out.1; rw [ht, List.length_append, List.length_append, h2]; omega)
    have HBS := Lib.hid HBE.out.size
    have HK2 := Lib.hid (show i + 1 ≤ n ∧ n - (i + 1) < n - i by omega)
    have hlt' : (i : Int) < (n : Int) := by omega
    clear hall hpv hpb hb0 hstep hle hlt hi ht
    go_wp2_with (at_builtin; refine wpList_append_bytes rfl (.tmp 28) (.tmp 29) rfl W4.heap.size _ t _ rfl HOWN.out _ _ (ps.getD i []) rfl HSRC.out HLN.out HBS.out ?_; intro oa6 oc6 w6 hown6 hgr6)
    have HBE6 := Lib.hid (HBE.out.grown hgr6 HBS.out (own_blk HOWN.out))
    have HOWN6 := Lib.hid hown6
    clear hown6 hgr6
    go_roundw
    case rel =>
     have e : bcells (D1 ++ D1 ++ (ps.take i).flatten) ++ bcells (ps.getD i []) = bcells (D1 ++ D1 ++ (ps.take (i + 1)).flatten) := by rw [← HSTEP.out]; simp [bcells]
     have h6 := HOWN6.out
     rw [e] at h6
     exact ⟨i + 1, _, oa6, oc6, by go_num, HK2.out.1, rfl, by rw [← HSTEP.out, HTT.out]; simp [Nat.add_assoc], h6, HBE6.out⟩
    case measure => have := HK2.out.2; simp [intOf]; omega
  · have ei : (ps.take i).flatten = ps.flatten := by rw [List.take_of_length_le (by rw [← EN.out]; omega)]
    have hno : ¬ (i : Int) < (n : Int) := by omega
    have hbts : Bytes wr wr.heap.size (.slice oa t oc) (D1 ++ D1 ++ ps.flatten) := by
     have h := HOWN.out
     rw [ei] at h
     refine own_bytes h (by rw [HTT.out, ei]) ?_ (Nat.le_refl _)
     intro x hx
     rcases List.mem_append.1 hx with hx | hx
     · rcases List.mem_append.1 hx with hx | hx <;> exact HD1.out.2 x hx
     obtain ⟨l, hl, hxl⟩ := List.mem_flatten.1 hx
     obtain ⟨k, hk⟩ := List.getElem?_of_mem hl
     have hkl := (List.getElem?_eq_some_iff.1 hk).1
     obtain ⟨pg, po, hA, hall⟩ := HPS.out (by rw [EN.out]; omega)
     obtain ⟨pv, hpv, hpb⟩ := hall k (by rw [EN.out]; exact hkl)
     rw [List.getD_eq_getElem?_getD, hk] at hpb
     exact bytes_lt hpb x hxl
    have hfl : [D1 ++ D1 ++ ps.flatten].flatten = D1 ++ D1 ++ ps.flatten := by simp
    have hsum := HSUM.out _ _ [D1 ++ D1 ++ ps.flatten] (parts_oneT wr (.slice oa t oc) _ hbts) (by rw [hfl, List.length_append, List.length_append, HD1.out.1]; have := HLL.out.1; omega) (by simp)
    obtain ⟨D, hD⟩ : ∃ D, D = tagD K s0 s ps.flatten := ⟨_, rfl⟩
    rw [hfl, show digest K s0 (D1 ++ D1 ++ ps.flatten) = D by rw [hD, ED1.out]; rfl] at hsum
    obtain ⟨LR, hLR⟩ : ∃ L, L = (bcells D).toArray := ⟨_, rfl⟩
    unfold arr at hsum
    rw [← hLR] at hsum
    have hdl : D.length = 32 := by rw [hD]; exact (digest_hash K s0 hs0 _).1
    have lr : LR.size = 32 := by rw [hLR, List.size_toArray, bcells_length, hdl]
    have hct := HB0.out.below (HQ4.out.trans (HBE.out.mono HQ4.out.size)) HB0.out.lt
    have hb1 := HB1.out.below (HQ4.out.trans (HBE.out.mono HQ4.out.size)) HB1.out.lt
    have SZL := Lib.hid (show (Tryz.prog.info? 24).map (·.size) = some LR.size by rw [lr]; kernel_rfl)
    have ONEL := Lib.hid (show LR.all (·.oneCell') = true by rw [hLR]; exact all_oneCell_toArray (bcells_oneC _))
    have HLZ := Lib.hid (show Z.size = LR.size by rw [lr, EZ.out.1])
    have HSUM2 := Lib.hid hsum
    have HCT := Lib.hid hct
    have HRB1 := Lib.hid hb1
    have ELR := Lib.hid hLR
    have ED := Lib.hid hD
    clear ei hbts hsum hfl hD hLR hdl lr hct hb1 hlt hi ht
    go_wp2_with (refine wpList_load_row rfl 72 (.tmp 3) rfl B0 rfl 72 CT (0, 0) _ HCT.out Tryz.underlying72 rfl SZT.out ?_)
    refine HSUM2.out.mono ?_
    rintro _ w9 ⟨rfl, hb9⟩
    have hal : Below wr.heap.size wr (wr.alloc (.cells #[.slice oa t oc] 54)) := (Below.refl _ _).alloc (Nat.le_refl _) _
    have hbw9 : Below wr.heap.size wr w9 := hal.trans (hb9.mono hal.size)
    have hr9 := HRB1.out.below hbw9 HRB1.out.lt
    have hw9 := HW.out.trans (hbw9.mono HW.out.size)
    have hres : Has (w9.setRow B1 LR) B1 24 LR := hr9.setRow
    have hbf : Below w.heap.size w (w9.setRow B1 LR) := hw9.trans ((kept_setRow (g := B1) w9 LR).below hw9.size (fun k e => by have e' : k = B1 := e; have := EB.out; omega))
    have HR9 := Lib.hid hr9
    have HRES := Lib.hid hres
    have HBF := Lib.hid hbf
    clear hb9 hal hbw9 hr9 hw9 hres hbf
    go_wp2_with (refine wpList_store_row rfl 24 (.tmp 6) (.tmp 35) rfl B1 LR rfl rfl 24 Z HR9.out SZL.out HLZ.out ONEL.out ?_)
    refine bodyPost_ret (results_cell_row rfl _ _ B1 24 LR (0, 0) _ rfl HRES.out Tryz.underlying24 rfl SZL.out) rfl ?_
    exact ⟨by rw [ELR.out, ED.out]; rfl, HBF.out⟩
end Go.Proofs.YtniakgoefkbkhaaGreatDoor

