/- The walk of the reference's digest of parts. -/
import Derived.Test.YtknfbccbdiidjaaGreatDoorWu
import Derived.Test.YtknfbccbdiidjaaGreatDoorLRef2
import Derived.Test.YtknfbccbdiidjaaGreatDoorLBits
import Derived.Test.YtknfbccbdiidjaaGreatDoorLFc
import Derived.Test.YtknfbccbdiidjaaGreatDoorLPf3
import Derived.Test.YtknfbccbdiidjaaGreatDoorLMem
import Derived.Test.YtknfbccbdiidjaaGreatDoorLLb2
import Derived.Deep.WholeRow
import Derived.Test.YtknfbccbdiidjaaGreatDoorLTv6
namespace Go.Proofs.YtknfbccbdiidjaaGreatDoor
set_option linter.unusedVariables false
set_option linter.unusedSimpArgs false
open Go.ChangeShapes Go.WideShapes Go.ChangeAt Go.RowKit Go.Maps

theorem at_part (b o n c k : Nat) (hk : k < n) (w : World) : (Instr.indexAt 121 (.slice (some ⟨b, o, none⟩) n c) (.int .i64 (k : Int))).run Tryz.prog w = .ok (.pointer (some ⟨b, o + k, none⟩)) w := by
 have hu : Tryz.prog.underlying 121 = some (.slice (Tryz.prog.elem 121)) := by kernel_rfl
 have he : Tryz.prog.elem 121 = 48 := by kernel_rfl
 have hz : ∀ w, (sizeOf 48).run Tryz.prog w = .ok 1 w := fun w => by kernel_rfl
 rw [run_indexAt_slice w 121 ⟨b, o, none⟩ n c .i64 (k : Int) hu, if_pos ⟨by omega, by omega⟩, he, hz]
 simp only [Result.andThen, Int.toNat_natCast, Nat.mul_one, Addr.add_mid]
def tabsL (s0 K : List Wd) : List Value := wcells s0 ++ wcells K
theorem tab_words : tabL = tabsL SS KS := by kernel_rfl
set_option maxRecDepth 100000 in
set_option maxHeartbeats 4000000 in
theorem tsum_is (K s0 : List Wd) (hK : K.length = 64) (hs0 : s0.length = 8) (w : World) (v : Value) (ps : List (List Nat)) (hP : Parts w v ps) (hl : ps.flatten.length ≤ 1000000) (hn : ps.length ≤ 1000000) :
  Calls Tryz.prog 58 #[.agg (tabsL s0 K).toArray, v] w fun e w' => e = .returned (arr (digest K s0 ps.flatten)) ∧ Below w.heap.size w w' := by
 obtain ⟨a, c, rfl, hps⟩ := hP
 obtain ⟨Z, hzv, hbd, hZs, hZn, hZo⟩ := zero_h32
 obtain ⟨CT, hCT⟩ : ∃ C, C = (tabsL s0 K).toArray := ⟨_, rfl⟩
 rw [← hCT]
 obtain ⟨n, hnn⟩ : ∃ n, n = ps.length := ⟨_, rfl⟩
 rw [← hnn] at hn hps ⊢
 have s1 : ∀ (x : World) o, (x.alloc o).heap.size = x.heap.size + 1 := fun x o => by simp
 have b0 := (Has.new w 56 CT).alloc (.cells Z 26)
 have b1 := Has.new (w.alloc (.cells CT 56)) 26 Z
 rw [s1] at b1
 have Ab := ((Below.refl w.heap.size w).alloc (Nat.le_refl _) (.cells CT 56)).alloc (by rw [s1]; omega) (.cells Z 26)
 have hsz : ((w.alloc (.cells CT 56)).alloc (.cells Z 26)).heap.size = w.heap.size + 2 := by rw [s1, s1]
 have Ar := Hh b0
 have As := Hh b1
 have Aa := Hh Ab
 have Be := Hh hsz
 have A3 := Hh hps
 have EN := Hh hnn
 have A1 := Hh hCT
 have EZ := Hh (And.intro hZs hZo)
 have HL := Hh (And.intro hK hs0)
 have Ax := Hh (And.intro hl hn)
 clear b0 b1 Ab hsz hps hnn hCT hZs hZo s1 hK hs0 hl hn hbd
 go_enter Tryz.func58, Tryz.ntmps58
 go_upto_region 1 with (fail)
 generalize (w.alloc (.cells CT 56)).alloc (.cells Z 26) = W0 at Ar As Aa Be ⊢
 obtain ⟨B0, hB0⟩ : ∃ B, B = w.heap.size := ⟨_, rfl⟩
 obtain ⟨B1, hB1⟩ : ∃ B, B = w.heap.size + 1 := ⟨_, rfl⟩
 rw [← hB1] at As ⊢
 rw [← hB0] at Ar ⊢
 have EB := Hh (And.intro hB0 hB1)
 clear hB0 hB1
 have Ah : (W0.alloc (.cells #[] 5)).ownsRow W0.heap.size 5 1 (.slice (some ⟨W0.heap.size, 0, none⟩) 0 0) 0 (bcells ((ps.take 0).flatten)) := World.ownsRow_made W0 #[] 0 (Nat.le_refl _) (by decide) rfl
 have Af := Hh Ah
 have Ak := Hh (show Below W0.heap.size W0 (W0.alloc (.cells #[] 5)) from (Below.refl _ _).alloc (Nat.le_refl _) _)
 clear Ah
 go_wp2_with fail
 go_loopw [5, 11] (fun ov iv wr => ∃ (i t : Nat) (oa : Option Addr) (oc : Nat), iv = .int .i64 (i : Int) ∧ i ≤ n ∧ ov = .slice oa t oc ∧ t = (ps.take i).flatten.length ∧ wr.ownsRow W0.heap.size 5 1 (.slice oa t oc) t (bcells ((ps.take i).flatten)) ∧ Below W0.heap.size W0 wr) (fun _ iv _ => n - (intOf iv).toNat)
 case atStart => exact ⟨0, 0, _, _, rfl, Nat.zero_le _, rfl, by simp, Af.o, Ak.o⟩
 case round =>
  clear Af Ak
  obtain ⟨i, t, oa, oc, rfl, hi, rfl, ht, Ap, Ab⟩ := hrel
  have Aj := Hh Ap
  have Ad := Hh Ab
  have Au := Hh ht
  clear Ap Ab
  by_cases hlt : i < n
  · obtain ⟨pg, po, hA, Ae⟩ := A3.o (by omega)
    subst hA
    obtain ⟨pv, hpv, hpb⟩ := Ae i hlt
    have hk : Kept (fun _ => False) w wr := (Kept.of_below Aa.o).trans (Kept.of_below Ad.o)
    have hc0 := cell_held hk hpv (fun h => h)
    have hb0 := hpb.alive (Aa.o.trans (Ad.o.mono Aa.o.size)) (Nat.le_trans Aa.o.size Ad.o.size)
    have hat := at_part pg po n c i hlt
    have Ac := take_flatten ps i (by rw [← EN.o]; exact hlt)
    have hle := take_flatten_le ps (i + 1)
    rw [← Ac, List.length_append] at hle
    have Az := Hh hb0
    have Ag := Hh Ac
    have A9 := Hh (show t + (ps.getD i []).length ≤ 100000000 by have := Ax.o.1; omega)
    have A2 := Hh Ad.o.size
    have Aw := Hh (show i + 1 ≤ n ∧ n - (i + 1) < n - i by omega)
    have hib : i < 4611686018427387904 := by have := Ax.o.2; omega
    have hiw := wrap64_succ i hib
    have A4 := Hh hiw
    have hlt' : (i : Int) < (n : Int) := by omega
    clear Ae hpv hpb hk hb0 Ac hle hib hlt hi ht hiw
    go_wp2_with (at_builtin; refine wpList_append_bytes rfl (.tmp 15) (.tmp 16) rfl W0.heap.size _ t _ rfl Aj.o _ _ (ps.getD i []) rfl Az.o A9.o A2.o ?_; intro oa6 oc6 w6 Ai Ao)
    have Av := Hh (Ad.o.grown Ao A2.o (own_blk Aj.o))
    have Al := Hh Ai
    clear Ai Ao
    go_roundw
    case rel =>
     have e : bcells ((ps.take i).flatten) ++ bcells (ps.getD i []) = bcells ((ps.take (i + 1)).flatten) := by rw [← Ag.o]; simp [bcells]
     have h6 := Al.o
     rw [e] at h6
     exact ⟨i + 1, _, oa6, oc6, by first | exact congrArg (Value.int .i64) A4.o | rfl, Aw.o.1, rfl, by rw [← Ag.o, List.length_append, ← Au.o, List.getD_eq_getElem?_getD], h6, Av.o⟩
    case measure =>
     first | exact Aw.o.2 | (show n - (intOf (Value.int .i64 (wrap64 ((i : Int) + 1)))).toNat < _; rw [A4.o]; exact Aw.o.2)
  · have ei : (ps.take i).flatten = ps.flatten := by rw [List.take_of_length_le (by rw [← EN.o]; omega)]
    have hno : ¬ (i : Int) < (n : Int) := by omega
    have An : Bytes wr wr.heap.size (.slice oa t oc) ps.flatten := by
     have h := Aj.o
     rw [ei] at h
     refine own_bytes h (by rw [Au.o, ei]) ?_ (Nat.le_refl _)
     intro x hx
     obtain ⟨l, hl, hxl⟩ := List.mem_flatten.1 hx
     obtain ⟨k, hk⟩ := List.getElem?_of_mem hl
     have hkl := (List.getElem?_eq_some_iff.1 hk).1
     obtain ⟨pg, po, hA, Ae⟩ := A3.o (by rw [EN.o]; omega)
     obtain ⟨pv, hpv, hpb⟩ := Ae k (by rw [EN.o]; exact hkl)
     rw [List.getD_eq_getElem?_getD, hk] at hpb
     exact bytes_lt hpb x hxl
    have hha := hash_is K s0 HL.o.1 HL.o.2 wr oa t oc ps.flatten (by rw [Au.o, ei]) An (by rw [Au.o, ei]; exact Ax.o.1)
    obtain ⟨LD, hLD⟩ : ∃ L, L = (bcells (digest K s0 ps.flatten)).toArray := ⟨_, rfl⟩
    unfold arr at hha
    rw [← hLD] at hha
    have ld : LD.size = 32 := by rw [hLD, List.size_toArray, bcells_length, digest_length K s0 HL.o.2]
    have hct := Ar.o.below Ad.o Ar.o.lt
    have hls : (wcells s0).length = 8 := by rw [wcells_length, HL.o.2]
    have hr0 : wr.rangeAt B0 0 (wcells s0) := fun j u hu => by
     rw [Nat.zero_add]
     refine hct.cell_is ?_
     rw [A1.o, List.getElem?_toArray, tabsL, List.getElem?_append_left (List.getElem?_eq_some_iff.1 hu).1]
     exact hu
    have hr8 : wr.rangeAt B0 8 (wcells K) := fun j u hu => by
     refine hct.cell_is ?_
     rw [A1.o, List.getElem?_toArray, tabsL, List.getElem?_append_right (by omega), hls, Nat.add_sub_cancel_left]
     exact hu
    have hb1 := As.o.below Ad.o As.o.lt
    obtain ⟨LS, hLS⟩ : ∃ L, L = wcells s0 := ⟨_, rfl⟩
    obtain ⟨LK, hLK⟩ : ∃ L, L = wcells K := ⟨_, rfl⟩
    rw [← hLS] at hha hr0 hls
    rw [← hLK] at hha hr8
    have Bg := Hh (show (Tryz.prog.info? 53).map (·.size) = some LS.length by rw [hls]; kernel_rfl)
    have Bf := Hh (show (Tryz.prog.info? 54).map (·.size) = some LK.length by rw [hLK, wcells_length, HL.o.1]; kernel_rfl)
    have A5 := Hh (show (Tryz.prog.info? 26).map (·.size) = some LD.size by rw [ld]; kernel_rfl)
    have A0 := Hh (show LD.all (·.oneCell') = true by rw [hLD]; exact all_oneCell_toArray (bcells_oneC _))
    have Ba := Hh (show Z.size = LD.size by rw [ld, EZ.o.1])
    have A8 := Hh hha
    have Bb := Hh hr0
    have Bd := Hh hr8
    have Am := Hh hb1
    have A6 := Hh hLD
    clear ei An hha hLD ld hct hls hr0 hr8 hb1 hLS hLK hlt hi ht
    go_wp2_with (first
     | (refine wpList_load_mid rfl 53 (.tmp 20) rfl B0 0 rfl LS _ Bb.o Tryz.underlying53 rfl Bg.o ?_)
     | (refine wpList_load_mid rfl 54 (.tmp 22) rfl B0 8 rfl LK _ Bd.o Tryz.underlying54 rfl Bf.o ?_))
    refine A8.o.mono ?_
    rintro _ w3 ⟨rfl, hb3⟩
    have hb1 := Am.o.below hb3 Am.o.lt
    have hbw : Below w.heap.size w w3 := (Aa.o.trans (Ad.o.mono Aa.o.size)).trans (hb3.mono (Nat.le_trans Aa.o.size Ad.o.size))
    have Aq : Has (w3.setRow B1 LD) B1 26 LD := hb1.setRow
    have hbf : Below w.heap.size w (w3.setRow B1 LD) := hbw.trans ((kept_setRow (g := B1) w3 LD).below hbw.size (fun k e => by have e' : k = B1 := e; have := EB.o; omega))
    have Bc := Hh hb1
    have Ay := Hh Aq
    have A7 := Hh hbf
    clear hb3 hb1 hbw Aq hbf
    go_wp2_with (refine wpList_store_row rfl 26 (.tmp 4) (.tmp 24) rfl B1 LD rfl rfl 26 Z Bc.o A5.o Ba.o A0.o ?_)
    refine bodyPost_ret (results_cell_row rfl _ _ B1 26 LD (0, 0) _ rfl Ay.o Tryz.underlying26 rfl A5.o) rfl ?_
    exact ⟨by rw [A6.o]; rfl, A7.o⟩

/- The walks of the reference's Of and Branch: what stands for a leaf, for two parts. -/

theorem tabs_length (K s0 : List Wd) (hK : K.length = 64) (hs0 : s0.length = 8) : (tabsL s0 K).length = 72 := by rw [tabsL, List.length_append, wcells_length, wcells_length, hK, hs0]



/- The walk of msum.Empty. -/


/- The walk of the reference's Empties: what stands where nothing does, at all heights. -/
/- The walk of the reference's Tag. -/

theorem box_bytes {w : World} {B : Nat} {t : TypeId} {s : List Nat} (hs : IsHash s) (h : Has w B t (bcells s).toArray) : Bytes w w.heap.size (.slice (some ⟨B, 0, none⟩) 32 32) s :=
 ⟨_, _, by rw [hs.1], by rw [hs.1]; exact Nat.le_refl _, hs.2, fun _ => ⟨B, 0, rfl, Nat.ne_of_lt h.lt, fun i hi => h.cell_is (by rw [List.getElem?_toArray, Nat.zero_add]; exact bcells_get _ i hi)⟩⟩
set_option maxRecDepth 100000 in
set_option maxHeartbeats 4000000 in
theorem ttag_is (K s0 : List Wd) (hK : K.length = 64) (hs0 : s0.length = 8) (w : World) (s : ByteArray) (hss : s.size ≤ 1000) (v : Value) (ps : List (List Nat)) (hP : Parts w v ps) (hl : ps.flatten.length ≤ 100000) (hn : ps.length ≤ 100000) :
  Calls Tryz.prog 21 #[.agg (tabsL s0 K).toArray, .string s, v] w fun e w' => e = .returned (arr (tagD K s0 s ps.flatten)) ∧ Below w.heap.size w w' := by
 obtain ⟨a, c, rfl, hps⟩ := hP
 obtain ⟨Z, hzv, hbd, hZs, hZn, hZo⟩ := zero_h32
 obtain ⟨CT, hCT⟩ : ∃ C, C = (tabsL s0 K).toArray := ⟨_, rfl⟩
 obtain ⟨n, hnn⟩ : ∃ n, n = ps.length := ⟨_, rfl⟩
 have Al := Hh (fun v vp pp h1 h2 h3 => tsum_is K s0 hK hs0 v vp pp h1 h2 h3)
 rw [← hCT] at Al ⊢
 rw [← hnn] at hn hps ⊢
 have Br := Hh (show (Tryz.prog.info? 56).map (·.size) = some CT.size by rw [hCT, List.size_toArray, tabs_length K s0 hK hs0]; kernel_rfl)
 have s1 : ∀ (x : World) o, (x.alloc o).heap.size = x.heap.size + 1 := fun x o => by simp
 have b0 := (Has.new w 56 CT).alloc (.cells Z 26)
 have b1 := Has.new (w.alloc (.cells CT 56)) 26 Z
 rw [s1] at b1
 have Ab := ((Below.refl w.heap.size w).alloc (Nat.le_refl _) (.cells CT 56)).alloc (by rw [s1]; omega) (.cells Z 26)
 obtain ⟨D1, hD1⟩ : ∃ D, D = digest K s0 (sbytes s) := ⟨_, rfl⟩
 have hd1 : IsHash D1 := by rw [hD1]; exact digest_hash K s0 hs0 _
 have Ao := Hh b0
 have Az := Hh b1
 have Aj := Hh Ab
 have Bj := Hh hps
 have EN := Hh hnn
 have Bc := Hh hD1
 have Ac := Hh hd1
 have EZ := Hh (And.intro hZs hZo)
 have A5 := Hh (And.intro hl hn)
 have B4 := Hh hss
 clear b0 b1 Ab hps hnn hCT hZs hZo s1 hl hn hbd hD1 hd1 hss
 go_enter Tryz.func21, Tryz.ntmps21
 go_upto_region 1 with (fail)
 obtain ⟨W0, hW0⟩ : ∃ W, W = (w.alloc (.cells CT 56)).alloc (.cells Z 26) := ⟨_, rfl⟩
 rw [← hW0] at Ao Az Aj ⊢
 clear hW0
 obtain ⟨B0, hB0⟩ : ∃ B, B = w.heap.size := ⟨_, rfl⟩
 obtain ⟨B1, hB1⟩ : ∃ B, B = w.heap.size + 1 := ⟨_, rfl⟩
 rw [← hB1] at Az ⊢
 rw [← hB0] at Ao ⊢
 have EB := Hh (And.intro hB0 hB1)
 clear hB0 hB1
 obtain ⟨cap, C, hcv, hby⟩ := str_bytes W0 s
 obtain ⟨X0, hX0⟩ : ∃ W, W = W0.drew.alloc (.cells C 5 (C.size, C.size + 1)) := ⟨_, rfl⟩
 have hby' : Bytes X0 X0.heap.size (.slice (some ⟨W0.heap.size, 0, none⟩) s.size cap) (sbytes s) := by rw [hX0]; exact hby
 have hx0 : Below W0.heap.size W0 X0 := by rw [hX0]; exact (below_drew (Below.refl W0.heap.size W0)).alloc (Nat.le_refl _) _
 have hxs : X0.heap.size = W0.heap.size + 1 := by rw [hX0]; simp
 rw [← hX0] at hcv
 have Bi := Hh (parts_oneT X0 (.slice (some ⟨W0.heap.size, 0, none⟩) s.size cap) (sbytes s) hby')
 have Bl := Hh (Al.o _ _ [sbytes s] Bi.o (by have := B4.o; simp [sbytes]; omega) (by simp))
 have Ba := Hh hx0
 clear hX0 hby hby' hx0 hxs
 go_wp2_with (refine wpList_load_row rfl 56 (.tmp 3) rfl B0 rfl 56 CT (0, 0) _ Ao.o Tryz.underlying56 rfl Br.o ?_)
 refine Bl.o.mono ?_
 rintro _ w3 ⟨rfl, hb3⟩
 have hfl : [sbytes s].flatten = sbytes s := by simp
 rw [hfl, ← Bc.o]
 unfold arr
 have hq3 : Below W0.heap.size W0 w3 := Ba.o.trans (((Below.refl X0.heap.size X0).alloc (Nat.le_refl _) _).trans (hb3.mono (by simp)) |>.mono Ba.o.size)
 obtain ⟨LD, hLD⟩ : ∃ L, L = bcells D1 := ⟨_, rfl⟩
 rw [← hLD]
 have ld : LD.length = 32 := by rw [hLD, bcells_length, Ac.o.1]
 obtain ⟨h4, hb4⟩ := new_row w3 26 Z LD.toArray
 have B6 := Hh (show (Tryz.prog.info? 26).map (·.size) = some LD.toArray.size by rw [List.size_toArray, ld]; kernel_rfl)
 have B5 := Hh (show Z.size = LD.toArray.size by rw [EZ.o.1, List.size_toArray, ld])
 have B2 := Hh (show LD.toArray.all (·.oneCell') = true by rw [hLD]; exact all_oneCell_toArray (bcells_oneC _))
 have H4 := Hh h4
 have Bd := Hh hb4
 have Bk := Hh hq3
 have Bs := Hh hLD
 clear hcv hb3 hq3 hLD ld h4 hb4 Bl Bi Ba
 go_upto_region 2 with (refine wpList_store_row rfl 26 (.tmp 7) (.tmp 15) rfl w3.heap.size LD.toArray rfl rfl 26 Z (heap_alloc_new w3 _) B6.o B5.o B2.o ?_)
 obtain ⟨W4, hW4⟩ : ∃ W, W = (w3.alloc (.cells Z 26)).setRow w3.heap.size LD.toArray := ⟨_, rfl⟩
 rw [← hW4] at H4 Bd ⊢
 obtain ⟨G, hG⟩ : ∃ g, g = w3.heap.size := ⟨_, rfl⟩
 have An := Hh (Bk.o.trans (Bd.o.mono Bk.o.size))
 rw [← hG] at H4 ⊢
 rw [Bs.o] at H4
 have A1 := Hh (show Below W4.heap.size W4 (W4.alloc (.cells #[] 5)) from (Below.refl _ _).alloc (Nat.le_refl _) _)
 have A6 := Hh (own_empty (w := W4) (Nat.le_refl W4.heap.size) 5 1)
 have Bo := Hh (box_bytes Ac.o (H4.o.below A1.o H4.o.lt))
 have Bw := Hh (show 0 + D1.length ≤ 100000000 by rw [Ac.o.1]; decide)
 have Bx := Hh (show 32 + D1.length ≤ 100000000 by rw [Ac.o.1]; decide)
 have A3 := Hh (show 0 + D1.length = 32 by rw [Ac.o.1])
 have A4 := Hh (show 32 + D1.length = 64 by rw [Ac.o.1])
 clear hW4 hG
 go_wp2_with (first
  | (at_builtin; refine wpList_append_bytes rfl (.tmp 16) _ rfl W4.heap.size _ 0 [] rfl A6.o _ _ D1 rfl Bo.o Bw.o A1.o.size ?_; intro oa5 oc5 w5 Ae Aw; rw [A3.o] at Ae ⊢; (have Ap := Hh (A1.o.grown Aw A1.o.size (own_blk A6.o))); (have A7 := Hh Ae); (have Bp := Hh (box_bytes Ac.o (H4.o.below Ap.o H4.o.lt))); clear Ae Aw)
  | (at_builtin; refine wpList_append_bytes rfl (.tmp 19) _ rfl W4.heap.size _ 32 _ rfl A7.o _ _ D1 rfl Bp.o Bx.o Ap.o.size ?_; intro oa6 oc6 w6 Aa Ad; rw [A4.o] at Aa ⊢; (have Be := Hh (Ap.o.grown Ad Ap.o.size (own_blk A7.o))); (have Bh := Hh Aa); clear Aa Ad))
 have hst : w6.ownsRow W4.heap.size 5 1 (.slice oa6 64 oc6) 64 (bcells (D1 ++ D1 ++ (ps.take 0).flatten)) := by
  have h6 := Bh.o
  rw [List.nil_append, ← bcells_cat] at h6
  simpa using h6
 have Bm := Hh hst
 have Aq := Hh (show 64 = (D1 ++ D1 ++ (ps.take 0).flatten).length by simp [Ac.o.1])
 clear hst A6 Bo A7 Bp Ap Bh
 go_loopw [8, 24] (fun ov iv wr => ∃ (i t : Nat) (oa : Option Addr) (oc : Nat), iv = .int .i64 (i : Int) ∧ i ≤ n ∧ ov = .slice oa t oc ∧ t = (D1 ++ D1 ++ (ps.take i).flatten).length ∧ wr.ownsRow W4.heap.size 5 1 (.slice oa t oc) t (bcells (D1 ++ D1 ++ (ps.take i).flatten)) ∧ Below W4.heap.size W4 wr) (fun _ iv _ => n - (intOf iv).toNat)
 case atStart => exact ⟨0, 64, oa6, oc6, rfl, Nat.zero_le _, rfl, Aq.o, Bm.o, Be.o⟩
 case round =>
  clear Bm Be Aq
  obtain ⟨i, t, oa, oc, rfl, hi, rfl, ht, Ax, Ab⟩ := hrel
  have Ak := Hh Ax
  have A0 := Hh Ab
  have Bn := Hh ht
  have HW := Hh (Aj.o.trans ((An.o.trans (Ab.mono An.o.size)).mono Aj.o.size))
  have hn5 : n ≤ 100000 := A5.o.2
  clear Ax Ab
  by_cases hlt : i < n
  · obtain ⟨pg, po, hA, Ah⟩ := Bj.o (by omega)
    subst hA
    obtain ⟨pv, hpv, hpb⟩ := Ah i hlt
    have hc0 := cell_held (Kept.of_below (S := fun _ => False) HW.o) hpv (fun h => h)
    have hb0 := hpb.alive HW.o HW.o.size
    have hat := at_part pg po n c i hlt
    have Af := take_flatten ps i (by rw [← EN.o]; exact hlt)
    have hle := take_flatten_le ps (i + 1)
    rw [← Af, List.length_append] at hle
    have A9 := Hh hb0
    have Ai := Hh Af
    have By := Hh (show t + (ps.getD i []).length ≤ 100000000 by have h1 := A5.o.1; have h2 := Ac.o.1; rw [ht, List.length_append, List.length_append, h2]; omega)
    have Bf := Hh A0.o.size
    have Bg := Hh (show i + 1 ≤ n ∧ n - (i + 1) < n - i by omega)
    have hlt' : (i : Int) < (n : Int) := by omega
    clear Ah hpv hpb hb0 Af hle hlt hi ht
    go_wp2_with (at_builtin; refine wpList_append_bytes rfl (.tmp 28) (.tmp 29) rfl W4.heap.size _ t _ rfl Ak.o _ _ (ps.getD i []) rfl A9.o By.o Bf.o ?_; intro oa6 oc6 w6 Aa Ad)
    have A2 := Hh (A0.o.grown Ad Bf.o (own_blk Ak.o))
    have Ar := Hh Aa
    clear Aa Ad
    go_roundw
    case rel =>
     have e : bcells (D1 ++ D1 ++ (ps.take i).flatten) ++ bcells (ps.getD i []) = bcells (D1 ++ D1 ++ (ps.take (i + 1)).flatten) := by rw [← Ai.o]; simp [bcells]
     have h6 := Ar.o
     rw [e] at h6
     exact ⟨i + 1, _, oa6, oc6, by go_num, Bg.o.1, rfl, by rw [← Ai.o, Bn.o]; simp [Nat.add_assoc], h6, A2.o⟩
    case measure => have := Bg.o.2; simp [intOf]; omega
  · have ei : (ps.take i).flatten = ps.flatten := by rw [List.take_of_length_le (by rw [← EN.o]; omega)]
    have hno : ¬ (i : Int) < (n : Int) := by omega
    have Av : Bytes wr wr.heap.size (.slice oa t oc) (D1 ++ D1 ++ ps.flatten) := by
     have h := Ak.o
     rw [ei] at h
     refine own_bytes h (by rw [Bn.o, ei]) ?_ (Nat.le_refl _)
     intro x hx
     rcases List.mem_append.1 hx with hx | hx
     · rcases List.mem_append.1 hx with hx | hx <;> exact Ac.o.2 x hx
     obtain ⟨l, hl, hxl⟩ := List.mem_flatten.1 hx
     obtain ⟨k, hk⟩ := List.getElem?_of_mem hl
     have hkl := (List.getElem?_eq_some_iff.1 hk).1
     obtain ⟨pg, po, hA, Ah⟩ := Bj.o (by rw [EN.o]; omega)
     obtain ⟨pv, hpv, hpb⟩ := Ah k (by rw [EN.o]; exact hkl)
     rw [List.getD_eq_getElem?_getD, hk] at hpb
     exact bytes_lt hpb x hxl
    have hfl : [D1 ++ D1 ++ ps.flatten].flatten = D1 ++ D1 ++ ps.flatten := by simp
    have Ag := Al.o _ _ [D1 ++ D1 ++ ps.flatten] (parts_oneT wr (.slice oa t oc) _ Av) (by rw [hfl, List.length_append, List.length_append, Ac.o.1]; have := A5.o.1; omega) (by simp)
    obtain ⟨D, hD⟩ : ∃ D, D = tagD K s0 s ps.flatten := ⟨_, rfl⟩
    rw [hfl, show digest K s0 (D1 ++ D1 ++ ps.flatten) = D by rw [hD, Bc.o]; rfl] at Ag
    obtain ⟨LR, hLR⟩ : ∃ L, L = (bcells D).toArray := ⟨_, rfl⟩
    unfold arr at Ag
    rw [← hLR] at Ag
    have hdl : D.length = 32 := by rw [hD]; exact (digest_hash K s0 hs0 _).1
    have lr : LR.size = 32 := by rw [hLR, List.size_toArray, bcells_length, hdl]
    have hct := Ao.o.below (An.o.trans (A0.o.mono An.o.size)) Ao.o.lt
    have hb1 := Az.o.below (An.o.trans (A0.o.mono An.o.size)) Az.o.lt
    have Bq := Hh (show (Tryz.prog.info? 26).map (·.size) = some LR.size by rw [lr]; kernel_rfl)
    have Bb := Hh (show LR.all (·.oneCell') = true by rw [hLR]; exact all_oneCell_toArray (bcells_oneC _))
    have Bz := Hh (show Z.size = LR.size by rw [lr, EZ.o.1])
    have Au := Hh Ag
    have Bv := Hh hct
    have As := Hh hb1
    have Bt := Hh hLR
    have ED := Hh hD
    clear ei Av Ag hfl hD hLR hdl lr hct hb1 hlt hi ht
    go_wp2_with (refine wpList_load_row rfl 56 (.tmp 3) rfl B0 rfl 56 CT (0, 0) _ Bv.o Tryz.underlying56 rfl Br.o ?_)
    refine Au.o.mono ?_
    rintro _ w9 ⟨rfl, hb9⟩
    have hal : Below wr.heap.size wr (wr.alloc (.cells #[.slice oa t oc] 48)) := (Below.refl _ _).alloc (Nat.le_refl _) _
    have Am : Below wr.heap.size wr w9 := hal.trans (hb9.mono hal.size)
    have hr9 := As.o.below Am As.o.lt
    have hw9 := HW.o.trans (Am.mono HW.o.size)
    have Ay : Has (w9.setRow B1 LR) B1 26 LR := hr9.setRow
    have hbf : Below w.heap.size w (w9.setRow B1 LR) := hw9.trans ((kept_setRow (g := B1) w9 LR).below hw9.size (fun k e => by have e' : k = B1 := e; have := EB.o; omega))
    have B3 := Hh hr9
    have A8 := Hh Ay
    have Bu := Hh hbf
    clear hb9 hal Am hr9 hw9 Ay hbf
    go_wp2_with (refine wpList_store_row rfl 26 (.tmp 6) (.tmp 35) rfl B1 LR rfl rfl 26 Z B3.o Bq.o Bz.o Bb.o ?_)
    refine bodyPost_ret (results_cell_row rfl _ _ B1 26 LR (0, 0) _ rfl A8.o Tryz.underlying26 rfl Bq.o) rfl ?_
    exact ⟨by rw [Bt.o, ED.o]; rfl, Bu.o⟩
end Go.Proofs.YtknfbccbdiidjaaGreatDoor
