/- The walk of commit's Decode. -/
import Derived.Test.YtknfbccbdiidjaaGreatDoorWs
import Derived.Test.YtknfbccbdiidjaaGreatDoorRCo13
import Derived.Test.YtknfbccbdiidjaaGreatDoorRDec1
import Derived.Test.YtknfbccbdiidjaaGreatDoorRCo10
import Derived.Test.YtknfbccbdiidjaaGreatDoorRCo0
namespace Go.Proofs.YtknfbccbdiidjaaGreatDoor
set_option linter.unusedVariables false
set_option linter.unusedSimpArgs false
open Go.ChangeShapes Go.WideShapes Go.ChangeAt Go.RowKit Go.Maps

theorem rd_posC {b : List Nat} {p : Nat × Nat} (h : rdB b = .ok p) : 0 < p.2 := by
 unfold rdB at h
 split at h
 · cases h
 · split at h
   · cases h; exact Nat.one_pos
   · split at h
     · cases h
     · split at h
       · cases h
       · cases h; exact Nat.succ_pos _
theorem decS_lessC {acc : List Rec} {b : List Nat} {p : List Rec × List Nat} (h0 : ¬ b = []) (h : decS acc b = .ok p) : p.2.length < b.length := by
 have hl : 0 < b.length := List.length_pos_iff.2 h0
 unfold decS at h
 cases h1 : rdB b with
 | error e1 => rw [h1] at h; cases h
 | ok p1 =>
  have hp := rd_posC h1
  rw [h1] at h
  dsimp only at h
  split at h
  · cases h
  · cases h2 : rdB (b.drop p1.2) with
    | error e2 => rw [h2] at h; cases h
    | ok q =>
     rw [h2] at h
     dsimp only at h
     split at h
     · cases h
     · split at h
       · cases h
       · split at h
         · cases h
         · cases h
           show (((b.drop p1.2).drop q.2).drop q.1).length < b.length
           rw [List.length_drop, List.length_drop, List.length_drop]
           omega
theorem decF_nzC : ∀ (f : Nat) (acc : List Rec) (b : List Nat), decF f acc b = .error 0 → b.length < f → False
 | 0, _, _, _, h => absurd h (Nat.not_lt_zero _)
 | f + 1, acc, b, h, hl => by
  by_cases h0 : b = []
  · rw [decF_stop h0] at h; cases h
  · cases hs : decS acc b with
    | error e =>
     rw [decF_err h0 hs] at h
     cases h
     unfold decS at hs
     cases h1 : rdB b with
     | error e1 => rw [h1] at hs; cases hs; exact rd_nz h1 rfl
     | ok p =>
      rw [h1] at hs
      dsimp only at hs
      split at hs
      · cases hs
      · cases h2 : rdB (b.drop p.2) with
        | error e2 => rw [h2] at hs; cases hs; exact rd_nz h2 rfl
        | ok q =>
         rw [h2] at hs
         dsimp only at hs
         split at hs
         · cases hs
         · split at hs
           · cases hs
           · split at hs <;> cases hs
    | ok p =>
     rw [decF_step h0 hs] at h
     exact decF_nzC f p.1 p.2 h (by have := decS_lessC h0 hs; omega)
theorem tdec_nzC {b : List Nat} (h : tdec b = .error 0) : False := decF_nzC _ _ _ h (Nat.lt_succ_self _)
theorem rec_rowC {w : World} {b o n : Nat} {xs : List RecM} (h : RecsAt w (some ⟨b, o, none⟩) n xs) (k : Nat) (x : RecM) (hx : xs[k]? = some x) : w.rangeAt b (o + k * 2) x.cells := by
 have hk : k < n := by rw [← h.row.len]; exact (List.getElem?_eq_some_iff.1 hx).1
 obtain ⟨b', o', e, _, hr⟩ := h.row.at_ (by omega)
 injection e with e
 injection e with e1 e2
 subst e1 e2
 exact hr k x hx
theorem decS_small {acc : List Rec} {b : List Nat} {p : List Rec × List Nat} (ha : ∀ r ∈ acc, r.v.length ≤ 65536) (h : decS acc b = .ok p) : ∀ r ∈ p.1, r.v.length ≤ 65536 := by
 unfold decS at h
 split at h
 · cases h
 · split at h
   · cases h
   · split at h
     · cases h
     · split at h
       · cases h
       · split at h
         · cases h
         · split at h
           · cases h
           · cases h
             intro r hr
             rcases List.mem_append.1 hr with h1 | h1
             · exact ha r h1
             · rw [List.mem_singleton] at h1
               subst h1
               dsimp only
               rw [List.length_take]
               omega
theorem decF_small : ∀ (f : Nat) (acc : List Rec) (b : List Nat) (rs : List Rec), (∀ r ∈ acc, r.v.length ≤ 65536) → decF f acc b = .ok rs → ∀ r ∈ rs, r.v.length ≤ 65536
 | 0, _, _, _, _, h => by unfold decF at h; cases h
 | f + 1, acc, b, rs, ha, h => by
  unfold decF at h
  split at h
  · cases h; exact ha
  · split at h
    · cases h
    · next p hp => exact decF_small f p.1 p.2 rs (decS_small ha hp) h
theorem tdec_small {b : List Nat} {rs : List Rec} (h : tdec b = .ok rs) : ∀ r ∈ rs, r.v.length ≤ 65536 := decF_small _ _ _ _ (fun r hr => by cases hr) h
def rec_ (rs : List Rec) (i : Nat) : Rec := rs.getD i ⟨0, []⟩
def wdR (rs : List Rec) : Except Nat (List Nat × List Nat) :=
 if rs.length ≠ 2 ∨ (rec_ rs 0).t ≠ 0 ∨ (rec_ rs 1).t ≠ 2 then .error 21
 else if decE (rec_ rs 0).v ≠ 0 then .error (decE (rec_ rs 0).v)
 else if decE (rec_ rs 1).v ≠ 0 then .error (decE (rec_ rs 1).v)
 else .ok ((rec_ rs 0).v, (rec_ rs 1).v)
def wdec (b : List Nat) : Except Nat (List Nat × List Nat) := match tdec b with | .error x => .error x | .ok rs => wdR rs
def WdP (w : World) (R : Except Nat (List Nat × List Nat)) (e : Ending) (w' : World) : Prop :=
 Below w.heap.size w w' ∧ match R with
  | .error x => e = .returned (.tuple #[.agg (waysC zPf zPf).toArray, .int .i64 (x : Int)])
  | .ok uv => ∃ p q : Pf, e = .returned (.tuple #[.agg (waysC p q).toArray, .int .i64 0]) ∧ p.At w' ∧ q.At w' ∧ p.b = decB uv.1 ∧ p.xs = decX uv.1 ∧ q.b = decB uv.2 ∧ q.xs = decX uv.2 ∧ (∀ A, p.a = some A → w.heap.size ≤ A.block) ∧ (∀ A, q.a = some A → w.heap.size ≤ A.block)
theorem decB_hash (b : List Nat) (hb : ∀ y ∈ b, y < 256) : IsHash (decB b) := by
 unfold decB
 cases h : decP b with
 | error e => exact ⟨rfl, fun k hk => by rw [List.eq_of_mem_replicate hk]; decide⟩
 | ok xs =>
  have h32 : ¬ b.length < 32 := fun h1 => by rw [decP_less h1] at h; cases h
  exact ⟨by rw [List.length_take]; omega, fun k hk => hb k (List.mem_of_mem_take hk)⟩
theorem decX_len (b : List Nat) (hl : b.length ≤ 65536) : (decX b).length ≤ 100000 := by
 unfold decX
 cases h : decP b with
 | error e => exact Nat.zero_le _
 | ok xs =>
  dsimp only
  unfold decP at h
  split at h
  · cases h
  · split at h
    · cases h
    · split at h
      · cases h
      · cases h
        rw [decNds_len]
        omega
set_option maxRecDepth 100000 in
set_option maxHeartbeats 8000000 in
theorem coDec_is (w : World) (a : Option Addr) (L cv : Nat) (b : List Nat) (hb : Bytes w w.heap.size (.slice a L cv) b) (hL : L ≤ 9223372036854775807) :
  Calls Tryz.prog 35 #[.slice a L cv] w (WdP w (wdec b)) := by
 obtain ⟨Z, hz, hzb, hzs, hzn⟩ := zero_ways
 obtain ⟨Zp, hzp, hbp, hZps, hZpn, -⟩ := zero_proofC
 obtain ⟨LZ, hLZ⟩ : ∃ A, A = (waysC zPf zPf).toArray := ⟨_, rfl⟩
 rw [← hLZ] at hzb
 obtain ⟨D, hD⟩ : ∃ D, D = wdec b := ⟨_, rfl⟩
 rw [← hD]
 have HD := Lib.hid hD
 have hal : Below w.heap.size w (w.alloc (.cells Z 41)) := (Below.refl _ _).alloc (Nat.le_refl _) _
 have HAL := Lib.hid (show Has (w.alloc (.cells Z 41)) (w.heap.size) 41 Z ∧ Below (w.heap.size) w (w.alloc (.cells Z 41)) ∧ (w.heap.size) < (w.alloc (.cells Z 41)).heap.size from ⟨Has.new _ _ _, hal, by simp⟩)
 have HDEC := Lib.hid (tvDec_is _ a L cv b (hb.alive hal hal.size) hL)
 have SZW := Lib.hid (show ∀ p q : Pf, IsHash p.b → IsHash q.b → (Tryz.prog.info? 41).map (·.size) = some (waysC p q).toArray.size ∧ Z.size = (waysC p q).toArray.size from fun p q hp hq => by rw [List.size_toArray, waysC_len hp hq, hzs]; exact ⟨by kernel_rfl, rfl⟩)
 have SZZ := Lib.hid (show (Tryz.prog.info? 41).map (·.size) = some LZ.size ∧ Z.size = LZ.size by rw [hLZ]; exact SZW.out zPf zPf (zPf_at w).hash (zPf_at w).hash)
 have HOZ := Lib.hid (show LZ.all (·.oneCell') = true by rw [hLZ]; exact waysC_one _ _)
 have EZ := Lib.hid hLZ
 obtain ⟨TD, hTD⟩ : ∃ T, T = tdec b := ⟨_, rfl⟩
 have ETD := Lib.hid hTD
 rw [← hTD] at HDEC
 have HSET := Lib.hid (show ∀ v : World, Has v (w.heap.size) 41 Z → Below (w.heap.size) w v → ∀ C : Array Value, Has (v.setRow (w.heap.size) C) (w.heap.size) 41 C ∧ Below w.heap.size w (v.setRow (w.heap.size) C) from fun v h1 h2 C =>
  ⟨h1.setRow, h2.trans ((kept_setRow (g := (w.heap.size)) v C).below h2.size (fun k e => by have e' : k = (w.heap.size) := e; omega))⟩)
 have SZP := Lib.hid (show ∀ (bb : List Nat), IsHash bb → ∀ (a : Option Addr) (n c : Nat), (Tryz.prog.info? 39).map (·.size) = some (pcells bb a n c).toArray.size ∧ Zp.size = (pcells bb a n c).toArray.size ∧ (Tryz.prog.info? 39).map (·.size) = some (pcells bb a n c).length from fun bb hb a n c => by rw [List.size_toArray, pcells_len hb, hZps]; exact ⟨by kernel_rfl, rfl, by kernel_rfl⟩)
 clear hD hal hb hzs hTD hLZ hZps
 go_enter Tryz.func35, Tryz.ntmps35
 go_wp2_with fail
 refine HDEC.out.mono ?_
 rintro e w2 hm
 cases TD with
 | error x =>
  obtain ⟨rfl, hb2⟩ := (show e = .returned (.tuple #[.slice none 0 0, .int .i64 (x : Int)]) ∧ Below _ _ w2 from hm)
  have hnx : x ≠ 0 := fun e0 => by subst e0; exact tdec_nzC ETD.out.symm
  have hx2 : ((x : Int) != 0) = true := by rw [bne_iff_ne]; omega
  have h2 := HAL.out.1.below hb2 HAL.out.1.lt
  have hq2 := HAL.out.2.1.trans (hb2.mono (Nat.le_of_lt HAL.out.2.2))
  have HFIN := Lib.hid (HSET.out w2 h2 hq2 LZ)
  have H2 := Lib.hid h2
  have HE := Lib.hid (show D = .error x by rw [HD.out]; unfold wdec; rw [← ETD.out])
  clear hm hb2 hnx h2 hq2 HDEC HSET
  go_wp2_with (first | (refine wpList_build_run rfl 41 #[] rfl #[] (by kernel_rfl) (.agg LZ) (hzb _) ?_) | refine wpList_store_row rfl 41 (.tmp 2) (.tmp 15) rfl (w.heap.size) LZ rfl rfl 41 Z H2.out SZZ.out.1 SZZ.out.2 HOZ.out ?_)
  refine bodyPost_ret (results_cell_tmp rfl _ _ (w.heap.size) 41 LZ (0, 0) _ rfl rfl HFIN.out.1 Tryz.underlying41 SZZ.out.1) rfl ?_
  rw [HE.out]
  refine ⟨HFIN.out.2, ?_⟩
  rw [EZ.out]
  exact rfl
 | ok rs =>
  obtain ⟨ms, a2, c2, rfl, hms, hrecs, hbase, hfew, hb2⟩ := (show ∃ ms a c, e = .returned (.tuple #[.slice a ms.length c, .int .i64 0]) ∧ ms.map RecM.r = rs ∧ RecsAt w2 a ms.length ms ∧ (∀ A, a = some A → _ ≤ A.block) ∧ ms.length ≤ 256 ∧ Below _ _ w2 from hm)
  have h2 := HAL.out.1.below hb2 HAL.out.1.lt
  have hq2 := HAL.out.2.1.trans (hb2.mono (Nat.le_of_lt HAL.out.2.2))
  have HST := Lib.hid (show ∀ v : World, Below w2.heap.size w2 v → Has v w.heap.size 41 Z ∧ ∀ C : Array Value, Has (v.setRow w.heap.size C) w.heap.size 41 C ∧ Below w.heap.size w (v.setRow w.heap.size C) from fun v hv =>
    ⟨h2.below hv h2.lt, HSET.out v (h2.below hv h2.lt) (hq2.trans (hv.mono (Nat.le_of_lt h2.lt)))⟩)
  obtain ⟨ml, hml⟩ : ∃ z, z = ms.length := ⟨_, rfl⟩
  rw [← hml] at hrecs hfew
  have HRS := Lib.hid hms.symm
  have HRECS := Lib.hid hrecs
  have EML := Lib.hid hml
  have HLD := Lib.hid (show D = wdR rs by rw [HD.out]; unfold wdec; rw [← ETD.out])
  have HRL := Lib.hid (show rs.length = ml by rw [← hms, List.length_map, hml])
  have HSM := Lib.hid (tdec_small ETD.out.symm)
  have HBW := Lib.hid h2.lt
  rw [← hml]
  clear hm hms hrecs hbase hb2 h2 hq2 hml HDEC HSET HAL HD
  have hz0 : ((0 : Int) != 0) = false := rfl
  by_cases h5 : ml = 2
  rotate_left
  · have h5' : ((ml : Int) != 2) = true := by rw [bne_iff_ne]; omega
    have HE := Lib.hid (show D = .error 21 by rw [HLD.out]; unfold wdR; rw [if_pos (.inl (by rw [HRL.out]; exact h5))])
    have HFIN := Lib.hid ((HST.out w2 (Below.refl _ _)).2 LZ)
    have H2 := Lib.hid (HST.out w2 (Below.refl _ _)).1
    clear h5
    go_wp2_with (first | (refine wpList_build_run rfl 41 #[] rfl #[] (by kernel_rfl) (.agg LZ) (hzb _) ?_) | refine wpList_store_row rfl 41 (.tmp 2) (.tmp 34) rfl w.heap.size LZ rfl rfl 41 Z H2.out SZZ.out.1 SZZ.out.2 HOZ.out ?_)
    refine bodyPost_ret (results_cell_tmp rfl _ _ w.heap.size 41 LZ (0, 0) _ rfl rfl HFIN.out.1 Tryz.underlying41 SZZ.out.1) rfl ?_
    rw [HE.out]
    refine ⟨HFIN.out.2, ?_⟩
    rw [EZ.out]
    exact rfl
  subst h5
  obtain ⟨lb, lo, rfl, hlb, _⟩ := HRECS.out.row.at_ (by decide)
  obtain ⟨x0, hx0⟩ : ∃ x, ms[0]? = some x := ⟨_, List.getElem?_eq_getElem (by rw [← EML.out]; decide)⟩
  obtain ⟨x1, hx1⟩ : ∃ x, ms[1]? = some x := ⟨_, List.getElem?_eq_getElem (by rw [← EML.out]; decide)⟩
  have e0 : rec_ rs 0 = x0.r := by unfold rec_; rw [HRS.out, List.getD_eq_getElem?_getD, List.getElem?_map, hx0]; rfl
  have e1 : rec_ rs 1 = x1.r := by unfold rec_; rw [HRS.out, List.getD_eq_getElem?_getD, List.getElem?_map, hx1]; rfl
  have m0 : x0.r ∈ rs := by rw [HRS.out]; exact List.mem_map_of_mem (List.mem_of_getElem? hx0)
  have m1 : x1.r ∈ rs := by rw [HRS.out]; exact List.mem_map_of_mem (List.mem_of_getElem? hx1)
  have S0 := Lib.hid (show x0.v.length ≤ 65536 from HSM.out _ m0)
  have S1 := Lib.hid (show x1.v.length ≤ 65536 from HSM.out _ m1)
  have B0 := (HRECS.out.ok x0 (List.mem_of_getElem? hx0)).b
  have B1 := (HRECS.out.ok x1 (List.mem_of_getElem? hx1)).b
  obtain ⟨o0, ho0⟩ : ∃ o, o = lo + 0 * 2 := ⟨_, rfl⟩
  obtain ⟨o1, ho1⟩ : ∃ o, o = lo + 1 * 2 := ⟨_, rfl⟩
  have r0 := rec_rowC HRECS.out 0 x0 hx0
  have r1 := rec_rowC HRECS.out 1 x1 hx1
  rw [← ho0] at r0
  rw [← ho1] at r1
  have hat0 : ∀ v, (Instr.indexAt 136 (.slice (some ⟨lb, lo, none⟩) 2 c2) (.int .i64 0)).run Tryz.prog v = .ok (.pointer (some ⟨lb, o0, none⟩)) v := fun v => by rw [ho0]; exact at_rec lb lo 2 c2 0 (by decide) v
  have hat1 : ∀ v, (Instr.indexAt 136 (.slice (some ⟨lb, lo, none⟩) 2 c2) (.int .i64 1)).run Tryz.prog v = .ok (.pointer (some ⟨lb, o1, none⟩)) v := fun v => by rw [ho1]; exact at_rec lb lo 2 c2 1 (by decide) v
  obtain ⟨V0, hV0⟩ : ∃ L, L = x0.v := ⟨_, rfl⟩
  obtain ⟨V1, hV1⟩ : ∃ L, L = x1.v := ⟨_, rfl⟩
  obtain ⟨n0, hn0⟩ : ∃ L, L = V0.length := ⟨_, rfl⟩
  obtain ⟨n1, hn1⟩ : ∃ L, L = V1.length := ⟨_, rfl⟩
  obtain ⟨t0, ht0⟩ : ∃ L, L = x0.t := ⟨_, rfl⟩
  obtain ⟨t1, ht1⟩ : ∃ L, L = x1.t := ⟨_, rfl⟩
  have c00 : w2.cell? ⟨lb, o0, none⟩ = some (.int .u64 (t0 : Int)) := by rw [ht0]; exact r0 0 _ rfl
  have c01 : w2.cell? ⟨lb, o0 + 1, none⟩ = some (.slice x0.a n0 x0.c) := by rw [hn0, hV0]; exact r0 1 _ rfl
  have c10 : w2.cell? ⟨lb, o1, none⟩ = some (.int .u64 (t1 : Int)) := by rw [ht1]; exact r1 0 _ rfl
  have HC11 := Lib.hid (show ∀ v, Below w2.heap.size w2 v → v.cell? ⟨lb, o1 + 1, none⟩ = some (.slice x1.a n1 x1.c) from fun v hv => cell_kept (Kept.of_below (S := fun _ => False) hv) (by rw [hn1, hV1]; exact r1 1 _ rfl) (fun h => h))
  have B0' := Lib.hid (show Bytes w2 w2.heap.size (.slice x0.a n0 x0.c) V0 by rw [hn0, hV0]; exact B0)
  have B1' := Lib.hid (show Bytes w2 w2.heap.size (.slice x1.a n1 x1.c) V1 by rw [hn1, hV1]; exact B1)
  have SM0 := Lib.hid (show V0.length ≤ 65536 by rw [hV0]; exact S0.out)
  have SM1 := Lib.hid (show V1.length ≤ 65536 by rw [hV1]; exact S1.out)
  have HLE := Lib.hid (show D = if t0 ≠ 0 ∨ t1 ≠ 2 then .error 21 else if decE V0 ≠ 0 then .error (decE V0) else if decE V1 ≠ 0 then .error (decE V1) else .ok (V0, V1) by
    rw [HLD.out, ht0, ht1, hV0, hV1]
    unfold wdR
    rw [e0, e1, HRL.out]
    simp only [ne_eq, not_true_eq_false, false_or]
    rfl)
  have h5' : ((2 : Int) != 2) = false := rfl
  obtain ⟨a0, ha0⟩ : ∃ y, y = x0.a := ⟨_, rfl⟩
  obtain ⟨k0, hk0⟩ : ∃ y, y = x0.c := ⟨_, rfl⟩
  obtain ⟨a1, ha1⟩ : ∃ y, y = x1.a := ⟨_, rfl⟩
  obtain ⟨k1, hk1⟩ : ∃ y, y = x1.c := ⟨_, rfl⟩
  rw [← ha0, ← hk0] at c01 B0'
  rw [← ha1, ← hk1] at HC11 B1'
  have L0 := Lib.hid (show n0 = V0.length from hn0)
  clear e0 e1 m0 m1 S0 S1 B0 B1 ho0 ho1 r0 r1 hV0 hV1 hn0 hn1 ht0 ht1 hx0 hx1 ha0 hk0 ha1 hk1 hlb HRECS HRS HLD HRL HSM EML ETD
  by_cases q0 : t0 = 0
  rotate_left
  · have q0' : ((t0 : Int) != 0) = true := by rw [bne_iff_ne]; omega
    have HE := Lib.hid (show D = .error 21 by rw [HLE.out, if_pos (.inl q0)])
    have HFIN := Lib.hid ((HST.out w2 (Below.refl _ _)).2 LZ)
    have H2 := Lib.hid (HST.out w2 (Below.refl _ _)).1
    clear q0
    go_wp2_with (first | (refine wpList_build_run rfl 41 #[] rfl #[] (by kernel_rfl) (.agg LZ) (hzb _) ?_) | refine wpList_store_row rfl 41 (.tmp 2) (.tmp 34) rfl w.heap.size LZ rfl rfl 41 Z H2.out SZZ.out.1 SZZ.out.2 HOZ.out ?_)
    refine bodyPost_ret (results_cell_tmp rfl _ _ w.heap.size 41 LZ (0, 0) _ rfl rfl HFIN.out.1 Tryz.underlying41 SZZ.out.1) rfl ?_
    rw [HE.out]
    refine ⟨HFIN.out.2, ?_⟩
    rw [EZ.out]
    exact rfl
  have q0' : ((t0 : Int) != 0) = false := by rw [bne_eq_false_iff_eq]; omega
  by_cases q1 : t1 = 2
  rotate_left
  · have q1' : ((t1 : Int) != 2) = true := by rw [bne_iff_ne]; omega
    have HE := Lib.hid (show D = .error 21 by rw [HLE.out, if_pos (.inr q1)])
    have HFIN := Lib.hid ((HST.out w2 (Below.refl _ _)).2 LZ)
    have H2 := Lib.hid (HST.out w2 (Below.refl _ _)).1
    clear q0 q1
    go_wp2_with (first | (refine wpList_build_run rfl 41 #[] rfl #[] (by kernel_rfl) (.agg LZ) (hzb _) ?_) | refine wpList_store_row rfl 41 (.tmp 2) (.tmp 34) rfl w.heap.size LZ rfl rfl 41 Z H2.out SZZ.out.1 SZZ.out.2 HOZ.out ?_)
    refine bodyPost_ret (results_cell_tmp rfl _ _ w.heap.size 41 LZ (0, 0) _ rfl rfl HFIN.out.1 Tryz.underlying41 SZZ.out.1) rfl ?_
    rw [HE.out]
    refine ⟨HFIN.out.2, ?_⟩
    rw [EZ.out]
    exact rfl
  have q1' : ((t1 : Int) != 2) = false := by rw [bne_eq_false_iff_eq]; omega
  have HLF := Lib.hid (show D = if decE V0 ≠ 0 then .error (decE V0) else if decE V1 ≠ 0 then .error (decE V1) else .ok (V0, V1) by rw [HLE.out, if_neg (by rintro (h | h) <;> contradiction)])
  clear q0 q1 HLE
  go_wp2_with fail
  refine (decode_is w2 _ V0 B0'.out (Nat.le_trans SM0.out (by decide))).mono ?_
  clear q0' q1' h5' c00 c01 c10 hat0
  rintro _ w3 ⟨pa, pc, rfl, hnd, hA, hb3⟩
  obtain ⟨LP, hLP⟩ : ∃ L, L = pcells (decB V0) pa (decX V0).length pc := ⟨_, rfl⟩
  obtain ⟨E0, hE0⟩ : ∃ n, n = decE V0 := ⟨_, rfl⟩
  rw [← hLP, ← hE0]
  have HH0 := Lib.hid (decB_hash V0 B0'.out.openT.2.2.1)
  have SZ0 := Lib.hid (show (Tryz.prog.info? 39).map (·.size) = some LP.toArray.size ∧ Zp.size = LP.toArray.size by rw [hLP]; have := SZP.out _ HH0.out pa (decX V0).length pc; exact ⟨this.1, this.2.1⟩)
  have ONE0 := Lib.hid (show LP.toArray.all (·.oneCell') = true by rw [hLP]; exact pcells_one _ _ _ _)
  have EP := Lib.hid hLP
  have EE0 := Lib.hid hE0
  have HA0 := Lib.hid hA
  obtain ⟨h4, hb4⟩ := new_row w3 39 Zp LP.toArray
  have hb24 := (hb3.trans (hb4.mono hb3.size))
  clear hLP hE0 hA
  go_upto_region 7 with (refine wpList_store_row rfl 39 (.tmp 6) (.tmp 41) rfl w3.heap.size LP.toArray rfl rfl 39 Zp (heap_alloc_new w3 _) SZ0.out.1 SZ0.out.2 ONE0.out ?_)
  obtain ⟨W4, hW4⟩ : ∃ W, W = (w3.alloc (.cells Zp 39)).setRow w3.heap.size LP.toArray := ⟨_, rfl⟩
  obtain ⟨G4, hG4⟩ : ∃ g, g = w3.heap.size := ⟨_, rfl⟩
  rw [← hW4] at h4 hb4 hb24 ⊢
  have HN4 := Lib.hid (hnd.below hb4)
  have HW4 := Lib.hid (show Has W4 G4 39 LP.toArray by rw [hG4]; exact h4)
  rw [← hG4]
  have HBW4 := Lib.hid hb24
  have HBNW4 := Lib.hid (hb3.trans (hb4.mono hb3.size))
  clear hW4 hG4 h4 hb4 hb3 hnd hb24
  by_cases q0 : E0 = 0
  rotate_left
  · have z0' : ((E0 : Int) != 0) = true := by rw [bne_iff_ne]; omega
    have HE := Lib.hid (show D = .error E0 by rw [HLF.out, ← EE0.out, if_pos q0])
    have HFIN := Lib.hid ((HST.out W4 HBW4.out).2 LZ)
    have H2 := Lib.hid (HST.out W4 HBW4.out).1
    clear q0
    go_wp2_with (first | (refine wpList_build_run rfl 41 #[] rfl #[] (by kernel_rfl) (.agg LZ) (hzb _) ?_) | refine wpList_store_row rfl 41 (.tmp 2) (.tmp 45) rfl w.heap.size LZ rfl rfl 41 Z H2.out SZZ.out.1 SZZ.out.2 HOZ.out ?_)
    refine bodyPost_ret (results_cell_tmp rfl _ _ w.heap.size 41 LZ (0, 0) _ rfl rfl HFIN.out.1 Tryz.underlying41 SZZ.out.1) rfl ?_
    rw [HE.out]
    refine ⟨HFIN.out.2, ?_⟩
    rw [EZ.out]
    exact rfl
  have z0' : ((E0 : Int) != 0) = false := by rw [bne_eq_false_iff_eq]; omega
  have HLG := Lib.hid (show D = if decE V1 ≠ 0 then .error (decE V1) else .ok (V0, V1) by rw [HLF.out, ← EE0.out, if_neg (by omega)])
  have c11 := HC11.out W4 HBW4.out
  clear q0 HLF
  go_wp2_with fail
  refine (decode_is W4 _ V1 (B1'.out.alive HBW4.out HBW4.out.size) (Nat.le_trans SM1.out (by decide))).mono ?_
  clear z0' c11 hat1
  rintro _ w5 ⟨ra, rc, rfl, hnd, hA, hb3⟩
  obtain ⟨LQ, hLP⟩ : ∃ L, L = pcells (decB V1) ra (decX V1).length rc := ⟨_, rfl⟩
  obtain ⟨E1, hE0⟩ : ∃ n, n = decE V1 := ⟨_, rfl⟩
  rw [← hLP, ← hE0]
  have HH1 := Lib.hid (decB_hash V1 B1'.out.openT.2.2.1)
  have SZ1 := Lib.hid (show (Tryz.prog.info? 39).map (·.size) = some LQ.toArray.size ∧ Zp.size = LQ.toArray.size by rw [hLP]; have := SZP.out _ HH1.out ra (decX V1).length rc; exact ⟨this.1, this.2.1⟩)
  have ONE1 := Lib.hid (show LQ.toArray.all (·.oneCell') = true by rw [hLP]; exact pcells_one _ _ _ _)
  have EQ := Lib.hid hLP
  have EE1 := Lib.hid hE0
  have HA1 := Lib.hid hA
  obtain ⟨h4, hb4⟩ := new_row w5 39 Zp LQ.toArray
  have hb24 := HBW4.out.trans ((hb3.trans (hb4.mono hb3.size)).mono HBW4.out.size)
  clear hLP hE0 hA
  go_upto_region 10 with (refine wpList_store_row rfl 39 (.tmp 7) (.tmp 53) rfl w5.heap.size LQ.toArray rfl rfl 39 Zp (heap_alloc_new w5 _) SZ1.out.1 SZ1.out.2 ONE1.out ?_)
  obtain ⟨W6, hW4⟩ : ∃ W, W = (w5.alloc (.cells Zp 39)).setRow w5.heap.size LQ.toArray := ⟨_, rfl⟩
  obtain ⟨G6, hG4⟩ : ∃ g, g = w5.heap.size := ⟨_, rfl⟩
  rw [← hW4] at h4 hb4 hb24 ⊢
  have HN6 := Lib.hid (hnd.below hb4)
  have HW6 := Lib.hid (show Has W6 G6 39 LQ.toArray by rw [hG4]; exact h4)
  rw [← hG4]
  have HBW6 := Lib.hid hb24
  have HBNW6 := Lib.hid (hb3.trans (hb4.mono hb3.size))
  clear hW4 hG4 h4 hb4 hb3 hnd hb24
  by_cases q0 : E1 = 0
  rotate_left
  · have z1' : ((E1 : Int) != 0) = true := by rw [bne_iff_ne]; omega
    have HE := Lib.hid (show D = .error E1 by rw [HLG.out, ← EE1.out, if_pos q0])
    have HFIN := Lib.hid ((HST.out W6 HBW6.out).2 LZ)
    have H2 := Lib.hid (HST.out W6 HBW6.out).1
    clear q0
    go_wp2_with (first | (refine wpList_build_run rfl 41 #[] rfl #[] (by kernel_rfl) (.agg LZ) (hzb _) ?_) | refine wpList_store_row rfl 41 (.tmp 2) (.tmp 57) rfl w.heap.size LZ rfl rfl 41 Z H2.out SZZ.out.1 SZZ.out.2 HOZ.out ?_)
    refine bodyPost_ret (results_cell_tmp rfl _ _ w.heap.size 41 LZ (0, 0) _ rfl rfl HFIN.out.1 Tryz.underlying41 SZZ.out.1) rfl ?_
    rw [HE.out]
    refine ⟨HFIN.out.2, ?_⟩
    rw [EZ.out]
    exact rfl
  have z1' : ((E1 : Int) != 0) = false := by rw [bne_eq_false_iff_eq]; omega
  have HE := Lib.hid (show D = .ok (V0, V1) by rw [HLG.out, ← EE1.out, if_neg (by omega)])
  obtain ⟨LW, hLW⟩ : ∃ L, L = waysC ⟨decB V0, pa, (decX V0).length, pc, decX V0⟩ ⟨decB V1, ra, (decX V1).length, rc, decX V1⟩ := ⟨_, rfl⟩
  have HBLD := Lib.hid (show ∀ v, (Instr.build 41 #[(0, .agg LP.toArray), (1, .agg LQ.toArray)]).run Tryz.prog v = .ok (.agg LW.toArray) v from fun v => by rw [EP.out, EQ.out, hLW]; exact build_ways ⟨decB V0, pa, (decX V0).length, pc, decX V0⟩ ⟨decB V1, ra, (decX V1).length, rc, decX V1⟩ HH0.out HH1.out v)
  have SZL := Lib.hid (show ((Tryz.prog.info? 41).map (·.size) = some LW.toArray.size ∧ Z.size = LW.toArray.size) ∧ LW.toArray.all (·.oneCell') = true by rw [hLW]; exact ⟨SZW.out _ _ HH0.out HH1.out, waysC_one _ _⟩)
  have EW := Lib.hid hLW
  have H46 := Lib.hid (HW4.out.below HBNW6.out HW4.out.lt)
  have HFIN := Lib.hid ((HST.out W6 HBW6.out).2 LW.toArray)
  have H2 := Lib.hid (HST.out W6 HBW6.out).1
  clear q0 HLG hLW
  go_wp2_with (first
    | (refine wpList_load_row rfl 39 (.tmp 6) rfl G4 rfl 39 LP.toArray (0, 0) _ H46.out Tryz.underlying39 rfl SZ0.out.1 ?_)
    | (refine wpList_load_row rfl 39 (.tmp 7) rfl G6 rfl 39 LQ.toArray (0, 0) _ HW6.out Tryz.underlying39 rfl SZ1.out.1 ?_)
    | (refine wpList_build_run rfl 41 #[(0, .tmp 59), (1, .tmp 60)] rfl #[(0, .agg LP.toArray), (1, .agg LQ.toArray)] (by kernel_rfl) (.agg LW.toArray) (HBLD.out _) ?_)
    | (refine wpList_store_row rfl 41 (.tmp 2) (.tmp 61) rfl w.heap.size LW.toArray rfl rfl 41 Z H2.out SZL.out.1.1 SZL.out.1.2 SZL.out.2 ?_))
  refine bodyPost_ret (results_cell_tmp rfl _ _ w.heap.size 41 LW.toArray (0, 0) _ rfl rfl HFIN.out.1 Tryz.underlying41 SZL.out.1.1) rfl ?_
  rw [HE.out]
  have hk := kept_setRow (g := w.heap.size) W6 LW.toArray
  have g2 := HBW.out
  have g4 := HBW4.out.size
  refine ⟨HFIN.out.2, ⟨decB V0, pa, (decX V0).length, pc, decX V0⟩, ⟨decB V1, ra, (decX V1).length, rc, decX V1⟩, by rw [EW.out]; exact rfl, ⟨HH0.out, (HN4.out.below HBNW6.out).keptN hk (fun _ A e k => by have := HA0.out A e; have k' : A.block = w.heap.size := k; omega), Nat.le_trans (decX_len V0 SM0.out) (by decide)⟩, ⟨HH1.out, HN6.out.keptN hk (fun _ A e k => by have := HA1.out A e; have k' : A.block = w.heap.size := k; omega), Nat.le_trans (decX_len V1 SM1.out) (by decide)⟩, rfl, rfl, rfl, rfl, fun A e => by have := HA0.out A e; omega, fun A e => by have := HA1.out A e; omega⟩
end Go.Proofs.YtknfbccbdiidjaaGreatDoor
/- The plain law of commits: a proof that was made leads to what is said of all. -/
namespace Go.Proofs.YtknfbccbdiidjaaGreatDoor
set_option linter.unusedVariables false
set_option linter.unusedSimpArgs false

variable {K s0 : List Wd} {ls : List LeafT} {l : LeafT} {p q : Pf} {N : Nat} {w : World} {T : List Lf}
theorem low_find (h : Fine K s0 ls) (hl : l ∈ ls) : findT (lowT K s0 ls l.id) (keyK K s0 l) = some (lfL K s0 l) := by
 have hn : ((lowT K s0 ls l.id).map (·.k)).Nodup := by
  rw [low_keys]
  exact (List.Sublist.map _ List.filter_sublist).nodup h.keys
 have hm : lfL K s0 l ∈ lowT K s0 ls l.id := by
  unfold lowT ofId
  exact List.mem_map.2 ⟨l, List.mem_filter.2 ⟨hl, by simp⟩, rfl⟩
 exact find_mem hn hm
theorem top_find (hm : l.id ∈ idsOf ls) : findT (topT K s0 ls) l.id = some (topL K s0 ls l.id) := by
 have hn : ((topT K s0 ls).map (·.k)).Nodup := by
  have e : (topT K s0 ls).map (·.k) = idsOf ls := by
   unfold topT
   rw [List.map_map]
   have : (Lf.k ∘ topL K s0 ls) = id := rfl
   rw [this, List.map_id]
  rw [e]
  exact ids_nodup ls
 exact find_mem hn (List.mem_map.2 ⟨l.id, hm, rfl⟩)
theorem find_perm {T U : List Lf} (h : T.Perm U) (hT : (T.map (·.k)).Nodup) {k : List Nat} {t : Lf} (hu : findT U k = some t) : findT T k = some t := by
 obtain ⟨e1, e2⟩ := find_key hu
 have := find_mem hT (h.mem_iff.2 e2)
 rw [e1] at this
 exact this
theorem low_root (hs0 : s0.length = 8) (h : Fine K s0 ls) (hl : l ∈ ls) (ho : p.Of K s0 (lowT K s0 ls l.id) (keyK K s0 l) N w) : lowR K s0 p l = .ok (partNd K s0 256 (lowT K s0 ls l.id)) := by
 have hfit : sumT (lowT K s0 ls l.id) < 18446744073709551616 := by
  rw [low_sum]
  have a1 := of_le ls l.id
  have a2 := h.fit
  omega
 have hkh : IsHash (keyK K s0 l) := tagD_hash K s0 hs0 _ _
 have ht := pf_tree (low_keyed hs0 h.keys l.id) hfit hkh ho.bits
 have hv : valT (lowT K s0 ls l.id) (keyK K s0 l) = leafB l := by unfold valT; rw [low_find h hl]; rfl
 have hw : wasS (lowT K s0 ls l.id) (keyK K s0 l) = l.am := by unfold wasS; rw [low_find h hl]; rfl
 rw [← ho.nodes, hv, hw] at ht
 exact ht
theorem high_root (hs0 : s0.length = 8) (h : Fine K s0 ls) (hl : l ∈ ls) (hp : T.Perm (topT K s0 ls)) (hk : Keyed (T.map (·.k))) (ho : q.Of K s0 T l.id N w) : highR K s0 q l.id (partNd K s0 256 (lowT K s0 ls l.id)) = .ok (partNd K s0 256 (topT K s0 ls)) := by
 have hfit : sumT T < 18446744073709551616 := by
  rw [perm_sum hp]
  unfold topT
  rw [top_sum hs0 h]
  have a1 := ids_sum ls _ (ids_nodup ls)
  have a2 := h.fit
  omega
 have hm : l.id ∈ idsOf ls := (ids_mem ls l.id).2 ⟨l, hl, rfl⟩
 have hf := find_perm hp hk.nodup (top_find (K := K) (s0 := s0) hm)
 have ht := pf_tree hk hfit (h.ok l hl).id ho.bits
 obtain ⟨P, hP⟩ : ∃ P, P = partNd K s0 256 (lowT K s0 ls l.id) := ⟨_, rfl⟩
 have htl : topL K s0 ls l.id = ⟨l.id, P.h, P.s⟩ := by unfold topL; rw [← hP]
 rw [htl] at hf
 have hv : valT T l.id = P.h := by unfold valT; rw [hf]
 have hw : wasS T l.id = P.s := by unfold wasS; rw [hf]
 rw [← ho.nodes, hv, hw, top_perm h hp hk] at ht
 rw [← hP]
 exact ht
theorem lead_made (hs0 : s0.length = 8) (h : Fine K s0 ls) (hl : l ∈ ls) (hp : T.Perm (topT K s0 ls)) (ho : p.Of K s0 (lowT K s0 ls l.id) (keyK K s0 l) N w) (ho2 : q.Of K s0 T l.id N w) : leadR K s0 p q l = .ok (anchorOf K s0 ls) := by
 have hk : Keyed (T.map (·.k)) := by
  have hk0 := top_keyed (K := K) (s0 := s0) h
  have hpm : (T.map (·.k)).Perm ((topT K s0 ls).map (·.k)) := hp.map _
  exact ⟨fun k hk => hk0.hash k (hpm.mem_iff.1 hk), hpm.nodup_iff.2 hk0.nodup⟩
 have hne : ls ≠ [] := fun e => by rw [e] at hl; cases hl
 rw [lead_ok (by rw [h.good l hl]; decide) (low_root hs0 h hl ho) (high_root hs0 h hl hp hk ho2)]
 unfold anchorOf
 rw [if_neg hne]
/-! the head's leaf -/
theorem hZ_hash : IsHash hZ := ⟨rfl, fun k hk => by rw [List.eq_of_mem_replicate hk]; decide⟩
theorem hL_ok : hL.ok := ⟨hZ_hash, by decide, hZ_hash, by decide, by decide, ⟨by decide, by decide⟩, by decide⟩
theorem hA_ok : hA.ok := ⟨hZ_hash, by decide, hZ_hash, by decide, by decide, hZ_hash, by decide⟩
theorem head_add : addE KS SS [] hL = 0 := by
 unfold addE
 rw [if_neg (by decide), if_neg (by simp), if_neg (by decide), if_pos (by decide)]
theorem head_addC : addC KS SS [] hL = [hL] := by unfold addC; rw [if_pos head_add]; rfl
theorem head_tot : amS (ofId [hL] hZ) = 7 := by decide
theorem head_low : lowT KS SS [hL] hL.id = [⟨keyK KS SS hL, leafB hL, 7⟩] := by
 unfold lowT ofId
 rw [List.filter_cons_of_pos (by simp), List.filter_nil]
 rfl
theorem head_top : topT KS SS [hL] = [⟨hZ, rL, 7⟩] := by
 have e : idsOf [hL] = [hZ] := by decide
 unfold topT
 rw [e, List.map_cons, List.map_nil]
 unfold topL
 have e2 := head_low
 rw [show hL.id = hZ from rfl] at e2
 rw [e2, low_h]
theorem head_anchor : anchorOf KS SS [hL] = anchorK KS SS ⟨rH, 7⟩ := by
 unfold anchorOf
 rw [if_neg (by simp), head_top, high_h]
theorem head_ne : anchorOf KS SS [hL] ≠ hZ := by rw [head_anchor]; exact anchor_ne
theorem alone_none {t : Lf} {T : List Lf} (hT : T = [t]) {key : List Nat} (hk : key = t.k) (ho : p.Of K s0 T key N w) : p.n = 0 := by
 subst hT hk
 have h1 := ho.nodes
 rw [nodesF_all 256 (fun h _ => bareF_own K s0 t h)] at h1
 have h2 := ho.at_.nodes.len
 rw [h1] at h2
 exact h2.symm
end Go.Proofs.YtknfbccbdiidjaaGreatDoor
/- The head of the laws of leaves: the document's example. -/
namespace Go.Proofs.YtknfbccbdiidjaaGreatDoor
set_option linter.unusedVariables false
set_option linter.unusedSimpArgs false
open Go.ChangeShapes Go.WideShapes Go.ChangeAt Go.RowKit Go.Maps

def zLf (n : Nat) : LeafT := ⟨List.replicate 32 0, n, List.replicate 32 0, 0, zNd⟩
theorem zLf_build (n : Nat) (w : World) : (Instr.build 32 #[(1, .int .u64 (n : Int))]).run Tryz.prog w = .ok (.agg (zLf n).cells.toArray) w := by kernel_rfl
theorem leaf_at0 (b n c : Nat) (hn : 0 < n) (w : World) : (Instr.indexAt 22 (.slice (some ⟨b, 0, none⟩) n c) (.int .i64 0)).run Tryz.prog w = .ok (.pointer (some ⟨b, 0, none⟩)) w := by simpa using at_leaf0 b n c 0 hn w
def hls : List LeafT := [zLf 3, zLf 4]
end Go.Proofs.YtknfbccbdiidjaaGreatDoor
