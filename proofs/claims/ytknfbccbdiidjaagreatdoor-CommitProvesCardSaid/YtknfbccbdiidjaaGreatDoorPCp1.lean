/- The walk of commit's Decode. -/
import Derived.Test.YtknfbccbdiidjaaGreatDoorWu
import Derived.Test.YtknfbccbdiidjaaGreatDoorPDec1
import Derived.Test.YtknfbccbdiidjaaGreatDoorPEnc1
import Derived.Test.YtknfbccbdiidjaaGreatDoorPCo2
import Derived.Test.YtknfbccbdiidjaaGreatDoorPTv1
import Derived.Test.YtknfbccbdiidjaaGreatDoorPTv6
import Derived.Test.YtknfbccbdiidjaaGreatDoorPTv7
import Derived.Test.YtknfbccbdiidjaaGreatDoorPSha7
import Derived.Laws.BytesArg
namespace Go.Proofs.YtknfbccbdiidjaaGreatDoor
set_option linter.unusedVariables false
set_option linter.unusedSimpArgs false
open Go.ChangeShapes Go.WideShapes Go.ChangeAt Go.RowKit Go.Maps

theorem rd_posC {b : List Nat} {p : Nat × Nat} (h : rdB b = .ok p) : 0 < p.2 := by
 unfold rdB at h
 split at h
 · cases h
 · split at h
   · cases h; exact Nat.one_pos
   · split at h
     · cases h
     · split at h
       · cases h
       · cases h; exact Nat.succ_pos _
theorem decS_lessC {acc : List Rec} {b : List Nat} {p : List Rec × List Nat} (h0 : ¬ b = []) (h : decS acc b = .ok p) : p.2.length < b.length := by
 have hl : 0 < b.length := List.length_pos_iff.2 h0
 unfold decS at h
 cases h1 : rdB b with
 | error e1 => rw [h1] at h; cases h
 | ok p1 =>
  have hp := rd_posC h1
  rw [h1] at h
  dsimp only at h
  split at h
  · cases h
  · cases h2 : rdB (b.drop p1.2) with
    | error e2 => rw [h2] at h; cases h
    | ok q =>
     rw [h2] at h
     dsimp only at h
     split at h
     · cases h
     · split at h
       · cases h
       · split at h
         · cases h
         · cases h
           show (((b.drop p1.2).drop q.2).drop q.1).length < b.length
           rw [List.length_drop, List.length_drop, List.length_drop]
           omega
theorem decF_nzC : ∀ (f : Nat) (acc : List Rec) (b : List Nat), decF f acc b = .error 0 → b.length < f → False
 | 0, _, _, _, h => absurd h (Nat.not_lt_zero _)
 | f + 1, acc, b, h, hl => by
  by_cases h0 : b = []
  · rw [decF_stop h0] at h; cases h
  · cases hs : decS acc b with
    | error e =>
     rw [decF_err h0 hs] at h
     cases h
     unfold decS at hs
     cases h1 : rdB b with
     | error e1 => rw [h1] at hs; cases hs; exact rd_nz h1 rfl
     | ok p =>
      rw [h1] at hs
      dsimp only at hs
      split at hs
      · cases hs
      · cases h2 : rdB (b.drop p.2) with
        | error e2 => rw [h2] at hs; cases hs; exact rd_nz h2 rfl
        | ok q =>
         rw [h2] at hs
         dsimp only at hs
         split at hs
         · cases hs
         · split at hs
           · cases hs
           · split at hs <;> cases hs
    | ok p =>
     rw [decF_step h0 hs] at h
     exact decF_nzC f p.1 p.2 h (by have := decS_lessC h0 hs; omega)
theorem tdec_nzC {b : List Nat} (h : tdec b = .error 0) : False := decF_nzC _ _ _ h (Nat.lt_succ_self _)
theorem rec_rowC {w : World} {b o n : Nat} {xs : List RecM} (h : RecsAt w (some ⟨b, o, none⟩) n xs) (k : Nat) (x : RecM) (hx : xs[k]? = some x) : w.rangeAt b (o + k * 2) x.cells := by
 have hk : k < n := by rw [← h.row.len]; exact (List.getElem?_eq_some_iff.1 hx).1
 obtain ⟨b', o', e, _, hr⟩ := h.row.at_ (by omega)
 injection e with e
 injection e with e1 e2
 subst e1 e2
 exact hr k x hx
theorem decS_small {acc : List Rec} {b : List Nat} {p : List Rec × List Nat} (ha : ∀ r ∈ acc, r.v.length ≤ 65536) (h : decS acc b = .ok p) : ∀ r ∈ p.1, r.v.length ≤ 65536 := by
 unfold decS at h
 split at h
 · cases h
 · split at h
   · cases h
   · split at h
     · cases h
     · split at h
       · cases h
       · split at h
         · cases h
         · split at h
           · cases h
           · cases h
             intro r hr
             rcases List.mem_append.1 hr with h1 | h1
             · exact ha r h1
             · rw [List.mem_singleton] at h1
               subst h1
               dsimp only
               rw [List.length_take]
               omega
theorem decF_small : ∀ (f : Nat) (acc : List Rec) (b : List Nat) (rs : List Rec), (∀ r ∈ acc, r.v.length ≤ 65536) → decF f acc b = .ok rs → ∀ r ∈ rs, r.v.length ≤ 65536
 | 0, _, _, _, _, h => by unfold decF at h; cases h
 | f + 1, acc, b, rs, ha, h => by
  unfold decF at h
  split at h
  · cases h; exact ha
  · split at h
    · cases h
    · next p hp => exact decF_small f p.1 p.2 rs (decS_small ha hp) h
theorem tdec_small {b : List Nat} {rs : List Rec} (h : tdec b = .ok rs) : ∀ r ∈ rs, r.v.length ≤ 65536 := decF_small _ _ _ _ (fun r hr => by cases hr) h
def rec_ (rs : List Rec) (i : Nat) : Rec := rs.getD i ⟨0, []⟩
def wdR (rs : List Rec) : Except Nat (List Nat × List Nat) :=
 if rs.length ≠ 2 ∨ (rec_ rs 0).t ≠ 0 ∨ (rec_ rs 1).t ≠ 2 then .error 21
 else if decE (rec_ rs 0).v ≠ 0 then .error (decE (rec_ rs 0).v)
 else if decE (rec_ rs 1).v ≠ 0 then .error (decE (rec_ rs 1).v)
 else .ok ((rec_ rs 0).v, (rec_ rs 1).v)
def wdec (b : List Nat) : Except Nat (List Nat × List Nat) := match tdec b with | .error x => .error x | .ok rs => wdR rs
def WdP (w : World) (R : Except Nat (List Nat × List Nat)) (e : Ending) (w' : World) : Prop :=
 Below w.heap.size w w' ∧ match R with
  | .error x => e = .returned (.tuple #[.agg (waysC zPf zPf).toArray, .int .i64 (x : Int)])
  | .ok uv => ∃ p q : Pf, e = .returned (.tuple #[.agg (waysC p q).toArray, .int .i64 0]) ∧ p.At w' ∧ q.At w' ∧ p.b = decB uv.1 ∧ p.xs = decX uv.1 ∧ q.b = decB uv.2 ∧ q.xs = decX uv.2 ∧ (∀ A, p.a = some A → w.heap.size ≤ A.block) ∧ (∀ A, q.a = some A → w.heap.size ≤ A.block)
theorem decB_hash (b : List Nat) (hb : ∀ y ∈ b, y < 256) : IsHash (decB b) := by
 unfold decB
 cases h : decP b with
 | error e => exact ⟨rfl, fun k hk => by rw [List.eq_of_mem_replicate hk]; decide⟩
 | ok xs =>
  have h32 : ¬ b.length < 32 := fun h1 => by rw [decP_less h1] at h; cases h
  exact ⟨by rw [List.length_take]; omega, fun k hk => hb k (List.mem_of_mem_take hk)⟩
theorem decX_len (b : List Nat) (hl : b.length ≤ 65536) : (decX b).length ≤ 100000 := by
 unfold decX
 cases h : decP b with
 | error e => exact Nat.zero_le _
 | ok xs =>
  dsimp only
  unfold decP at h
  split at h
  · cases h
  · split at h
    · cases h
    · split at h
      · cases h
      · cases h
        rw [decNds_len]
        omega
set_option maxRecDepth 100000 in
set_option maxHeartbeats 8000000 in
theorem coDec_is (w : World) (a : Option Addr) (L cv : Nat) (b : List Nat) (hb : Bytes w w.heap.size (.slice a L cv) b) (hL : L ≤ 9223372036854775807) :
  Calls Tryz.prog 35 #[.slice a L cv] w (WdP w (wdec b)) := by
 obtain ⟨Z, hz, hzb, hzs, hzn⟩ := zero_ways
 obtain ⟨Zp, hzp, hbp, hZps, hZpn, -⟩ := zero_proofC
 obtain ⟨LZ, hLZ⟩ : ∃ A, A = (waysC zPf zPf).toArray := ⟨_, rfl⟩
 rw [← hLZ] at hzb
 obtain ⟨D, hD⟩ : ∃ D, D = wdec b := ⟨_, rfl⟩
 rw [← hD]
 have HD := Hh hD
 have hal : Below w.heap.size w (w.alloc (.cells Z 41)) := (Below.refl _ _).alloc (Nat.le_refl _) _
 have Ah := Hh (show Has (w.alloc (.cells Z 41)) (w.heap.size) 41 Z ∧ Below (w.heap.size) w (w.alloc (.cells Z 41)) ∧ (w.heap.size) < (w.alloc (.cells Z 41)).heap.size from ⟨Has.new _ _ _, hal, by simp⟩)
 have Aj := Hh (tvDec_is _ a L cv b (hb.alive hal hal.size) hL)
 have Bk := Hh (show ∀ p q : Pf, IsHash p.b → IsHash q.b → (Tryz.prog.info? 41).map (·.size) = some (waysC p q).toArray.size ∧ Z.size = (waysC p q).toArray.size from fun p q hp hq => by rw [List.size_toArray, waysC_len hp hq, hzs]; exact ⟨by kernel_rfl, rfl⟩)
 have Ac := Hh (show (Tryz.prog.info? 41).map (·.size) = some LZ.size ∧ Z.size = LZ.size by rw [hLZ]; exact Bk.o zPf zPf (zPf_at w).hash (zPf_at w).hash)
 have Am := Hh (show LZ.all (·.oneCell') = true by rw [hLZ]; exact waysC_one _ _)
 have EZ := Hh hLZ
 obtain ⟨TD, hTD⟩ : ∃ T, T = tdec b := ⟨_, rfl⟩
 have An := Hh hTD
 rw [← hTD] at Aj
 have Ak := Hh (show ∀ v : World, Has v (w.heap.size) 41 Z → Below (w.heap.size) w v → ∀ C : Array Value, Has (v.setRow (w.heap.size) C) (w.heap.size) 41 C ∧ Below w.heap.size w (v.setRow (w.heap.size) C) from fun v h1 h2 C =>
  ⟨h1.setRow, h2.trans ((kept_setRow (g := (w.heap.size)) v C).below h2.size (fun k e => by have e' : k = (w.heap.size) := e; omega))⟩)
 have Bj := Hh (show ∀ (bb : List Nat), IsHash bb → ∀ (a : Option Addr) (n c : Nat), (Tryz.prog.info? 39).map (·.size) = some (pcells bb a n c).toArray.size ∧ Zp.size = (pcells bb a n c).toArray.size ∧ (Tryz.prog.info? 39).map (·.size) = some (pcells bb a n c).length from fun bb hb a n c => by rw [List.size_toArray, pcells_len hb, hZps]; exact ⟨by kernel_rfl, rfl, by kernel_rfl⟩)
 clear hD hal hb hzs hTD hLZ hZps
 go_enter Tryz.func35, Tryz.ntmps35
 go_wp2_with fail
 refine Aj.o.mono ?_
 rintro e w2 hm
 cases TD with
 | error x =>
  obtain ⟨rfl, hb2⟩ := (show e = .returned (.tuple #[.slice none 0 0, .int .i64 (x : Int)]) ∧ Below _ _ w2 from hm)
  have hnx : x ≠ 0 := fun e0 => by subst e0; exact tdec_nzC An.o.symm
  have hx2 : ((x : Int) != 0) = true := by rw [bne_iff_ne]; omega
  have h2 := Ah.o.1.below hb2 Ah.o.1.lt
  have hq2 := Ah.o.2.1.trans (hb2.mono (Nat.le_of_lt Ah.o.2.2))
  have Aa := Hh (Ak.o w2 h2 hq2 LZ)
  have H2 := Hh h2
  have HE := Hh (show D = .error x by rw [HD.o]; unfold wdec; rw [← An.o])
  clear hm hb2 hnx h2 hq2 Aj Ak
  go_wp2_with (first | (refine wpList_build_run rfl 41 #[] rfl #[] (by kernel_rfl) (.agg LZ) (hzb _) ?_) | refine wpList_store_row rfl 41 (.tmp 2) (.tmp 15) rfl (w.heap.size) LZ rfl rfl 41 Z H2.o Ac.o.1 Ac.o.2 Am.o ?_)
  refine bodyPost_ret (results_cell_tmp rfl _ _ (w.heap.size) 41 LZ (0, 0) _ rfl rfl Aa.o.1 Tryz.underlying41 Ac.o.1) rfl ?_
  rw [HE.o]
  refine ⟨Aa.o.2, ?_⟩
  rw [EZ.o]
  exact rfl
 | ok rs =>
  obtain ⟨ms, a2, c2, rfl, hms, Ag, Aq, Bb, hb2⟩ := (show ∃ ms a c, e = .returned (.tuple #[.slice a ms.length c, .int .i64 0]) ∧ ms.map RecM.r = rs ∧ RecsAt w2 a ms.length ms ∧ (∀ A, a = some A → _ ≤ A.block) ∧ ms.length ≤ 256 ∧ Below _ _ w2 from hm)
  have h2 := Ah.o.1.below hb2 Ah.o.1.lt
  have hq2 := Ah.o.2.1.trans (hb2.mono (Nat.le_of_lt Ah.o.2.2))
  have Af := Hh (show ∀ v : World, Below w2.heap.size w2 v → Has v w.heap.size 41 Z ∧ ∀ C : Array Value, Has (v.setRow w.heap.size C) w.heap.size 41 C ∧ Below w.heap.size w (v.setRow w.heap.size C) from fun v hv =>
    ⟨h2.below hv h2.lt, Ak.o v (h2.below hv h2.lt) (hq2.trans (hv.mono (Nat.le_of_lt h2.lt)))⟩)
  obtain ⟨ml, hml⟩ : ∃ z, z = ms.length := ⟨_, rfl⟩
  rw [← hml] at Ag Bb
  have Ap := Hh hms.symm
  have Ab := Hh Ag
  have Ay := Hh hml
  have A0 := Hh (show D = wdR rs by rw [HD.o]; unfold wdec; rw [← An.o])
  have A3 := Hh (show rs.length = ml by rw [← hms, List.length_map, hml])
  have A4 := Hh (tdec_small An.o.symm)
  have Bm := Hh h2.lt
  rw [← hml]
  clear hm hms Ag Aq hb2 h2 hq2 hml Aj Ak Ah HD
  have hz0 : ((0 : Int) != 0) = false := rfl
  by_cases h5 : ml = 2
  rotate_left
  · have h5' : ((ml : Int) != 2) = true := by rw [bne_iff_ne]; omega
    have HE := Hh (show D = .error 21 by rw [A0.o]; unfold wdR; rw [if_pos (.inl (by rw [A3.o]; exact h5))])
    have Aa := Hh ((Af.o w2 (Below.refl _ _)).2 LZ)
    have H2 := Hh (Af.o w2 (Below.refl _ _)).1
    clear h5
    go_wp2_with (first | (refine wpList_build_run rfl 41 #[] rfl #[] (by kernel_rfl) (.agg LZ) (hzb _) ?_) | refine wpList_store_row rfl 41 (.tmp 2) (.tmp 34) rfl w.heap.size LZ rfl rfl 41 Z H2.o Ac.o.1 Ac.o.2 Am.o ?_)
    refine bodyPost_ret (results_cell_tmp rfl _ _ w.heap.size 41 LZ (0, 0) _ rfl rfl Aa.o.1 Tryz.underlying41 Ac.o.1) rfl ?_
    rw [HE.o]
    refine ⟨Aa.o.2, ?_⟩
    rw [EZ.o]
    exact rfl
  subst h5
  obtain ⟨lb, lo, rfl, hlb, _⟩ := Ab.o.row.at_ (by decide)
  obtain ⟨x0, hx0⟩ : ∃ x, ms[0]? = some x := ⟨_, List.getElem?_eq_getElem (by rw [← Ay.o]; decide)⟩
  obtain ⟨x1, hx1⟩ : ∃ x, ms[1]? = some x := ⟨_, List.getElem?_eq_getElem (by rw [← Ay.o]; decide)⟩
  have e0 : rec_ rs 0 = x0.r := by unfold rec_; rw [Ap.o, List.getD_eq_getElem?_getD, List.getElem?_map, hx0]; rfl
  have e1 : rec_ rs 1 = x1.r := by unfold rec_; rw [Ap.o, List.getD_eq_getElem?_getD, List.getElem?_map, hx1]; rfl
  have m0 : x0.r ∈ rs := by rw [Ap.o]; exact List.mem_map_of_mem (List.mem_of_getElem? hx0)
  have m1 : x1.r ∈ rs := by rw [Ap.o]; exact List.mem_map_of_mem (List.mem_of_getElem? hx1)
  have S0 := Hh (show x0.v.length ≤ 65536 from A4.o _ m0)
  have S1 := Hh (show x1.v.length ≤ 65536 from A4.o _ m1)
  have B0 := (Ab.o.ok x0 (List.mem_of_getElem? hx0)).b
  have B1 := (Ab.o.ok x1 (List.mem_of_getElem? hx1)).b
  obtain ⟨o0, ho0⟩ : ∃ o, o = lo + 0 * 2 := ⟨_, rfl⟩
  obtain ⟨o1, ho1⟩ : ∃ o, o = lo + 1 * 2 := ⟨_, rfl⟩
  have r0 := rec_rowC Ab.o 0 x0 hx0
  have r1 := rec_rowC Ab.o 1 x1 hx1
  rw [← ho0] at r0
  rw [← ho1] at r1
  have A9 : ∀ v, (Instr.indexAt 136 (.slice (some ⟨lb, lo, none⟩) 2 c2) (.int .i64 0)).run Tryz.prog v = .ok (.pointer (some ⟨lb, o0, none⟩)) v := fun v => by rw [ho0]; exact at_rec lb lo 2 c2 0 (by decide) v
  have Ba : ∀ v, (Instr.indexAt 136 (.slice (some ⟨lb, lo, none⟩) 2 c2) (.int .i64 1)).run Tryz.prog v = .ok (.pointer (some ⟨lb, o1, none⟩)) v := fun v => by rw [ho1]; exact at_rec lb lo 2 c2 1 (by decide) v
  obtain ⟨V0, hV0⟩ : ∃ L, L = x0.v := ⟨_, rfl⟩
  obtain ⟨V1, hV1⟩ : ∃ L, L = x1.v := ⟨_, rfl⟩
  obtain ⟨n0, hn0⟩ : ∃ L, L = V0.length := ⟨_, rfl⟩
  obtain ⟨n1, hn1⟩ : ∃ L, L = V1.length := ⟨_, rfl⟩
  obtain ⟨t0, ht0⟩ : ∃ L, L = x0.t := ⟨_, rfl⟩
  obtain ⟨t1, ht1⟩ : ∃ L, L = x1.t := ⟨_, rfl⟩
  have c00 : w2.cell? ⟨lb, o0, none⟩ = some (.int .u64 (t0 : Int)) := by rw [ht0]; exact r0 0 _ rfl
  have c01 : w2.cell? ⟨lb, o0 + 1, none⟩ = some (.slice x0.a n0 x0.c) := by rw [hn0, hV0]; exact r0 1 _ rfl
  have c10 : w2.cell? ⟨lb, o1, none⟩ = some (.int .u64 (t1 : Int)) := by rw [ht1]; exact r1 0 _ rfl
  have Ao := Hh (show ∀ v, Below w2.heap.size w2 v → v.cell? ⟨lb, o1 + 1, none⟩ = some (.slice x1.a n1 x1.c) from fun v hv => cell_kept (Kept.of_below (S := fun _ => False) hv) (by rw [hn1, hV1]; exact r1 1 _ rfl) (fun h => h))
  have Aw := Hh (show Bytes w2 w2.heap.size (.slice x0.a n0 x0.c) V0 by rw [hn0, hV0]; exact B0)
  have Ax := Hh (show Bytes w2 w2.heap.size (.slice x1.a n1 x1.c) V1 by rw [hn1, hV1]; exact B1)
  have Bh := Hh (show V0.length ≤ 65536 by rw [hV0]; exact S0.o)
  have Bi := Hh (show V1.length ≤ 65536 by rw [hV1]; exact S1.o)
  have Au := Hh (show D = if t0 ≠ 0 ∨ t1 ≠ 2 then .error 21 else if decE V0 ≠ 0 then .error (decE V0) else if decE V1 ≠ 0 then .error (decE V1) else .ok (V0, V1) by
    rw [A0.o, ht0, ht1, hV0, hV1]
    unfold wdR
    rw [e0, e1, A3.o]
    simp only [ne_eq, not_true_eq_false, false_or]
    rfl)
  have h5' : ((2 : Int) != 2) = false := rfl
  obtain ⟨a0, ha0⟩ : ∃ y, y = x0.a := ⟨_, rfl⟩
  obtain ⟨k0, hk0⟩ : ∃ y, y = x0.c := ⟨_, rfl⟩
  obtain ⟨a1, ha1⟩ : ∃ y, y = x1.a := ⟨_, rfl⟩
  obtain ⟨k1, hk1⟩ : ∃ y, y = x1.c := ⟨_, rfl⟩
  rw [← ha0, ← hk0] at c01 Aw
  rw [← ha1, ← hk1] at Ao Ax
  clear e0 e1 m0 m1 S0 S1 B0 B1 ho0 ho1 r0 r1 hV0 hV1 hn0 hn1 ht0 ht1 hx0 hx1 ha0 hk0 ha1 hk1 hlb Ab Ap A0 A3 A4 Ay An
  by_cases q0 : t0 = 0
  rotate_left
  · have q0' : ((t0 : Int) != 0) = true := by rw [bne_iff_ne]; omega
    have HE := Hh (show D = .error 21 by rw [Au.o, if_pos (.inl q0)])
    have Aa := Hh ((Af.o w2 (Below.refl _ _)).2 LZ)
    have H2 := Hh (Af.o w2 (Below.refl _ _)).1
    clear q0
    go_wp2_with (first | (refine wpList_build_run rfl 41 #[] rfl #[] (by kernel_rfl) (.agg LZ) (hzb _) ?_) | refine wpList_store_row rfl 41 (.tmp 2) (.tmp 34) rfl w.heap.size LZ rfl rfl 41 Z H2.o Ac.o.1 Ac.o.2 Am.o ?_)
    refine bodyPost_ret (results_cell_tmp rfl _ _ w.heap.size 41 LZ (0, 0) _ rfl rfl Aa.o.1 Tryz.underlying41 Ac.o.1) rfl ?_
    rw [HE.o]
    refine ⟨Aa.o.2, ?_⟩
    rw [EZ.o]
    exact rfl
  have q0' : ((t0 : Int) != 0) = false := by rw [bne_eq_false_iff_eq]; omega
  by_cases q1 : t1 = 2
  rotate_left
  · have q1' : ((t1 : Int) != 2) = true := by rw [bne_iff_ne]; omega
    have HE := Hh (show D = .error 21 by rw [Au.o, if_pos (.inr q1)])
    have Aa := Hh ((Af.o w2 (Below.refl _ _)).2 LZ)
    have H2 := Hh (Af.o w2 (Below.refl _ _)).1
    clear q0 q1
    go_wp2_with (first | (refine wpList_build_run rfl 41 #[] rfl #[] (by kernel_rfl) (.agg LZ) (hzb _) ?_) | refine wpList_store_row rfl 41 (.tmp 2) (.tmp 34) rfl w.heap.size LZ rfl rfl 41 Z H2.o Ac.o.1 Ac.o.2 Am.o ?_)
    refine bodyPost_ret (results_cell_tmp rfl _ _ w.heap.size 41 LZ (0, 0) _ rfl rfl Aa.o.1 Tryz.underlying41 Ac.o.1) rfl ?_
    rw [HE.o]
    refine ⟨Aa.o.2, ?_⟩
    rw [EZ.o]
    exact rfl
  have q1' : ((t1 : Int) != 2) = false := by rw [bne_eq_false_iff_eq]; omega
  have A1 := Hh (show D = if decE V0 ≠ 0 then .error (decE V0) else if decE V1 ≠ 0 then .error (decE V1) else .ok (V0, V1) by rw [Au.o, if_neg (by rintro (h | h) <;> contradiction)])
  clear q0 q1 Au
  go_wp2_with fail
  refine (decode_is w2 _ V0 Aw.o (Nat.le_trans Bh.o (by decide))).mono ?_
  clear q0' q1' h5' c00 c01 c10 A9
  rintro _ w3 ⟨pa, pc, rfl, hnd, hA, hb3⟩
  obtain ⟨LP, hLP⟩ : ∃ L, L = pcells (decB V0) pa (decX V0).length pc := ⟨_, rfl⟩
  obtain ⟨E0, hE0⟩ : ∃ n, n = decE V0 := ⟨_, rfl⟩
  rw [← hLP, ← hE0]
  have Ar := Hh (decB_hash V0 Aw.o.openT.2.2.1)
  have A7 := Hh (show (Tryz.prog.info? 39).map (·.size) = some LP.toArray.size ∧ Zp.size = LP.toArray.size by rw [hLP]; have := Bj.o _ Ar.o pa (decX V0).length pc; exact ⟨this.1, this.2.1⟩)
  have A5 := Hh (show LP.toArray.all (·.oneCell') = true by rw [hLP]; exact pcells_one _ _ _ _)
  have EP := Hh hLP
  have Bc := Hh hE0
  have Be := Hh hA
  obtain ⟨h4, hb4⟩ := new_row w3 39 Zp LP.toArray
  have Ae := (hb3.trans (hb4.mono hb3.size))
  clear hLP hE0 hA
  go_upto_region 7 with (refine wpList_store_row rfl 39 (.tmp 6) (.tmp 41) rfl w3.heap.size LP.toArray rfl rfl 39 Zp (heap_alloc_new w3 _) A7.o.1 A7.o.2 A5.o ?_)
  obtain ⟨W4, hW4⟩ : ∃ W, W = (w3.alloc (.cells Zp 39)).setRow w3.heap.size LP.toArray := ⟨_, rfl⟩
  obtain ⟨G4, hG4⟩ : ∃ g, g = w3.heap.size := ⟨_, rfl⟩
  rw [← hW4] at h4 hb4 Ae ⊢
  have Bn := Hh (hnd.below hb4)
  have Bg := Hh (show Has W4 G4 39 LP.toArray by rw [hG4]; exact h4)
  rw [← hG4]
  have Ad := Hh Ae
  clear hW4 hG4 h4 hb4 hb3 hnd Ae
  by_cases q0 : E0 = 0
  rotate_left
  · have z0' : ((E0 : Int) != 0) = true := by rw [bne_iff_ne]; omega
    have HE := Hh (show D = .error E0 by rw [A1.o, ← Bc.o, if_pos q0])
    have Aa := Hh ((Af.o W4 Ad.o).2 LZ)
    have H2 := Hh (Af.o W4 Ad.o).1
    clear q0
    go_wp2_with (first | (refine wpList_build_run rfl 41 #[] rfl #[] (by kernel_rfl) (.agg LZ) (hzb _) ?_) | refine wpList_store_row rfl 41 (.tmp 2) (.tmp 45) rfl w.heap.size LZ rfl rfl 41 Z H2.o Ac.o.1 Ac.o.2 Am.o ?_)
    refine bodyPost_ret (results_cell_tmp rfl _ _ w.heap.size 41 LZ (0, 0) _ rfl rfl Aa.o.1 Tryz.underlying41 Ac.o.1) rfl ?_
    rw [HE.o]
    refine ⟨Aa.o.2, ?_⟩
    rw [EZ.o]
    exact rfl
  have z0' : ((E0 : Int) != 0) = false := by rw [bne_eq_false_iff_eq]; omega
  have A2 := Hh (show D = if decE V1 ≠ 0 then .error (decE V1) else .ok (V0, V1) by rw [A1.o, ← Bc.o, if_neg (by omega)])
  have c11 := Ao.o W4 Ad.o
  clear q0 A1
  go_wp2_with fail
  refine (decode_is W4 _ V1 (Ax.o.alive Ad.o Ad.o.size) (Nat.le_trans Bi.o (by decide))).mono ?_
  clear z0' c11 Ba
  rintro _ w5 ⟨ra, rc, rfl, hnd, hA, hb3⟩
  obtain ⟨LQ, hLP⟩ : ∃ L, L = pcells (decB V1) ra (decX V1).length rc := ⟨_, rfl⟩
  obtain ⟨E1, hE0⟩ : ∃ n, n = decE V1 := ⟨_, rfl⟩
  rw [← hLP, ← hE0]
  have As := Hh (decB_hash V1 Ax.o.openT.2.2.1)
  have A8 := Hh (show (Tryz.prog.info? 39).map (·.size) = some LQ.toArray.size ∧ Zp.size = LQ.toArray.size by rw [hLP]; have := Bj.o _ As.o ra (decX V1).length rc; exact ⟨this.1, this.2.1⟩)
  have A6 := Hh (show LQ.toArray.all (·.oneCell') = true by rw [hLP]; exact pcells_one _ _ _ _)
  have EQ := Hh hLP
  have Bd := Hh hE0
  have Bf := Hh hA
  obtain ⟨h4, hb4⟩ := new_row w5 39 Zp LQ.toArray
  have Ae := Ad.o.trans ((hb3.trans (hb4.mono hb3.size)).mono Ad.o.size)
  clear hLP hE0 hA
  go_upto_region 10 with (refine wpList_store_row rfl 39 (.tmp 7) (.tmp 53) rfl w5.heap.size LQ.toArray rfl rfl 39 Zp (heap_alloc_new w5 _) A8.o.1 A8.o.2 A6.o ?_)
  obtain ⟨W6, hW4⟩ : ∃ W, W = (w5.alloc (.cells Zp 39)).setRow w5.heap.size LQ.toArray := ⟨_, rfl⟩
  obtain ⟨G6, hG4⟩ : ∃ g, g = w5.heap.size := ⟨_, rfl⟩
  rw [← hW4] at h4 hb4 Ae ⊢
  have Bo := Hh (hnd.below hb4)
  have Bp := Hh (show Has W6 G6 39 LQ.toArray by rw [hG4]; exact h4)
  rw [← hG4]
  have Ai := Hh Ae
  have Al := Hh (hb3.trans (hb4.mono hb3.size))
  clear hW4 hG4 h4 hb4 hb3 hnd Ae
  by_cases q0 : E1 = 0
  rotate_left
  · have z1' : ((E1 : Int) != 0) = true := by rw [bne_iff_ne]; omega
    have HE := Hh (show D = .error E1 by rw [A2.o, ← Bd.o, if_pos q0])
    have Aa := Hh ((Af.o W6 Ai.o).2 LZ)
    have H2 := Hh (Af.o W6 Ai.o).1
    clear q0
    go_wp2_with (first | (refine wpList_build_run rfl 41 #[] rfl #[] (by kernel_rfl) (.agg LZ) (hzb _) ?_) | refine wpList_store_row rfl 41 (.tmp 2) (.tmp 57) rfl w.heap.size LZ rfl rfl 41 Z H2.o Ac.o.1 Ac.o.2 Am.o ?_)
    refine bodyPost_ret (results_cell_tmp rfl _ _ w.heap.size 41 LZ (0, 0) _ rfl rfl Aa.o.1 Tryz.underlying41 Ac.o.1) rfl ?_
    rw [HE.o]
    refine ⟨Aa.o.2, ?_⟩
    rw [EZ.o]
    exact rfl
  have z1' : ((E1 : Int) != 0) = false := by rw [bne_eq_false_iff_eq]; omega
  have HE := Hh (show D = .ok (V0, V1) by rw [A2.o, ← Bd.o, if_neg (by omega)])
  obtain ⟨LW, hLW⟩ : ∃ L, L = waysC ⟨decB V0, pa, (decX V0).length, pc, decX V0⟩ ⟨decB V1, ra, (decX V1).length, rc, decX V1⟩ := ⟨_, rfl⟩
  have Az := Hh (show ∀ v, (Instr.build 41 #[(0, .agg LP.toArray), (1, .agg LQ.toArray)]).run Tryz.prog v = .ok (.agg LW.toArray) v from fun v => by rw [EP.o, EQ.o, hLW]; exact build_ways ⟨decB V0, pa, (decX V0).length, pc, decX V0⟩ ⟨decB V1, ra, (decX V1).length, rc, decX V1⟩ Ar.o As.o v)
  have Av := Hh (show ((Tryz.prog.info? 41).map (·.size) = some LW.toArray.size ∧ Z.size = LW.toArray.size) ∧ LW.toArray.all (·.oneCell') = true by rw [hLW]; exact ⟨Bk.o _ _ Ar.o As.o, waysC_one _ _⟩)
  have EW := Hh hLW
  have Bl := Hh (Bg.o.below Al.o Bg.o.lt)
  have Aa := Hh ((Af.o W6 Ai.o).2 LW.toArray)
  have H2 := Hh (Af.o W6 Ai.o).1
  clear q0 A2 hLW
  go_wp2_with (first
    | (refine wpList_load_row rfl 39 (.tmp 6) rfl G4 rfl 39 LP.toArray (0, 0) _ Bl.o Tryz.underlying39 rfl A7.o.1 ?_)
    | (refine wpList_load_row rfl 39 (.tmp 7) rfl G6 rfl 39 LQ.toArray (0, 0) _ Bp.o Tryz.underlying39 rfl A8.o.1 ?_)
    | (refine wpList_build_run rfl 41 #[(0, .tmp 59), (1, .tmp 60)] rfl #[(0, .agg LP.toArray), (1, .agg LQ.toArray)] (by kernel_rfl) (.agg LW.toArray) (Az.o _) ?_)
    | (refine wpList_store_row rfl 41 (.tmp 2) (.tmp 61) rfl w.heap.size LW.toArray rfl rfl 41 Z H2.o Av.o.1.1 Av.o.1.2 Av.o.2 ?_))
  refine bodyPost_ret (results_cell_tmp rfl _ _ w.heap.size 41 LW.toArray (0, 0) _ rfl rfl Aa.o.1 Tryz.underlying41 Av.o.1.1) rfl ?_
  rw [HE.o]
  have hk := kept_setRow (g := w.heap.size) W6 LW.toArray
  have g2 := Bm.o
  have g4 := Ad.o.size
  refine ⟨Aa.o.2, ⟨decB V0, pa, (decX V0).length, pc, decX V0⟩, ⟨decB V1, ra, (decX V1).length, rc, decX V1⟩, by rw [EW.o]; exact rfl, ⟨Ar.o, (Bn.o.below Al.o).keptN hk (fun _ A e k => by have := Be.o A e; have k' : A.block = w.heap.size := k; omega), Nat.le_trans (decX_len V0 Bh.o) (by decide)⟩, ⟨As.o, Bo.o.keptN hk (fun _ A e k => by have := Bf.o A e; have k' : A.block = w.heap.size := k; omega), Nat.le_trans (decX_len V1 Bi.o) (by decide)⟩, rfl, rfl, rfl, rfl, fun A e => by have := Be.o A e; omega, fun A e => by have := Bf.o A e; omega⟩
/- The bytes of a proof's two parts. -/

def waysB (u v : List Nat) : List Nat := recB ⟨0, u⟩ ++ recB ⟨2, v⟩
theorem enc_ways (p q : Pf) (h1 : (pbytes p.b p.xs).length ≤ 65536) (h2 : (pbytes q.b q.xs).length ≤ 65536) : tvEnc (waysR p q) = .ok (waysB (pbytes p.b p.xs) (pbytes q.b q.xs)) := by
 have t1 := tvAt_up5 (rs := waysR p q) (k := 0) (b := []) rfl rfl (by unfold recE waysR; dsimp only; rw [if_neg (by omega), if_neg (by omega)])
 have t2 := tvAt_up5 t1 rfl (by unfold recE waysR; dsimp only; rw [if_neg (by simp), if_neg (by omega)])
 have hl : (waysR p q).length = 2 := rfl
 unfold tvEnc
 rw [hl, if_neg (by decide), t2]
 simp [waysB, waysR]
section
/- The plain law of commits: a proof that was made leads to what is said of all. -/

variable {K s0 : List Wd} {ls : List LeafT} {l : LeafT} {p q : Pf} {N : Nat} {w : World} {T : List Lf}
theorem low_find (h : Fine K s0 ls) (hl : l ∈ ls) : findT (lowT K s0 ls l.id) (keyK K s0 l) = some (lfL K s0 l) := by
 have hn : ((lowT K s0 ls l.id).map (·.k)).Nodup := by
  rw [low_keys]
  exact (List.Sublist.map _ List.filter_sublist).nodup h.keys
 have hm : lfL K s0 l ∈ lowT K s0 ls l.id := by
  unfold lowT ofId
  exact List.mem_map.2 ⟨l, List.mem_filter.2 ⟨hl, by simp⟩, rfl⟩
 exact find_mem hn hm
theorem top_find (hm : l.id ∈ idsOf ls) : findT (topT K s0 ls) l.id = some (topL K s0 ls l.id) := by
 have hn : ((topT K s0 ls).map (·.k)).Nodup := by
  have e : (topT K s0 ls).map (·.k) = idsOf ls := by
   unfold topT
   rw [List.map_map]
   have : (Lf.k ∘ topL K s0 ls) = id := rfl
   rw [this, List.map_id]
  rw [e]
  exact ids_nodup ls
 exact find_mem hn (List.mem_map.2 ⟨l.id, hm, rfl⟩)
theorem find_perm {T U : List Lf} (h : T.Perm U) (hT : (T.map (·.k)).Nodup) {k : List Nat} {t : Lf} (hu : findT U k = some t) : findT T k = some t := by
 obtain ⟨e1, e2⟩ := find_key hu
 have := find_mem hT (h.mem_iff.2 e2)
 rw [e1] at this
 exact this
theorem low_root (hs0 : s0.length = 8) (h : Fine K s0 ls) (hl : l ∈ ls) (ho : p.Of K s0 (lowT K s0 ls l.id) (keyK K s0 l) N w) : lowR K s0 p l = .ok (partNd K s0 256 (lowT K s0 ls l.id)) := by
 have Aa : sumT (lowT K s0 ls l.id) < 18446744073709551616 := by
  rw [low_sum]
  have a1 := of_le ls l.id
  have a2 := h.fit
  omega
 have hkh : IsHash (keyK K s0 l) := tagD_hash K s0 hs0 _ _
 have ht := pf_tree (low_keyed hs0 h.keys l.id) Aa hkh ho.bits
 have hv : valT (lowT K s0 ls l.id) (keyK K s0 l) = leafB l := by unfold valT; rw [low_find h hl]; rfl
 have hw : wasS (lowT K s0 ls l.id) (keyK K s0 l) = l.am := by unfold wasS; rw [low_find h hl]; rfl
 rw [← ho.nodes, hv, hw] at ht
 exact ht
theorem high_root (hs0 : s0.length = 8) (h : Fine K s0 ls) (hl : l ∈ ls) (hp : T.Perm (topT K s0 ls)) (hk : Keyed (T.map (·.k))) (ho : q.Of K s0 T l.id N w) : highR K s0 q l.id (partNd K s0 256 (lowT K s0 ls l.id)) = .ok (partNd K s0 256 (topT K s0 ls)) := by
 have Aa : sumT T < 18446744073709551616 := by
  rw [perm_sum hp]
  unfold topT
  rw [top_sum hs0 h]
  have a1 := ids_sum ls _ (ids_nodup ls)
  have a2 := h.fit
  omega
 have hm : l.id ∈ idsOf ls := (ids_mem ls l.id).2 ⟨l, hl, rfl⟩
 have hf := find_perm hp hk.nodup (top_find (K := K) (s0 := s0) hm)
 have ht := pf_tree hk Aa (h.ok l hl).id ho.bits
 obtain ⟨P, hP⟩ : ∃ P, P = partNd K s0 256 (lowT K s0 ls l.id) := ⟨_, rfl⟩
 have htl : topL K s0 ls l.id = ⟨l.id, P.h, P.s⟩ := by unfold topL; rw [← hP]
 rw [htl] at hf
 have hv : valT T l.id = P.h := by unfold valT; rw [hf]
 have hw : wasS T l.id = P.s := by unfold wasS; rw [hf]
 rw [← ho.nodes, hv, hw, top_perm h hp hk] at ht
 rw [← hP]
 exact ht
theorem lead_made (hs0 : s0.length = 8) (h : Fine K s0 ls) (hl : l ∈ ls) (hp : T.Perm (topT K s0 ls)) (ho : p.Of K s0 (lowT K s0 ls l.id) (keyK K s0 l) N w) (ho2 : q.Of K s0 T l.id N w) : leadR K s0 p q l = .ok (anchorOf K s0 ls) := by
 have hk : Keyed (T.map (·.k)) := by
  have hk0 := top_keyed (K := K) (s0 := s0) h
  have hpm : (T.map (·.k)).Perm ((topT K s0 ls).map (·.k)) := hp.map _
  exact ⟨fun k hk => hk0.hash k (hpm.mem_iff.1 hk), hpm.nodup_iff.2 hk0.nodup⟩
 have hne : ls ≠ [] := fun e => by rw [e] at hl; cases hl
 rw [lead_ok (by rw [h.good l hl]; decide) (low_root hs0 h hl ho) (high_root hs0 h hl hp hk ho2)]
 unfold anchorOf
 rw [if_neg hne]
/-! the head's leaf -/
theorem hZ_hash : IsHash hZ := ⟨rfl, fun k hk => by rw [List.eq_of_mem_replicate hk]; decide⟩
theorem hL_ok : hL.ok := ⟨hZ_hash, by decide, hZ_hash, by decide, by decide, ⟨by decide, by decide⟩, by decide⟩
theorem hA_ok : hA.ok := ⟨hZ_hash, by decide, hZ_hash, by decide, by decide, hZ_hash, by decide⟩
theorem head_add : addE KS SS [] hL = 0 := by
 unfold addE
 rw [if_neg (by decide), if_neg (by simp), if_neg (by decide), if_pos (by decide)]
theorem head_addC : addC KS SS [] hL = [hL] := by unfold addC; rw [if_pos head_add]; rfl
theorem head_tot : amS (ofId [hL] hZ) = 7 := by decide
theorem head_low : lowT KS SS [hL] hL.id = [⟨keyK KS SS hL, leafB hL, 7⟩] := by
 unfold lowT ofId
 rw [List.filter_cons_of_pos (by simp), List.filter_nil]
 rfl
theorem head_top : topT KS SS [hL] = [⟨hZ, rL, 7⟩] := by
 have e : idsOf [hL] = [hZ] := by decide
 unfold topT
 rw [e, List.map_cons, List.map_nil]
 unfold topL
 have e2 := head_low
 rw [show hL.id = hZ from rfl] at e2
 rw [e2, low_h]
theorem head_anchor : anchorOf KS SS [hL] = anchorK KS SS ⟨rH, 7⟩ := by
 unfold anchorOf
 rw [if_neg (by simp), head_top, high_h]
theorem head_ne : anchorOf KS SS [hL] ≠ hZ := by rw [head_anchor]; exact anchor_ne
theorem alone_none {t : Lf} {T : List Lf} (hT : T = [t]) {key : List Nat} (hk : key = t.k) (ho : p.Of K s0 T key N w) : p.n = 0 := by
 subst hT hk
 have h1 := ho.nodes
 rw [nodesF_all 256 (fun h _ => bareF_own K s0 t h)] at h1
 have h2 := ho.at_.nodes.len
 rw [h1] at h2
 exact h2.symm
end
/- The head of the laws of leaves: the document's example. -/

def zLf (n : Nat) : LeafT := ⟨List.replicate 32 0, n, List.replicate 32 0, 0, zNd⟩
theorem zLf_build (n : Nat) (w : World) : (Instr.build 32 #[(1, .int .u64 (n : Int))]).run Tryz.prog w = .ok (.agg (zLf n).cells.toArray) w := by kernel_rfl
theorem leaf_at0 (b n c : Nat) (hn : 0 < n) (w : World) : (Instr.indexAt 22 (.slice (some ⟨b, 0, none⟩) n c) (.int .i64 0)).run Tryz.prog w = .ok (.pointer (some ⟨b, 0, none⟩)) w := by simpa using at_leaf0 b n c 0 hn w
def hls : List LeafT := [zLf 3, zLf 4]
/- The walk of the commit's head. -/

theorem hA_tree : tlAt KS SS (placed [hA]) 1 = .ok (partsT KS SS [hA]) := by
 have e : placed [hA] = [hA] := rfl
 rw [e]
 exact tl_makes (ls := [hA]) (fun l hl => by rw [List.mem_singleton.1 hl]; exact hA_ok) (fun i l h => by
  have hi := (List.getElem?_eq_some_iff.1 h).1
  have : i = 0 := by simpa using hi
  subst this
  injection h with h
  rw [← h]
  exact ⟨rfl, by decide⟩) (by decide) 1 (by decide) (by decide)
theorem hA_parts : partsT KS SS [hA] = [partL KS SS 0 hA] := rfl
theorem hA_split : splitL ⟨rP, 7⟩ (placed [hA]) = [hL] := rfl
theorem prove_yes {K s0 : List Wd} {S : Nat → Prop} {w w' : World} {g m0 m1 : Nat} {ls : List LeafT} {E : List (List Nat × Nat)} {Z : Nat → Nat → Prop} {l : LeafT} {e : Ending} (h : ProveP K s0 S w g ls m0 m1 E Z l e w') (hl : l ∈ ls) :
   CmAt K s0 S w' g ls m0 m1 E Z ∧ Kept (fun k => ∃ e ∈ E, Z e.2 k) w w' ∧ ∃ p q T, e = .returned (.tuple #[.agg (waysC p q).toArray, .int .i64 0]) ∧ p.Of K s0 (lowT K s0 ls l.id) (keyK K s0 l) w.heap.size w' ∧ T.Perm (topT K s0 ls) ∧ q.Of K s0 T l.id w.heap.size w' := by
 obtain ⟨h1, h2, h3⟩ := h
 refine ⟨h1, h2, ?_⟩
 rcases h3 with ⟨_, h⟩ | ⟨hn, _⟩
 · exact h
 · exact absurd hl hn
theorem hA_build (w : World) : (Instr.build 32 #[(1, .int .u64 7)]).run Tryz.prog w = .ok (.agg hA.cells.toArray) w := zLf_build 7 w
set_option maxRecDepth 100000 in
set_option maxHeartbeats 16000000 in
theorem headC_is (w : World) (hT : Tabs KS SS w) : Calls Tryz.prog 9 #[] w fun e w' => e = .returned (.bool true) ∧ Below w.heap.size w w' := by
 obtain ⟨Zl, hzl, -, Bo, hzln, hzle'⟩ := zero_leafT
 clear hzle'
 obtain ⟨zw, hzw, -, A8, hzwn⟩ := zero_ways
 obtain ⟨Z, Ak, hzs⟩ := info_leafT
 obtain ⟨CA, hCA⟩ : ∃ L, L = hA.cells := ⟨_, rfl⟩
 obtain ⟨LC, hLC⟩ : ∃ L, L = hL.cells := ⟨_, rfl⟩
 obtain ⟨ZH, hZH⟩ : ∃ L, L = bcells hZ := ⟨_, rfl⟩
 have LA := Hh (show CA.length = 99 by rw [hCA]; exact LeafT.len hA_ok)
 have Bl := Hh (show (Tryz.prog.info? 32).map (·.size) = some LC.length by rw [hLC, LeafT.len hL_ok]; kernel_rfl)
 have B6 := Hh (show ∀ v, (Instr.build 32 #[(1, .int .u64 7)]).run Tryz.prog v = .ok (.agg CA.toArray) v from fun v => by rw [hCA]; exact hA_build v)
 have Bu := Hh (show ∀ v, (Instr.build 27 #[]).run Tryz.prog v = .ok (.agg ZH.toArray) v from fun v => by rw [hZH]; exact build_h0C v)
 obtain ⟨ii, hi1, hi2, hi3, hi4⟩ := info_parts Ak
 have Bg := Hh (And.intro hi1 (And.intro hi2 hi3))
 have B8 := Hh hzs
 have A9 := Hh hLC
 have Bq := Hh hZH
 have B9 := Hh A8
 obtain ⟨W1, hW1⟩ : ∃ W, W = w.alloc (.cells CA.toArray 32) := ⟨_, rfl⟩
 have hh1 : Has W1 w.heap.size 32 ([hA].flatMap LeafT.cells).toArray := by
  rw [hW1, hCA]
  simpa using Has.new w 32 hA.cells.toArray
 have hb1 : Below w.heap.size w W1 := by rw [hW1]; exact (Below.refl _ _).alloc (Nat.le_refl _) _
 have hr1 := rows_has hh1 (len_cells (fun l hl => by rw [List.mem_singleton.1 hl]; exact hA_ok))
 have Ad := lfParts_is KS SS W1 (hT.below hb1 hT.low) (some ⟨w.heap.size, 0, none⟩) 1 1 [hA] hr1 (fun l hl => by rw [List.mem_singleton.1 hl]; exact hA_ok) (by decide)
 rw [hA_tree] at Ad
 have Aj := Hh Ad
 have Ba := Hh hb1
 have Bp := Hh hW1
 have Am := Hh (show ∀ v, Below w.heap.size w v → Tabs KS SS v from fun v hv => hT.below hv hT.low)
 clear hT hCA hLC hZH hi1 hi2 hi3 hi4 Ak hzs Bo A8 hW1 hh1 hb1 hr1 Ad
 go_enter Tryz.func9, Tryz.ntmps9
 go_wp2_with (first
  | (refine wpList_build_run rfl 32 #[(1, .const (.int .u64 7))] rfl #[(1, .int .u64 7)] (by kernel_rfl) (.agg CA.toArray) (B6.o _) ?_)
  | (refine wpList_build1 rfl 22 32 (.tmp 7) rfl ii (.agg Z) Tryz.underlying22 Bg.o.1 Bg.o.2.1 CA (by rw [Bg.o.2.2, LA.o]) (by rw [LA.o]; show Z.size = 99; exact B8.o) (by rw [LA.o]; decide) (by rw [LA.o]; decide) rfl ?_))
 rw [← Bp.o]
 refine Aj.o.mono ?_
 rintro _ W2 ⟨hb2, a, c, rfl, Ap⟩
 have Ae : W2.ownsRow W1.heap.size 32 99 (.slice a 1 c) 1 ([hL].flatMap LeafT.cells) := by
  have e : splitL (partNd KS SS 256 (partsT KS SS [hA])) (placed [hA]) = [hL] := by rw [hA_parts, parts_h]; exact hA_split
  rw [e] at Ap
  exact Ap
 clear Ap
 obtain ⟨A5, Ao⟩ := own_rows Ae rfl (len_cells (fun l hl => by rw [List.mem_singleton.1 hl]; exact hL_ok))
 obtain ⟨gp, o, rfl, Bn, hrr⟩ := A5.at_ (by decide)
 have ho : o = 0 := by
  obtain ⟨g, cap, cur, e, _⟩ := own_open Ae (by decide)
  injection e with e; injection e with e; injection e
 subst ho
 have hrl : W2.rangeAt gp 0 LC := by
  have := hrr 0 hL rfl
  rw [A9.o]
  simpa using this
 have Af := Hh (Ba.o.trans (hb2.mono Ba.o.size))
 have B1 := Hh (show ∀ v, Below W2.heap.size W2 v → v.rangeAt gp 0 LC from fun v hv => rangeAt_kept hrl (Kept.of_below (S := fun _ => False) hv) (fun e => e))
 have Bt := Hh (show w.heap.size ≤ gp ∧ gp < W2.heap.size from ⟨by have := (Ao _ rfl).1; have a2 := Ba.o.size; exact Nat.le_trans a2 this, (Ao _ rfl).2⟩)
 have ha0 := leaf_at0 gp 1 c (by decide)
 have Ac := Hh ha0
 clear hb2 Ae A5 Ao Bn hrr hrl Aj Ba Bp ha0
 go_wp2_with fail
 refine (coNew_is KS SS (fun k => W2.heap.size ≤ k) W2 (fun k h => h)).mono ?_
 rintro _ W3 ⟨g, rfl, A2, hb3, hg3⟩
 have Aw := Hh A2
 have Ag := Hh hb3
 have Bs := Hh (Af.o.trans (hb3.mono Af.o.size))
 have hr3 := B1.o W3 hb3
 have B0 := Hh hr3
 have ha3 := Ac.o W3
 clear A2 hb3 hg3 hr3
 go_wp2_with (refine wpList_load_midG rfl 32 (.tmp 22) rfl gp 0 rfl LC _ B0.o Tryz.underlying32 rfl Bl.o ?_)
 have An := coAdd_is Aw.o (fun k h => Nat.le_trans Ag.o.size h) (Am.o W3 Bs.o) hL hL_ok
 rw [head_add, head_addC, ← A9.o] at An
 have Ar := Hh An
 clear An ha3
 refine Ar.o.mono ?_
 rintro _ W4 ⟨rfl, A3, hk4⟩
 have Ax := Hh A3
 have Al := Hh (Ag.o.trans (hk4.below Ag.o.size (fun k h => h)))
 clear A3 hk4 Ar Aw Bs B0 Ag
 obtain ⟨m0, m1, E, Z0, hat⟩ := Ax.o
 have Ai := coTotal_at hat hZ hZ_hash
 unfold arr at Ai
 rw [head_tot, ← Bq.o] at Ai
 have A1 := Hh Ai
 have Br := Hh hat
 clear Ai hat Ax
 go_wp2_with (refine wpList_build_run rfl 27 #[] rfl #[] (by kernel_rfl) (.agg ZH.toArray) (Bu.o _) ?_)
 refine A1.o.mono ?_
 rintro _ W5 ⟨rfl, hb5⟩
 have Au := Hh (Al.o.trans (hb5.mono Al.o.size))
 have Av := Hh (Af.o.trans (Au.o.mono Af.o.size))
 have As := Hh (Br.o.quiet hb5)
 have ha5 := Ac.o W5
 have Bi := Hh (B1.o W5 Au.o)
 clear hb5 A1 Br Al
 have hpv := coProve_at (As.o.zoneS (S' := fun k => W2.heap.size ≤ k ∧ k < W5.heap.size) (fun k h1 h2 => ⟨h2, h1⟩)) (Am.o W5 Av.o) (fun k hk => Nat.le_trans (Am.o W2 Af.o).low hk.1) hL hL_ok
 rw [← A9.o] at hpv
 have Bz := Hh hpv
 clear hpv
 go_wp2_with (refine wpList_load_midG rfl 32 (.tmp 36) rfl gp 0 rfl LC _ Bi.o Tryz.underlying32 rfl Bl.o ?_)
 refine Bz.o.mono ?_
 rintro _ W6 hpp
 obtain ⟨Ah, hk6, p, q, T, rfl, hop, Ab, hoq⟩ := prove_yes hpp (List.mem_singleton.2 rfl)
 have hpn : p.n = 0 := alone_none head_low rfl hop
 have hqn : q.n = 0 := by
  rw [head_top] at Ab
  exact alone_none (List.perm_singleton.1 Ab) rfl hoq
 have hU : ∀ k, (∃ e ∈ E, Z0 e.2 k) → W2.heap.size ≤ k ∧ k < W5.heap.size := fun k ⟨e, he, hz⟩ => (Ah.zone e he k hz).2.1
 have hb6 : Below w.heap.size w W6 := Av.o.trans (hk6.below Av.o.size (fun k e => Nat.le_trans Af.o.size (hU k e).1))
 have A6 := hk6.size
 have B5 := Hh (show leadR KS SS p q hL = .ok (anchorOf KS SS [hL]) from lead_made (Am.o W5 Av.o).len Ah.fine (List.mem_singleton.2 rfl) Ab hop hoq)
 have A4 := rangeAt_kept Bi.o hk6 (fun e => by have := (hU gp e).1; have := Bt.o.2; omega)
 have Bm := Hh (show (Tryz.prog.info? 41).map (·.size) = some (waysC p q).toArray.size ∧ zw.size = (waysC p q).toArray.size ∧ (Tryz.prog.info? 41).map (·.size) = some (waysC p q).length by
  have := waysC_len hop.at_.hash hoq.at_.hash
  exact ⟨by rw [List.size_toArray, this]; kernel_rfl, by rw [B9.o, List.size_toArray, this], by rw [this]; kernel_rfl⟩)
 have Bv := Hh (show ∀ C, Has ((W6.alloc (.cells zw 41)).setRow W6.heap.size C) W6.heap.size 41 C ∧ Below W6.heap.size W6 ((W6.alloc (.cells zw 41)).setRow W6.heap.size C) from fun C => by
  rw [World.setRow_alloc_new]
  exact ⟨Has.new W6 _ _, (Below.refl _ _).alloc (Nat.le_refl _) _⟩)
 have Ay := Hh Ah
 have Bw := Hh hop
 have Bx := Hh hoq
 have HU := Hh hU
 have Bd := Hh hb6
 have By := Hh (And.intro hpn hqn)
 have Az := Hh A4
 have Bj := Hh A6
 clear hpp Ah hk6 hop Ab hoq hpn hqn hU hb6 A4 A6 Bz Av As Bi ha5
 go_upto_region 6 with (refine wpList_store_row rfl 41 (.tmp 4) (.tmp 39) rfl W6.heap.size (waysC p q).toArray rfl rfl 41 zw (heap_alloc_new W6 _) Bm.o.1 Bm.o.2.1 (waysC_one p q) ?_)
 obtain ⟨h7, hb7⟩ := Bv.o (waysC p q).toArray
 clear Bv
 have hcm := Ay.o.quiet hb7
 have hop := Bw.o.below hb7
 have hoq := Bx.o.below hb7
 have Bb := Hh (Bd.o.trans (hb7.mono Bd.o.size))
 have A0 := Hh (rangeAt_kept Az.o (Kept.of_below (S := fun _ => False) hb7) (fun e => e))
 clear hb7 Ay Bw Bx Bd Az
 generalize (W6.alloc (.cells zw 41)).setRow W6.heap.size (waysC p q).toArray = W7 at h7 hcm hop hoq Bb A0 ⊢
 obtain ⟨B4, hB4⟩ : ∃ y, y = W6.heap.size := ⟨_, rfl⟩
 have hB45 : W5.heap.size ≤ B4 := by rw [hB4]; exact Bj.o
 rw [← hB4] at h7 ⊢
 clear hB4
 have Aa := Hh (show ∀ v, Kept (fun k => ∃ e ∈ E, Z0 e.2 k) W7 v → v.cell? ⟨B4, 32, none⟩ = some (.slice p.a 0 p.c) ∧ v.cell? ⟨B4, 65, none⟩ = some (.slice q.a 0 q.c) ∧ v.rangeAt B4 0 (waysC p q) ∧ v.rangeAt gp 0 LC ∧ Tabs KS SS v from fun v hv => by
  have h8 := h7.kept hv (fun e => by have := (HU.o B4 e).2; omega)
  obtain ⟨a1, a2⟩ := ways_at hop.at_.hash h8
  have b1 := a1 32 _ (pcells_row hop.at_.hash p.a p.n p.c)
  have b2 := a2 32 _ (pcells_row hoq.at_.hash q.a q.n q.c)
  rw [By.o.1] at b1
  rw [By.o.2] at b2
  exact ⟨b1, b2, h8.row0, rangeAt_kept A0.o hv (fun e => by have := (HU.o gp e).1; have := Bt.o.2; omega), (Am.o W7 Bb.o).kept hv (fun k e => Nat.le_trans (Am.o W2 Af.o).low (HU.o k e).1)⟩)
 have B2 := Hh (show ∀ k, (W2.heap.size ≤ k ∧ k < W5.heap.size) → 2 + 1 ≤ k from fun k hk => Nat.le_trans (Am.o W2 Af.o).low hk.1)
 obtain ⟨AN, hAN⟩ : ∃ y, y = anchorOf KS SS [hL] := ⟨_, rfl⟩
 obtain ⟨Bk, hLAN⟩ : ∃ y, y = bcells AN := ⟨_, rfl⟩
 have hANh : IsHash AN := by rw [hAN, head_anchor]; exact anchorK_hash KS SS ss_len _
 have Bc := Hh hANh
 have Bh := Hh hLAN
 have Be := Hh hAN
 have B7 := Hh (show ∀ v, (binOp .neq 27 (.agg Bk.toArray) (.agg ZH.toArray)).run Tryz.prog v = .ok (.bool true) v from fun v => by
  rw [run_neq_struct, hLAN, Bq.o, hash_eqC AN hZ hANh hZ_hash v, decide_eq_false (by rw [hAN]; exact head_ne)]
  rfl)
 have B3 := Hh (show ∀ v, (eqGuard .neq 27 (.tmp 69) (.tmp 70) (.agg Bk.toArray) (.agg ZH.toArray)).run Tryz.prog v = .ok () v from fun v => by first | rfl | simp [eqGuard])
 have hS0 : Kept (fun k => ∃ e ∈ E, Z0 e.2 k) W7 W7.drew := (Kept.refl _ _).drew
 have hcm' := hcm
 replace hcm := hcm.quiet (Below.refl W7.heap.size W7).drew
 replace hop := hop.below (Below.refl W7.heap.size W7).drew
 replace hoq := hoq.below (Below.refl W7.heap.size W7).drew
 clear hcm' hAN hLAN hANh h7 hB45
 refine wp_region_noPanic ?_
 refine wp_region_held_drew (S := (fun v => Kept (fun k => ∃ e ∈ E, Z0 e.2 k) W7 v)) (by kernel_rfl) hS0 (fun hH0 => ?_)
 apply tl 0 rfl ?hv hH0 ?_
 case hv => intro w' hS; go_simp; try rfl
 simp only [qc]
 apply tl 1 rfl ?hv hH0 ?_
 case hv => intro w' hS; have z0 := (Aa.o w' hS).1; have z1 := (Aa.o w' hS).2.1; have z2 := Ac.o w'; go_simp; try rfl
 simp only [qc]
 apply tl 2 rfl ?hv hH0 ?_
 case hv => intro w' hS; go_simp; try rfl
 simp only [qc]
 apply tl 3 rfl ?hv hH0 ?_
 case hv => intro w' hS; go_simp; try rfl
 simp only [qc]
 apply tl 4 rfl ?hv hH0 ?_
 case hv => intro w' hS; go_simp; try rfl
 simp only [qc]
 apply tl 5 rfl ?hv hH0 ?_
 case hv => intro w' hS; have z0 := (Aa.o w' hS).1; have z1 := (Aa.o w' hS).2.1; have z2 := Ac.o w'; go_simp; try rfl
 simp only [qc]
 apply tl 6 rfl ?hv hH0 ?_
 case hv => intro w' hS; have z0 := (Aa.o w' hS).1; have z1 := (Aa.o w' hS).2.1; have z2 := Ac.o w'; go_simp; try rfl
 simp only [qc]
 apply tl 7 rfl ?hv hH0 ?_
 case hv => intro w' hS; have z0 := (Aa.o w' hS).1; have z1 := (Aa.o w' hS).2.1; have z2 := Ac.o w'; go_simp; try rfl
 simp only [qc]
 apply tl 8 rfl ?hv hH0 ?_
 case hv => intro w' hS; go_simp; try rfl
 simp only [qc]
 apply tl 9 rfl ?hv hH0 ?_
 case hv => intro w' hS; go_simp; try rfl
 simp only [qc]
 apply tl 10 rfl ?hv hH0 ?_
 case hv => intro w' hS; go_simp; try rfl
 simp only [qc]
 apply tl 11 rfl ?hv hH0 ?_
 case hv => intro w' hS; go_simp; try rfl
 simp only [qc]
 apply tl 12 rfl ?hv hH0 ?_
 case hv => intro w' hS; have z0 := (Aa.o w' hS).1; have z1 := (Aa.o w' hS).2.1; have z2 := Ac.o w'; go_simp; try rfl
 simp only [qc]
 apply tl 13 rfl ?hv hH0 ?_
 case hv => intro w' hS; have z0 := (Aa.o w' hS).1; have z1 := (Aa.o w' hS).2.1; have z2 := Ac.o w'; go_simp; try rfl
 simp only [qc]
 apply tl 14 rfl ?hv hH0 ?_
 case hv => intro w' hS; have z0 := (Aa.o w' hS).1; have z1 := (Aa.o w' hS).2.1; have z2 := Ac.o w'; go_simp; try rfl
 simp only [qc]
 apply tl 15 rfl ?hv hH0 ?_
 case hv => intro w' hS; go_simp; try rfl
 simp only [qc]
 apply tl 16 rfl ?hv hH0 ?_
 case hv => intro w' hS; go_simp; try rfl
 simp only [qc]
 refine tk 17 (v := (.agg (waysC p q).toArray)) rfl (yieldsIf_load_mid (by kernel_rfl) 41 (.tmp 4) rfl B4 0 rfl (waysC p q) _ (fun w' h => (Aa.o _ h).2.2.1) Tryz.underlying41 rfl Bm.o.2.2) hH0 ?_
 simp only [qc]
 apply tl 18 rfl ?hv hH0 ?_
 case hv => intro w' hS; go_simp; try rfl
 simp only [qc]
 apply tl 20 rfl ?hv hH0 ?_
 case hv => intro w' hS; go_simp; try rfl
 simp only [qc]
 apply tl 21 rfl ?hv hH0 ?_
 case hv => intro w' hS; have z0 := (Aa.o w' hS).1; have z1 := (Aa.o w' hS).2.1; have z2 := Ac.o w'; go_simp; try rfl
 simp only [qc]
 refine tk 22 (v := (.agg LC.toArray)) rfl (yieldsIf_load_mid (by kernel_rfl) 32 (.tmp 62) rfl gp 0 rfl LC _ (fun w' h => (Aa.o _ h).2.2.2.1) Tryz.underlying32 rfl Bl.o) hH0 ?_
 simp only [qc]
 refine rdy [19] (ar1 rfl fun KK hKK => ?_)
 go_simp
 have han := coAnch_at hcm (Aa.o _ hH0).2.2.2.2 B2.o
 rw [← Be.o] at han
 unfold arr at han
 rw [← Bh.o] at han
 refine han.mono ?_
 rintro _ xa ⟨rfl, hcl, hkl⟩
 have A7 : Kept (fun k => ∃ e ∈ E, Z0 e.2 k) W7 xa := Kept.trans hH0 hkl
 replace hcm := hcl
 replace hop := hop.kept2 hkl (fun k e => .inl (HU.o k e).2)
 replace hoq := hoq.kept2 hkl (fun k e => .inl (HU.o k e).2)
 clear han hcl hkl
 refine hKK _ _ A7 fun hH1 => ?_
 clear hKK KK
 try simp only [qc]
 refine rdy [23] (ar1 rfl fun KK hKK => ?_)
 go_simp
 have hck := coCheck_is KS SS xa (Aa.o _ hH1).2.2.2.2 p q hop.at_ hoq.at_ AN Bc.o hL hL_ok
 rw [B5.o, ← Be.o, show chkR (.ok AN) AN = 0 from if_pos rfl, ← A9.o] at hck
 unfold arr at hck
 rw [← Bh.o] at hck
 refine hck.mono ?_
 rintro _ xc ⟨rfl, hbc⟩
 have hsc : Kept (fun k => ∃ e ∈ E, Z0 e.2 k) W7 xc := Kept.trans hH1 (Kept.of_below hbc)
 replace hcm := hcm.quiet hbc
 replace hop := hop.below hbc
 replace hoq := hoq.below hbc
 clear hck hbc
 refine hKK _ _ hsc fun hH2 => ?_
 clear hKK KK
 try simp only [qc]
 apply tl 24 rfl ?hv hH2 ?_
 case hv => intro w' hS; have z0 := (Aa.o w' hS).1; have z1 := (Aa.o w' hS).2.1; have z2 := Ac.o w'; go_simp; try rfl
 simp only [qc]
 apply tl 25 rfl ?hv hH2 ?_
 case hv => intro w' hS; go_simp; try rfl
 simp only [qc]
 apply tl 26 rfl ?hv hH2 ?_
 case hv => intro w' hS; go_simp; try rfl
 simp only [qc]
 apply tl 27 rfl ?hv hH2 ?_
 case hv => intro w' hS; go_simp; try rfl
 simp only [qc]
 refine tk 29 (v := (.agg ZH.toArray)) rfl (yieldsIf_build (by kernel_rfl) 27 #[] rfl #[] (by kernel_rfl) _ (fun w' _ => Bu.o w')) hH2 ?_
 simp only [qc]
 refine rdy [28] (ar1 rfl fun KK hKK => ?_)
 go_simp
 have han := coAnch_at hcm (Aa.o _ hH2).2.2.2.2 B2.o
 rw [← Be.o] at han
 unfold arr at han
 rw [← Bh.o] at han
 refine han.mono ?_
 rintro _ xd ⟨rfl, hcl, hkl⟩
 have Aq : Kept (fun k => ∃ e ∈ E, Z0 e.2 k) W7 xd := Kept.trans hH2 hkl
 replace hcm := hcl
 replace hop := hop.kept2 hkl (fun k e => .inl (HU.o k e).2)
 replace hoq := hoq.kept2 hkl (fun k e => .inl (HU.o k e).2)
 clear han hcl hkl
 refine hKK _ _ Aq fun hH3 => ?_
 clear hKK KK
 try simp only [qc]
 refine tl 30 (v := (.bool true)) rfl (by intro w' hS; have z7 := B7.o w'; have z8 := B3.o w'; revert z7 z8; generalize Value.agg Bk.toArray = VX; generalize Value.agg ZH.toArray = VY; intro z7 z8; go_simp; try rfl) hH3 ?_
 simp only [qc]
 apply tl 31 rfl ?hv hH3 ?_
 case hv => intro w' hS; go_simp; try rfl
 simp only [qc]
 apply tl 32 rfl ?hv hH3 ?_
 case hv => intro w' hS; go_simp; try rfl
 simp only [qc]
 refine wpAnyH_done (by kernel_rfl) ?_ _
 refine NoPanic.normal ?_
 have Bf := Hh (show Below w.heap.size w xd from Bb.o.trans (Aq.below Bb.o.size (fun k e => Nat.le_trans Af.o.size (HU.o k e).1)))
 clear hcm hop hoq A7 hsc Aq hS0
 go_wp2_with fail
 go_ret
 exact ⟨rfl, Bf.o⟩
/- The walk of the reference's Size. -/

theorem bigN_succ (x i : Nat) : bigN x (i + 1) = (x / 256 ^ i % 256) :: bigN x i := by
 apply List.ext_getElem?
 intro j
 cases j with
 | zero =>
  rw [bigN_at x (i + 1) 0 (by omega), List.getElem?_cons_zero]
  have : (2 : Nat) ^ (8 * (i + 1 - 1 - 0)) = 256 ^ i := by rw [show 8 * (i + 1 - 1 - 0) = 8 * i by omega, Nat.pow_mul]
  rw [this]
 | succ j =>
  rw [List.getElem?_cons_succ]
  by_cases h : j < i
  · rw [bigN_at x (i + 1) (j + 1) (by omega), bigN_at x i j h, show i + 1 - 1 - (j + 1) = i - 1 - j by omega]
  · rw [List.getElem?_eq_none (by rw [bigN_len]; omega), List.getElem?_eq_none (by rw [bigN_len]; omega)]
structure RzW (w : World) (x q n : Nat) (H i : Nat) (a : Option Addr) (c : Nat) (wr : World) : Prop where
 tail : Bytes wr wr.heap.size (.slice a i c) (bigN x i)
 head : wr.ownsRow w.heap.size 5 1 (.slice (some ⟨H, 0, none⟩) 1 1) 1 (bcells [q])
 bel : Below w.heap.size w wr
theorem RzW.round {w : World} {x q n H i : Nat} {a : Option Addr} {c : Nat} {wr w2 : World} {oa : Option Addr} {oc b : Nat} (h : RzW w x q n H i a c wr) (hb : x / 256 ^ i % 256 = b)
   (ho : w2.ownsRow wr.heap.size 5 1 (.slice oa (1 + i) oc) (1 + i) ([Value.int .u8 (b : Int)] ++ bcells (bigN x i))) (hg : (wr.alloc (.cells #[.int .u8 (b : Int)] 5)).grownBy w2 (Value.slice (some ⟨wr.heap.size, 0, none⟩) 1 1).ownBlock) :
   RzW w x q n H (i + 1) oa oc w2 := by
 have hb256 : b < 256 := by rw [← hb]; exact Nat.mod_lt _ (by decide)
 have Aa : Bytes w2 w2.heap.size (.slice oa (i + 1) oc) (bigN x (i + 1)) := by
   rw [show 1 + i = i + 1 by omega] at ho
   have e : [Value.int .u8 (b : Int)] ++ bcells (bigN x i) = bcells (bigN x (i + 1)) := by rw [bigN_succ, hb]; rfl
   rw [e] at ho
   exact own_bytes ho (bigN_len _ _) (bigN_lt _ _) (Nat.le_refl _)
 have hlt := own_lt h.head H rfl
 have hbl : Below w.heap.size w (wr.alloc (.cells #[.int .u8 (b : Int)] 5)) := h.bel.alloc h.bel.size _
 refine ⟨Aa, own_kept (h.head.alloc _) (Kept.of_grown hg) (fun k e e2 => ?_), hbl.grown hg hbl.size (fun k e => ?_)⟩
 · have e' : some H = some k := e
   have e2' : some k = some wr.heap.size := e2
   injection e' with e'
   injection e2' with e2'
   omega
 · have e' : some wr.heap.size = some k := e
   injection e' with e'
   have := h.bel.size
   omega
/- The walk of the reference's Decode. -/

theorem valr_kept {w w' : World} {base b2 : Nat} {v : Value} {n m : Nat} {xs cs : List Value} {vo : Value} (h : w.ownsRow base 5 1 v n xs) (ho : w.ownsRow b2 88 2 vo m cs) (hg : w.grownBy w' vo.ownBlock) : w'.ownsRow base 5 1 v n xs :=
 own_kept h (Kept.of_grown hg) (fun k e e2 => own_own_ne h ho (by decide) k e e2.symm)
structure TdR (w : World) (b0 : List Nat) (f k : Nat) (ms : List RecM) (oa : Option Addr) (oc : Nat) (wr : World) : Prop where
 go : tdec b0 = decF f (ms.map RecM.r) (b0.drop k)
 kl : k ≤ b0.length
 lt : b0.length - k < f
 own : wr.ownsRow w.heap.size 88 2 (.slice oa ms.length oc) ms.length (ms.flatMap RecM.cells)
 vals : ∀ x ∈ ms, x.t < 18446744073709551616 ∧ wr.ownsRow w.heap.size 5 1 (.slice x.a x.v.length x.c) x.v.length (bcells x.v) ∧ (∀ y ∈ x.v, y < 256) ∧ x.v.length ≤ 65536
 few : ms.length ≤ 256
 bel : Below w.heap.size w wr
theorem TdR.below {w wr w' : World} {b0 : List Nat} {f k : Nat} {ms : List RecM} {oa : Option Addr} {oc : Nat} (h : TdR w b0 f k ms oa oc wr) (hb : Below wr.heap.size wr w') : TdR w b0 f k ms oa oc w' :=
 ⟨h.go, h.kl, h.lt, own_kept h.own (Kept.of_below (S := fun _ => False) hb) (fun _ _ e => e), fun x hx => ⟨(h.vals x hx).1, own_kept (h.vals x hx).2.1 (Kept.of_below (S := fun _ => False) hb) (fun _ _ e => e), (h.vals x hx).2.2⟩, h.few, h.bel.trans (hb.mono h.bel.size)⟩
theorem TdR.step {w wr w1 w2 : World} {b0 : List Nat} {f f' k k' : Nat} {ms : List RecM} {oa oa' xa : Option Addr} {oc oc' xc tv : Nat} {bs : List Nat} {C0 : Obj} (h : TdR w b0 f k ms oa oc wr)
   (hx : w1.ownsRow wr.heap.size 5 1 (.slice xa bs.length xc) bs.length (bcells bs)) (hg1 : (wr.alloc C0).grownBy w1 (some wr.heap.size)) (hbs : ∀ y ∈ bs, y < 256) (hbl : bs.length ≤ 65536) (htv : tv < 18446744073709551616)
   (ho : w2.ownsRow w.heap.size 88 2 (.slice oa' (ms.length + 1) oc') (ms.length + 1) (ms.flatMap RecM.cells ++ RecM.cells (⟨tv, xa, bs, xc⟩ : RecM))) (C : Obj) (hg2 : (w1.alloc C).grownBy w2 (Value.slice oa ms.length oc).ownBlock)
   (hgo : tdec b0 = decF f' ((ms ++ [(⟨tv, xa, bs, xc⟩ : RecM)]).map RecM.r) (b0.drop k')) (hkl : k' ≤ b0.length) (hlt : b0.length - k' < f') (hfew : ms.length + 1 ≤ 256) :
   TdR w b0 f' k' (ms ++ [(⟨tv, xa, bs, xc⟩ : RecM)]) oa' oc' w2 := by
 have h0 := h.below ((Below.refl wr.heap.size wr).alloc (Nat.le_refl _) C0)
 have hk1 : Kept (fun k => some k = (some wr.heap.size : Option Nat)) (wr.alloc C0) w1 := Kept.of_grown hg1
 have hne : ∀ {e : TypeId} {s n : Nat} {v : Value} {xs : List Value}, wr.ownsRow w.heap.size e s v n xs → w1.ownsRow w.heap.size e s v n xs := fun hv => own_kept (hv.alloc C0) hk1 (fun k e e2 => by
   have := own_lt hv k e
   injection e2 with e2
   omega)
 have hb1 : Below w.heap.size w w1 := h0.bel.grown hg1 h0.bel.size (fun k e => by injection e with e; have := h.bel.size; omega)
 have Ab : Below w.heap.size w (w1.alloc C) := hb1.alloc (by exact hb1.size) C
 have Aa : (w1.alloc C).ownsRow w.heap.size 88 2 (.slice oa ms.length oc) ms.length (ms.flatMap RecM.cells) := (hne h.own).alloc C
 refine ⟨hgo, hkl, hlt, ?_, ?_, by rw [List.length_append]; exact hfew, Ab.grown hg2 (by exact Ab.size) (own_blk Aa)⟩
 · rw [List.flatMap_append, List.length_append]
   simpa using ho
 · intro x hx'
   rcases List.mem_append.1 hx' with h1 | h1
   · obtain ⟨p1, p2, p3, p4⟩ := h.vals x h1
     exact ⟨p1, valr_kept ((hne p2).alloc C) Aa hg2, p3, p4⟩
   · rw [List.mem_singleton.1 h1]
     exact ⟨htv, valr_kept ((own_base hx h.bel.size).alloc C) Aa hg2, hbs, hbl⟩
theorem TdR.done {w wr : World} {b0 : List Nat} {f k : Nat} {ms : List RecM} {oa : Option Addr} {oc : Nat} (h : TdR w b0 f k ms oa oc wr) (hk : b0.length ≤ k) : TdP w (tdec b0) (.returned (.tuple #[.slice oa ms.length oc, .int .i64 0])) wr := by
 obtain ⟨f', rfl⟩ : ∃ f', f = f' + 1 := ⟨f - 1, by have := h.lt; omega⟩
 rw [h.go, decF_stop (List.drop_eq_nil_iff.2 hk)]
 obtain ⟨p1, p2⟩ := own_rows h.own rfl (fun x _ => rfl)
 exact ⟨ms, oa, oc, rfl, rfl, ⟨p1, fun x hx => ⟨(h.vals x hx).1, by have := (h.vals x hx).2.2.2; omega, own_bytes (h.vals x hx).2.1 rfl (h.vals x hx).2.2.1 (Nat.le_refl _)⟩⟩, fun A e => (p2 A e).1, h.few, h.bel⟩
/- The walk of CommitReads. -/

def tdL : Except Nat (List Rec) → List Rec
 | .ok rs => rs
 | .error _ => []
def tdX : Except Nat (List Rec) → Nat
 | .ok _ => 0
 | .error x => x
def wdE : Except Nat (List Nat × List Nat) → Nat
 | .ok _ => 0
 | .error x => x
theorem TdP.all {w w' : World} {R : Except Nat (List Rec)} {e : Ending} (h : TdP w R e w') : ∃ (ms : List RecM) (a : Option Addr) (c : Nat), e = .returned (.tuple #[.slice a ms.length c, .int .i64 (tdX R : Int)]) ∧ ms.map RecM.r = tdL R ∧ RecsAt w' a ms.length ms ∧ Below w.heap.size w w' := by
 cases R with
 | error x => exact ⟨[], none, 0, h.1, rfl, ⟨⟨rfl, fun x hx => (by cases hx), fun h => absurd h (Nat.lt_irrefl 0)⟩, fun x hx => (by cases hx)⟩, h.2⟩
 | ok rs =>
  obtain ⟨ms, a, c, h1, h2, h3, _, _, h4⟩ := h
  exact ⟨ms, a, c, h1, h2, h3, h4⟩
theorem WdP.all {w w' : World} {R : Except Nat (List Nat × List Nat)} {e : Ending} (h : WdP w R e w') : ∃ p q : Pf, e = .returned (.tuple #[.agg (waysC p q).toArray, .int .i64 (wdE R : Int)]) ∧ p.At w' ∧ q.At w' ∧ Below w.heap.size w w' ∧
  ((∃ x, R = .error x ∧ p = zPf ∧ q = zPf) ∨ ∃ u v, R = .ok (u, v) ∧ p.b = decB u ∧ p.xs = decX u ∧ q.b = decB v ∧ q.xs = decX v ∧ (∀ A, p.a = some A → w.heap.size ≤ A.block) ∧ (∀ A, q.a = some A → w.heap.size ≤ A.block)) := by
 cases R with
 | error x => exact ⟨zPf, zPf, h.2, zPf_at _, zPf_at _, h.1, .inl ⟨x, rfl, rfl, rfl⟩⟩
 | ok uv =>
  obtain ⟨h0, p, q, h1, h2, h3, h4, h5, h6, h7, h8, h9⟩ := h
  exact ⟨p, q, h1, h2, h3, h0, .inr ⟨uv.1, uv.2, rfl, h4, h5, h6, h7, h8, h9⟩⟩
section
/- The plain law of CommitOrders: the order of the leaves is nothing to what is said of them. -/

variable {K s0 : List Wd} {ls ls' : List LeafT} {l : LeafT}
def addAll (K s0 : List Wd) (ls : List LeafT) : List LeafT := ls.foldl (addC K s0) []
theorem addAll_snoc (ls : List LeafT) (l : LeafT) : addAll K s0 (ls ++ [l]) = addC K s0 (addAll K s0 ls) l := by
 unfold addAll
 rw [List.foldl_append]
 rfl
theorem addAll_take {k : Nat} (h : ls[k]? = some l) : addAll K s0 (ls.take (k + 1)) = addC K s0 (addAll K s0 (ls.take k)) l := by
 rw [List.take_add_one, h]
 exact addAll_snoc _ _
theorem addC_len (cs : List LeafT) (l : LeafT) : (addC K s0 cs l).length ≤ cs.length + 1 := by
 unfold addC
 split
 · simp
 · omega
theorem addAll_len (ls : List LeafT) : (addAll K s0 ls).length ≤ ls.length := by
 refine list_snoc (P := fun ls => (addAll K s0 ls).length ≤ ls.length) (Nat.le_refl _) (fun xs x h => ?_) ls
 rw [addAll_snoc]
 have := addC_len (K := K) (s0 := s0) (addAll K s0 xs) x
 simp
 omega
theorem addAll_fine (ls : List LeafT) : (∀ l ∈ ls, l.ok) → Fine K s0 (addAll K s0 ls) := by
 refine list_snoc (P := fun ls => (∀ l ∈ ls, l.ok) → Fine K s0 (addAll K s0 ls)) (fun _ => fine_nil) (fun xs x h hok => ?_) ls
 rw [addAll_snoc]
 exact (h (fun l hl => hok l (List.mem_append.2 (.inl hl)))).add (hok x (by simp))
theorem Fine.perm (h : Fine K s0 ls) (hp : ls'.Perm ls) : Fine K s0 ls' :=
 ⟨fun l hl => h.ok l (hp.mem_iff.1 hl), fun l hl => h.good l (hp.mem_iff.1 hl), (hp.map _).nodup_iff.2 h.keys, by rw [hp.length_eq]; exact h.len, by rw [am_perm hp]; exact h.fit⟩
end
end Go.Proofs.YtknfbccbdiidjaaGreatDoor
