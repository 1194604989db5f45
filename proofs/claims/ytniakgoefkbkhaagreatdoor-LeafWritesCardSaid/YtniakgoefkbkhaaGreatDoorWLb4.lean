/- The walk of leaf's Decode. -/
import Derived.Test.YtniakgoefkbkhaaGreatDoorWs
import Derived.Test.YtniakgoefkbkhaaGreatDoorWLb3
import Derived.Test.YtniakgoefkbkhaaGreatDoorWLf3
namespace Go.Proofs.YtniakgoefkbkhaaGreatDoor
set_option linter.unusedVariables false
set_option linter.unusedSimpArgs false
open Go.ChangeShapes Go.WideShapes Go.ChangeAt Go.RowKit Go.Maps

structure SzAt (w : World) : Prop where
 at_ : ∀ i, i < 5 → w.cell? ⟨0, i, none⟩ = some (.int .i64 (([32, 8, 32, 1, 40].getD i 0 : Nat) : Int))
 lt : 0 < w.heap.size
theorem SzAt.below {w w' : World} (h : SzAt w) (hb : Below w.heap.size w w') : SzAt w' :=
 ⟨fun i hi => cell_kept (Kept.of_below (S := fun _ => False) hb) (h.at_ i hi) (fun h => h), Nat.lt_of_lt_of_le h.lt hb.size⟩
theorem fst_up {rs : List Rec} {k : Nat} (h : fstBad rs k ≠ 0) : ∀ j, k ≤ j → fstBad rs j = fstBad rs k := by
 intro j hj
 induction j with
 | zero => rw [show k = 0 by omega]
 | succ j ih =>
  by_cases e : k = j + 1
  · rw [e]
  · have := ih (by omega)
    show (if fstBad rs j ≠ 0 then fstBad rs j else _) = _
    rw [if_pos (by rw [this]; exact h), this]
theorem fst_new {rs : List Rec} {k e : Nat} (h : fstBad rs k = 0) (hk : k < 5) (hb : recBad k (rs.getD k ⟨0, []⟩) = e) (he : e ≠ 0) : fstBad rs 5 = e := by
 have h1 : fstBad rs (k + 1) = e := by show (if fstBad rs k ≠ 0 then _ else _) = _; rw [if_neg (by omega), hb]
 rw [fst_up (k := k + 1) (by rw [h1]; exact he) 5 (by omega), h1]
theorem fst_ok {rs : List Rec} {k : Nat} (h : fstBad rs k = 0) (hb : recBad k (rs.getD k ⟨0, []⟩) = 0) : fstBad rs (k + 1) = 0 := by
 show (if fstBad rs k ≠ 0 then _ else _) = _; rw [if_neg (by omega), hb]
theorem arr_at (a : Option Addr) (n c : Nat) (h : 32 ≤ n) (w : World) : (Instr.arrayAt 25 (.slice a n c)).run Tryz.prog w = .ok (.pointer a) w := by
 unfold Instr.arrayAt
 simp [run_underlying Tryz.underlying25]
 omega
theorem build_node (h : List Nat) (hh : h.length = 32) (s : Nat) (w : World) : (Instr.build 39 #[(0, .agg (bcells h).toArray), (1, .int .u64 (s : Int))]).run Tryz.prog w = .ok (.agg (ndV ⟨h, s⟩).toArray) w := by
 obtain ⟨d0, d1, d2, d3, d4, d5, d6, d7, d8, d9, d10, d11, d12, d13, d14, d15, d16, d17, d18, d19, d20, d21, d22, d23, d24, d25, d26, d27, d28, d29, d30, d31, rfl⟩ := thirty_two h hh
 exact run_build w 39 _ _ (by kernel_rfl)
theorem build_leaf (i o h : List Nat) (hi : i.length = 32) (ho : o.length = 32) (hh : h.length = 32) (am s : Nat) (pl : Int) (w : World) : (Instr.build 41 #[(0, .agg (bcells i).toArray), (1, .int .u64 (am : Int)), (2, .agg (bcells o).toArray), (3, .int .i64 pl), (4, .agg (ndV ⟨h, s⟩).toArray)]).run Tryz.prog w = .ok (.agg (LeafT.cells ⟨i, am, o, pl, ⟨h, s⟩⟩).toArray) w := by
 obtain ⟨d0, d1, d2, d3, d4, d5, d6, d7, d8, d9, d10, d11, d12, d13, d14, d15, d16, d17, d18, d19, d20, d21, d22, d23, d24, d25, d26, d27, d28, d29, d30, d31, rfl⟩ := thirty_two i hi
 obtain ⟨e0, e1, e2, e3, e4, e5, e6, e7, e8, e9, e10, e11, e12, e13, e14, e15, e16, e17, e18, e19, e20, e21, e22, e23, e24, e25, e26, e27, e28, e29, e30, e31, rfl⟩ := thirty_two o ho
 obtain ⟨f0, f1, f2, f3, f4, f5, f6, f7, f8, f9, f10, f11, f12, f13, f14, f15, f16, f17, f18, f19, f20, f21, f22, f23, f24, f25, f26, f27, f28, f29, f30, f31, rfl⟩ := thirty_two h hh
 exact run_build w 41 _ _ (by kernel_rfl)
theorem rd_pos {b : List Nat} {p : Nat × Nat} (h : rdB b = .ok p) : 0 < p.2 := by
 unfold rdB at h
 split at h
 · cases h
 · split at h
   · cases h; exact Nat.one_pos
   · split at h
     · cases h
     · split at h
       · cases h
       · cases h; exact Nat.succ_pos _
theorem decS_less {acc : List Rec} {b : List Nat} {p : List Rec × List Nat} (h0 : ¬ b = []) (h : decS acc b = .ok p) : p.2.length < b.length := by
 have hl : 0 < b.length := List.length_pos_iff.2 h0
 unfold decS at h
 cases h1 : rdB b with
 | error e1 => rw [h1] at h; cases h
 | ok p1 =>
  have hp := rd_pos h1
  rw [h1] at h
  dsimp only at h
  split at h
  · cases h
  · cases h2 : rdB (b.drop p1.2) with
    | error e2 => rw [h2] at h; cases h
    | ok q =>
     rw [h2] at h
     dsimp only at h
     split at h
     · cases h
     · split at h
       · cases h
       · split at h
         · cases h
         · cases h
           show (((b.drop p1.2).drop q.2).drop q.1).length < b.length
           rw [List.length_drop, List.length_drop, List.length_drop]
           omega
theorem decF_nz : ∀ (f : Nat) (acc : List Rec) (b : List Nat), decF f acc b = .error 0 → b.length < f → False
 | 0, _, _, _, h => absurd h (Nat.not_lt_zero _)
 | f + 1, acc, b, h, hl => by
  by_cases h0 : b = []
  · rw [decF_stop h0] at h; cases h
  · cases hs : decS acc b with
    | error e =>
     rw [decF_err h0 hs] at h
     cases h
     unfold decS at hs
     cases h1 : rdB b with
     | error e1 => rw [h1] at hs; cases hs; exact rd_nz h1 rfl
     | ok p =>
      rw [h1] at hs
      dsimp only at hs
      split at hs
      · cases hs
      · cases h2 : rdB (b.drop p.2) with
        | error e2 => rw [h2] at hs; cases hs; exact rd_nz h2 rfl
        | ok q =>
         rw [h2] at hs
         dsimp only at hs
         split at hs
         · cases hs
         · split at hs
           · cases hs
           · split at hs <;> cases hs
    | ok p =>
     rw [decF_step h0 hs] at h
     exact decF_nz f p.1 p.2 h (by have := decS_less h0 hs; omega)
theorem tdec_nz {b : List Nat} (h : tdec b = .error 0) : False := decF_nz _ _ _ h (Nat.lt_succ_self _)
def zLeaf : LeafT := ⟨List.replicate 32 0, 0, List.replicate 32 0, 0, zNd⟩
def LdP (w : World) (R : Except Nat LeafT) (e : Ending) (w' : World) : Prop :=
 Below w.heap.size w w' ∧ match R with
  | .ok l => e = .returned (.tuple #[.agg l.cells.toArray, .int .i64 0]) ∧ l.ok
  | .error x => e = .returned (.tuple #[.agg zLeaf.cells.toArray, .int .i64 (x : Int)])
theorem rec_open {w : World} {r : RecM} (h : r.ok w) (n : Nat) (hn : r.v.length = n) (h0 : 0 < n) : ∃ bg bo, r.a = some ⟨bg, bo, none⟩ ∧ n ≤ r.c ∧ (∀ y ∈ r.v, y < 256) ∧ w.rangeAt bg bo (bcells r.v) := by
 obtain ⟨q1, q2, q3, q4⟩ := h.b.openT
 obtain ⟨bg, bo, e, hlt, hc⟩ := q4 (by omega)
 refine ⟨bg, bo, e, by omega, q3, fun i u hu => ?_⟩
 have hi := (List.getElem?_eq_some_iff.1 hu).1
 rw [bcells_length] at hi
 rw [hc i hi, ← hu, bcells_get _ i hi]
theorem rec_row {w : World} {b o n : Nat} {xs : List RecM} (h : RecsAt w (some ⟨b, o, none⟩) n xs) (k : Nat) (x : RecM) (hx : xs[k]? = some x) : w.rangeAt b (o + k * 2) x.cells := by
 have hk : k < n := by rw [← h.row.len]; exact (List.getElem?_eq_some_iff.1 hx).1
 obtain ⟨b', o', e, _, hr⟩ := h.row.at_ (by omega)
 injection e with e
 injection e with e1 e2
 subst e1 e2
 exact hr k x hx
theorem yieldsIf_upto {P : Program} {ops : Array Oper} {S : World → Prop} {op : Oper} {a : Act} (hw : Region.wanted op (yielded ops a.tmps) = true) (t : TypeId) (x y : Operand) (ho : op.op = .slice t x none (some y) none) (ht : P.underlying t = some (.slice (P.elem t)))
  (u k : Value) (hx : a.eval x = u) (hy : a.eval y = k) (v : Value) (hrun : ∀ w, S w → (Instr.slice t u none (some k) none).run P w = .ok v w) : YieldsIf P ops S op v a :=
 .inl ⟨hw, fun w hw' => by
  unfold execOp
  simp only [ho, hx, hy, Option.map_some, Option.map_none, Sem.run_bind, run_sliceAt_slice _ t u none (some k) none ht, hrun w hw', Result.andThen_ok, Sem.run_pure]⟩
theorem yieldsIf_from {P : Program} {ops : Array Oper} {S : World → Prop} {op : Oper} {a : Act} (hw : Region.wanted op (yielded ops a.tmps) = true) (t : TypeId) (x y : Operand) (ho : op.op = .slice t x (some y) none none) (ht : P.underlying t = some (.slice (P.elem t)))
  (u k : Value) (hx : a.eval x = u) (hy : a.eval y = k) (v : Value) (hrun : ∀ w, S w → (Instr.slice t u (some k) none none).run P w = .ok v w) : YieldsIf P ops S op v a :=
 .inl ⟨hw, fun w hw' => by
  unfold execOp
  simp only [ho, hx, hy, Option.map_some, Option.map_none, Sem.run_bind, run_sliceAt_slice _ t u (some k) none none ht, hrun w hw', Result.andThen_ok, Sem.run_pure]⟩
theorem cut_32 (g o c : Nat) (hc : 40 ≤ c) (v : World) : (Instr.slice 54 (.slice (some ⟨g, o, none⟩) 40 c) none (some (.int .i64 32)) none).run Tryz.prog v = .ok (.slice (some ⟨g, o, none⟩) 32 c) v := by
 have hu : Tryz.prog.underlying 54 = some (.slice (Tryz.prog.elem 54)) := by kernel_rfl
 have he : Tryz.prog.elem 54 = 5 := by kernel_rfl
 have hz : ∀ w, (sizeOf 5).run Tryz.prog w = .ok 1 w := fun w => by kernel_rfl
 rw [run_slice_h v 54 _ 40 c hu .i64 32 (by omega) (by omega), he, hz]
 have e : (32 : Int).toNat = 32 := by decide
 simp only [Result.andThen, sliced, e, Nat.sub_zero]
 rw [if_neg (by omega)]
 simp [Addr.add_mid]
theorem cut_8 (g o c : Nat) (hc : 40 ≤ c) (v : World) : (Instr.slice 54 (.slice (some ⟨g, o, none⟩) 40 c) (some (.int .i64 32)) none none).run Tryz.prog v = .ok (.slice (some ⟨g, o + 32, none⟩) 8 (c - 32)) v := by
 have hu : Tryz.prog.underlying 54 = some (.slice (Tryz.prog.elem 54)) := by kernel_rfl
 have he : Tryz.prog.elem 54 = 5 := by kernel_rfl
 have hz : ∀ w, (sizeOf 5).run Tryz.prog w = .ok 1 w := fun w => by kernel_rfl
 rw [run_slice_l v 54 _ 40 c hu .i64 32 (by omega) (by omega), he, hz]
 have e : (32 : Int).toNat = 32 := by decide
 simp only [Result.andThen, sliced, e]
 rw [if_neg (by omega)]
 simp [Addr.add_mid]
theorem bytes_tail {w : World} {g o c : Nat} {l : List Nat} (h : Bytes w w.heap.size (.slice (some ⟨g, o, none⟩) 40 c) l) (hc : 40 ≤ c) : Bytes w w.heap.size (.slice (some ⟨g, o + 32, none⟩) 8 (c - 32)) (l.drop 32) := by
 obtain ⟨h1, h2, h3, h4⟩ := h.openT
 obtain ⟨bg, bo, e, hb, hcl⟩ := h4 (by decide)
 injection e with e
 injection e with e1 e2
 subst e1 e2
 refine ⟨_, _, by rw [List.length_drop, ← h1], by rw [List.length_drop, ← h1]; omega, fun x hx => h3 x (List.mem_of_mem_drop hx), fun _ => ⟨_, _, rfl, by omega, fun i hi => ?_⟩⟩
 rw [List.length_drop, ← h1] at hi
 have := hcl (32 + i) (by omega)
 rw [Nat.add_assoc, this]
 simp [List.getD_eq_getElem?_getD, List.getElem?_drop]
theorem ldR_fin {rs : List Rec} {l : LeafT} (hl : l = mkLf rs) (hf : fstBad rs 5 = 0) : (if fstBad rs 5 ≠ 0 then .error (fstBad rs 5) else if leafBad (mkLf rs) = true then .error 1 else .ok (mkLf rs) : Except Nat LeafT) = if leafBad l = true then .error 1 else .ok l := by
 rw [if_neg (by omega), ← hl]
set_option maxRecDepth 100000 in
set_option maxHeartbeats 8000000 in
theorem lfDecode_is (w : World) (hsz : SzAt w) (a : Option Addr) (L cv : Nat) (b : List Nat) (hb : Bytes w w.heap.size (.slice a L cv) b) (hL : L ≤ 9223372036854775807) :
  Calls Tryz.prog 26 #[.slice a L cv] w (LdP w (ldec b)) := by
 obtain ⟨Z, hz, hzb, hzs, hzn, HZE⟩ := zero_leafT
 have EZ := Lib.hid (show Z = zLeaf.cells.toArray from HZE)
 obtain ⟨D, hD⟩ : ∃ D, D = ldec b := ⟨_, rfl⟩
 rw [← hD]
 have HD := Lib.hid hD
 have hal : Below w.heap.size w (w.alloc (.cells Z 41)) := (Below.refl _ _).alloc (Nat.le_refl _) _
 have HAL := Lib.hid (show Has (w.alloc (.cells Z 41)) (w.heap.size) 41 Z ∧ Below (w.heap.size) w (w.alloc (.cells Z 41)) ∧ (w.heap.size) < (w.alloc (.cells Z 41)).heap.size from ⟨Has.new _ _ _, hal, by simp⟩)
 have HDEC := Lib.hid (tvDec_is _ a L cv b (hb.alive hal hal.size) hL)
 have SZZ := Lib.hid (show (Tryz.prog.info? 41).map (·.size) = some Z.size by rw [hzs]; kernel_rfl)
 have HOZ := Lib.hid (show Z.all (·.oneCell') = true by rw [HZE]; exact LeafT.one _)
 have HBL := Lib.hid (show ∀ y ∈ b, y < 256 from hb.openT.2.2.1)
 have HSZ := Lib.hid hsz
 obtain ⟨TD, hTD⟩ : ∃ T, T = tdec b := ⟨_, rfl⟩
 have ETD := Lib.hid hTD
 rw [← hTD] at HDEC
 have HSET := Lib.hid (show ∀ v : World, Has v (w.heap.size) 41 Z → Below (w.heap.size) w v → (w.heap.size) ≤ v.heap.size → ∀ C : List Value, C.length = 99 → Has (v.setRow (w.heap.size) C.toArray) (w.heap.size) 41 C.toArray ∧ Below w.heap.size w (v.setRow (w.heap.size) C.toArray) from fun v h1 h2 h3 C _ =>
  ⟨h1.setRow, h2.trans ((kept_setRow (g := (w.heap.size)) v C.toArray).below h3 (fun k e => by have e' : k = (w.heap.size) := e; omega))⟩)
 have HZL := Lib.hid (show zLeaf.cells.length = 99 by have := congrArg Array.size EZ.out; rw [hzs, List.size_toArray] at this; exact this.symm)
 have HZS := Lib.hid hzs
 clear hD hal hb hsz HZE hzs hTD
 go_enter Tryz.func26, Tryz.ntmps26
 go_wp2_with fail
 refine HDEC.out.mono ?_
 rintro e w2 hm
 cases TD with
 | error x =>
  obtain ⟨rfl, hb2⟩ := (show e = .returned (.tuple #[.slice none 0 0, .int .i64 (x : Int)]) ∧ Below _ _ w2 from hm)
  have hnx : x ≠ 0 := fun e0 => by subst e0; exact tdec_nz ETD.out.symm
  have hx2 : ((x : Int) != 0) = true := by rw [bne_iff_ne]; omega
  have h2 := HAL.out.1.below hb2 HAL.out.1.lt
  have hq2 := HAL.out.2.1.trans (hb2.mono (Nat.le_of_lt HAL.out.2.2))
  have hfin := HSET.out w2 h2 hq2 (Nat.le_of_lt h2.lt) zLeaf.cells HZL.out
  rw [← EZ.out] at hfin
  have HFIN := Lib.hid hfin
  have H2 := Lib.hid h2
  have HE := Lib.hid (show D = .error x by rw [HD.out]; unfold ldec; rw [← ETD.out])
  clear hm hb2 hnx h2 hq2 hfin HDEC HSET
  go_wp2_with (refine wpList_store_row rfl 41 (.tmp 2) (.tmp 18) rfl (w.heap.size) Z rfl rfl 41 Z H2.out SZZ.out rfl HOZ.out ?_)
  refine bodyPost_ret (results_cell_tmp rfl _ _ (w.heap.size) 41 Z (0, 0) _ rfl rfl HFIN.out.1 Tryz.underlying41 SZZ.out) rfl ?_
  rw [HE.out]
  refine ⟨HFIN.out.2, ?_⟩
  rw [EZ.out]
  exact rfl
 | ok rs =>
  obtain ⟨ms, a2, c2, rfl, hms, hrecs, hbase, hfew, hb2⟩ := (show ∃ ms a c, e = .returned (.tuple #[.slice a ms.length c, .int .i64 0]) ∧ ms.map RecM.r = rs ∧ RecsAt w2 a ms.length ms ∧ (∀ A, a = some A → _ ≤ A.block) ∧ ms.length ≤ 256 ∧ Below _ _ w2 from hm)
  have h2 := HAL.out.1.below hb2 HAL.out.1.lt
  have hq2 := HAL.out.2.1.trans (hb2.mono (Nat.le_of_lt HAL.out.2.2))
  have hst : ∀ v : World, Below w2.heap.size w2 v → ∀ C : List Value, C.length = 99 → Has (v.setRow w.heap.size C.toArray) w.heap.size 41 C.toArray ∧ Below w.heap.size w (v.setRow w.heap.size C.toArray) := fun v hv C hC =>
    HSET.out v (h2.below hv h2.lt) (hq2.trans (hv.mono (Nat.le_of_lt h2.lt))) (Nat.le_trans (Nat.le_of_lt h2.lt) hv.size) C hC
  have HST := Lib.hid hst
  have H2V := Lib.hid (show ∀ v : World, Below w2.heap.size w2 v → Has v w.heap.size 41 Z from fun v hv => h2.below hv h2.lt)
  have HQ2 := Lib.hid hq2
  obtain ⟨ml, hml⟩ : ∃ z, z = ms.length := ⟨_, rfl⟩
  rw [← hml] at hrecs hfew
  have HRS := Lib.hid hms.symm
  have HRECS := Lib.hid hrecs
  have EML := Lib.hid hml
  have HLD := Lib.hid (show D = ldecR rs by rw [HD.out]; unfold ldec; rw [← ETD.out])
  have HRL := Lib.hid (show rs.length = ml by rw [← hms, List.length_map, hml])
  have HSZ2 := Lib.hid ((HSZ.out.below (show Below w.heap.size w w2 from hq2)))
  rw [← hml]
  clear hm hms hrecs hbase hb2 h2 hq2 hst hml HDEC HSET HAL HD
  have hz0 : ((0 : Int) != 0) = false := rfl
  by_cases h5 : ml = 5
  rotate_left
  · have h5' : ((ml : Int) != 5) = true := by rw [bne_iff_ne]; omega
    have HE := Lib.hid (show D = .error 21 by rw [HLD.out]; unfold ldecR; rw [if_pos (by rw [HRL.out]; exact h5)])
    have hfin := HST.out w2 (Below.refl _ _) zLeaf.cells HZL.out
    rw [← EZ.out] at hfin
    have HFIN := Lib.hid hfin
    have H2 := Lib.hid (H2V.out w2 (Below.refl _ _))
    clear h5 hfin
    go_wp2_with (refine wpList_store_row rfl 41 (.tmp 2) (.tmp 23) rfl w.heap.size Z rfl rfl 41 Z H2.out SZZ.out rfl HOZ.out ?_)
    refine bodyPost_ret (results_cell_tmp rfl _ _ w.heap.size 41 Z (0, 0) _ rfl rfl HFIN.out.1 Tryz.underlying41 SZZ.out) rfl ?_
    rw [HE.out]
    refine ⟨HFIN.out.2, ?_⟩
    rw [EZ.out]
    exact rfl
  subst h5
  obtain ⟨lb, lo, rfl, hlb, _⟩ := HRECS.out.row.at_ (by decide)
  have HROW := Lib.hid (show ∀ (v : World) (k : Nat) (x : RecM), Below w2.heap.size w2 v → ms[k]? = some x → v.rangeAt lb (lo + k * 2) x.cells from fun v k x hv hx => rangeAt_kept (rec_row HRECS.out k x hx) (Kept.of_below (S := fun _ => False) hv) (fun h => h))
  have HAT := Lib.hid (show ∀ (k : Nat), k < 5 → ∀ v, (Instr.indexAt 115 (.slice (some ⟨lb, lo, none⟩) 5 c2) (.int .i64 (k : Int))).run Tryz.prog v = .ok (.pointer (some ⟨lb, lo + k * 2, none⟩)) v from fun k hk v => at_rec lb lo 5 c2 k hk v)
  obtain ⟨Z2, hz2, hz2s, hz2n, -⟩ := zero_rec
  have h5' : ((5 : Int) != 5) = false := rfl
  have HLD5 := Lib.hid (show D = if fstBad rs 5 ≠ 0 then .error (fstBad rs 5) else if leafBad (mkLf rs) = true then .error 1 else .ok (mkLf rs) by rw [HLD.out]; unfold ldecR; rw [if_neg (by rw [HRL.out]; simp)])
  clear hlb HLD
  go_wp2_with fail
  go_loopw [26] (fun iv wr => ∃ i : Nat, iv = .int .i64 (i : Int) ∧ i ≤ 5 ∧ fstBad rs i = 0 ∧ Below w2.heap.size w2 wr) (fun iv _ => 5 - (intOf iv).toNat)
  case atStart => exact ⟨0, rfl, Nat.zero_le _, rfl, Below.refl _ _⟩
  case round =>
    obtain ⟨i, rfl, hi, hf, hbr⟩ := hrel
    have HF := Lib.hid hf
    have HBR := Lib.hid hbr
    clear hf hbr
    by_cases hi5 : i < 5
    · have hi5' : (i : Int) < 5 := by omega
      obtain ⟨x, hx⟩ : ∃ x, ms[i]? = some x := ⟨_, List.getElem?_eq_getElem (by rw [← EML.out]; exact hi5)⟩
      obtain ⟨CR, hCR⟩ : ∃ L, L = x.cells := ⟨_, rfl⟩
      have hrw := HROW.out wr i x HBR.out hx
      rw [← hCR] at hrw
      have HRW := Lib.hid hrw
      have LR := Lib.hid (show CR.length = 2 by rw [hCR]; rfl)
      have SZ := Lib.hid (show (Tryz.prog.info? 113).map (·.size) = some CR.length by rw [LR.out]; kernel_rfl)
      have SZA := Lib.hid (show (Tryz.prog.info? 113).map (·.size) = some CR.toArray.size by rw [List.size_toArray]; exact SZ.out)
      have HZZ := Lib.hid (show Z2.size = CR.toArray.size by rw [hz2s, List.size_toArray, LR.out])
      have HONE := Lib.hid (show CR.toArray.all (·.oneCell') = true by rw [hCR]; kernel_rfl)
      obtain ⟨h3, hb3⟩ := new_row wr 113 Z2 CR.toArray
      have hb9 := HBR.out.trans (hb3.mono HBR.out.size)
      have hat := HAT.out i hi5
      have hrx : rs.getD i ⟨0, []⟩ = x.r := by rw [HRS.out, List.getD_eq_getElem?_getD, List.getElem?_map, hx]; rfl
      have HRX := Lib.hid hrx
      have HI5 := Lib.hid hi5
      obtain ⟨vt, hvt⟩ : ∃ z, z = x.t := ⟨_, rfl⟩
      obtain ⟨vl, hvl⟩ : ∃ z, z = x.v.length := ⟨_, rfl⟩
      have h30 : ((wr.alloc (.cells Z2 113)).setRow wr.heap.size CR.toArray).cell? ⟨wr.heap.size, 0, none⟩ = some (.int .u64 (vt : Int)) := by rw [hvt]; exact h3.cell_is (by rw [hCR]; rfl)
      have h31 : ((wr.alloc (.cells Z2 113)).setRow wr.heap.size CR.toArray).cell? ⟨wr.heap.size, 1, none⟩ = some (.slice x.a vl x.c) := by rw [hvl]; exact h3.cell_is (by rw [hCR]; rfl)
      have H30 := Lib.hid h30
      have H31 := Lib.hid h31
      have HB9 := Lib.hid hb9
      have HVT := Lib.hid hvt
      have HVL := Lib.hid hvl
      clear hrw hCR h3 hb3 hb9 hrx hvt hvl h30 h31 hx
      go_upto_region 9 with (first
        | (refine wpList_load_mid rfl 113 (.tmp 29) rfl lb (lo + i * 2) rfl CR _ HRW.out Tryz.underlying113 rfl SZ.out ?_)
        | (refine wpList_store_row rfl 113 (.tmp 7) (.tmp 30) rfl wr.heap.size CR.toArray rfl rfl 113 Z2 (heap_alloc_new wr _) SZA.out HZZ.out HONE.out ?_))
      obtain ⟨W9, hW9⟩ : ∃ W, W = (wr.alloc (.cells Z2 113)).setRow wr.heap.size CR.toArray := ⟨_, rfl⟩
      rw [← hW9] at H30 H31 HB9 ⊢
      obtain ⟨G9, hG9⟩ : ∃ g, g = wr.heap.size := ⟨_, rfl⟩
      rw [← hG9] at H30 H31 ⊢
      have c30 := H30.out
      have c31 := H31.out
      have hw2 : IntKind.u64.wrap (2 * (i : Int)) = 2 * (i : Int) := by rw [IntKind.wrap_u64]; omega
      clear hW9 hG9 hat H30 H31 HRW SZA HZZ HONE
      by_cases ht : vt = 2 * i
      rotate_left
      · have ht' : ((vt : Int) != 2 * (i : Int)) = true := by rw [bne_iff_ne]; omega
        have HE := Lib.hid (show D = .error 23 by
          have h1 : fstBad rs 5 = 23 := fst_new HF.out HI5.out (by unfold recBad; rw [HRX.out, if_pos (by show x.t ≠ _; rw [← HVT.out]; exact ht)]) (by decide)
          rw [HLD5.out, h1, if_pos (by decide)])
        have hfin := HST.out W9 HB9.out zLeaf.cells HZL.out
        rw [← EZ.out] at hfin
        have HFIN := Lib.hid hfin
        have H2 := Lib.hid (H2V.out W9 HB9.out)
        clear ht hfin
        go_wp2_with (refine wpList_store_row rfl 41 (.tmp 2) (.tmp 37) rfl w.heap.size Z rfl rfl 41 Z H2.out SZZ.out rfl HOZ.out ?_)
        refine bodyPost_ret (results_cell_tmp rfl _ _ w.heap.size 41 Z (0, 0) _ rfl rfl HFIN.out.1 Tryz.underlying41 SZZ.out) rfl ?_
        rw [HE.out]
        refine ⟨HFIN.out.2, ?_⟩
        rw [EZ.out]
        exact rfl
      have ht' : ((vt : Int) != 2 * (i : Int)) = false := by rw [bne_eq_false_iff_eq]; omega
      obtain ⟨sz, hsz⟩ : ∃ z, z = [32, 8, 32, 1, 40].getD i 0 := ⟨_, rfl⟩
      have cg : W9.cell? ⟨0, i, none⟩ = some (.int .i64 (sz : Int)) := by rw [hsz]; exact (HSZ2.out.below HB9.out).at_ i HI5.out
      have HSZE := Lib.hid hsz
      have HTT := Lib.hid ht
      clear hsz ht
      go_upto_region 11 with (fail)
      by_cases hv : vl = sz
      rotate_left
      · have hv' : ((vl : Int) != (sz : Int)) = true := by rw [bne_iff_ne]; omega
        have HE := Lib.hid (show D = .error 21 by
          have h1 : fstBad rs 5 = 21 := fst_new HF.out HI5.out (by unfold recBad; rw [HRX.out, if_neg (by show ¬ x.t ≠ _; rw [← HVT.out, HTT.out]; simp), if_pos (by show x.v.length ≠ _; rw [← HVL.out, ← HSZE.out]; exact hv)]) (by decide)
          rw [HLD5.out, h1, if_pos (by decide)])
        have HFINV := Lib.hid (show ∀ n, Has ((W9.drewN n).setRow w.heap.size Z) w.heap.size 41 Z ∧ Below w.heap.size w ((W9.drewN n).setRow w.heap.size Z) from fun n => by
          have hfin := HST.out (W9.drewN n) (below_drewN HB9.out n) zLeaf.cells HZL.out
          rw [← EZ.out] at hfin
          exact hfin)
        have H2N := Lib.hid (show ∀ n, Has (W9.drewN n) w.heap.size 41 Z from fun n => (H2V.out W9 HB9.out).drewN n)
        clear hv
        go_quiet (fail)
        go_wp2_with (refine wpList_store_row rfl 41 (.tmp 2) (.tmp 45) rfl w.heap.size Z rfl rfl 41 Z (H2N.out _) SZZ.out rfl HOZ.out ?_)
        refine bodyPost_ret (results_cell_tmp rfl _ _ w.heap.size 41 Z (0, 0) _ rfl rfl (HFINV.out _).1 Tryz.underlying41 SZZ.out) rfl ?_
        rw [HE.out]
        refine ⟨(HFINV.out _).2, ?_⟩
        rw [EZ.out]
        exact rfl
      have hv' : ((vl : Int) != (sz : Int)) = false := by rw [bne_eq_false_iff_eq]; omega
      have HNX := Lib.hid (fst_ok HF.out (by unfold recBad; rw [HRX.out, if_neg (by show ¬ x.t ≠ _; rw [← HVT.out, HTT.out]; simp), if_neg (by show ¬ x.v.length ≠ _; rw [← HVL.out, ← HSZE.out, hv]; simp)]))
      clear hv
      go_quiet (fail)
      go_wp2
      go_roundw
      case rel => exact ⟨i + 1, by go_num, by have := HI5.out; omega, HNX.out, below_drewN HB9.out _⟩
      case measure => have := HI5.out; simp [intOf]; omega
    · obtain rfl : i = 5 := by omega
      obtain ⟨m0, m1, m2, m3, m4, hm5⟩ : ∃ m0 m1 m2 m3 m4, ms = [m0, m1, m2, m3, m4] := by
        have h := EML.out
        match ms, h with
        | [m0, m1, m2, m3, m4], _ => exact ⟨_, _, _, _, _, rfl⟩
      have hrs : rs = [m0.r, m1.r, m2.r, m3.r, m4.r] := by rw [HRS.out, hm5]; rfl
      have hal := fst_all HF.out
      rw [hrs] at hal
      have l0 : m0.v.length = 32 := (hal 0 (by decide)).2
      have l1 : m1.v.length = 8 := (hal 1 (by decide)).2
      have l2 : m2.v.length = 32 := (hal 2 (by decide)).2
      have l3 : m3.v.length = 1 := (hal 3 (by decide)).2
      have l4 : m4.v.length = 40 := (hal 4 (by decide)).2
      have hok := HRECS.out.ok
      rw [hm5] at hok
      obtain ⟨g0, o0, e0, q0, t0, b0⟩ := rec_open (hok m0 (by simp)) 32 l0 (by decide)
      obtain ⟨g1, o1, e1, q1, t1, b1⟩ := rec_open (hok m1 (by simp)) 8 l1 (by decide)
      obtain ⟨g2, o2, e2, q2, t2, b2⟩ := rec_open (hok m2 (by simp)) 32 l2 (by decide)
      obtain ⟨g3, o3, e3, q3, t3, b3⟩ := rec_open (hok m3 (by simp)) 1 l3 (by decide)
      obtain ⟨g4, o4, e4, q4, t4, b4⟩ := rec_open (hok m4 (by simp)) 40 l4 (by decide)
      obtain ⟨c0, hc0⟩ : ∃ z, z = m0.c := ⟨_, rfl⟩
      obtain ⟨c1, hc1⟩ : ∃ z, z = m1.c := ⟨_, rfl⟩
      obtain ⟨c2', hc2⟩ : ∃ z, z = m2.c := ⟨_, rfl⟩
      obtain ⟨c3, hc3⟩ : ∃ z, z = m3.c := ⟨_, rfl⟩
      obtain ⟨c4, hc4⟩ : ∃ z, z = m4.c := ⟨_, rfl⟩
      have HC := Lib.hid (show ∀ v : World, Below w2.heap.size w2 v → v.cell? ⟨lb, lo + 1, none⟩ = some (.slice (some ⟨g0, o0, none⟩) 32 c0) ∧ v.cell? ⟨lb, lo + 2 + 1, none⟩ = some (.slice (some ⟨g1, o1, none⟩) 8 c1) ∧ v.cell? ⟨lb, lo + 4 + 1, none⟩ = some (.slice (some ⟨g2, o2, none⟩) 32 c2') ∧ v.cell? ⟨lb, lo + 6 + 1, none⟩ = some (.slice (some ⟨g3, o3, none⟩) 1 c3) ∧ v.cell? ⟨lb, lo + 8 + 1, none⟩ = some (.slice (some ⟨g4, o4, none⟩) 40 c4) from fun v hv =>
        ⟨by have h := HROW.out v 0 m0 hv (by rw [hm5]; rfl) 1 _ rfl; rw [l0, e0, ← hc0] at h; exact h, by have h := HROW.out v 1 m1 hv (by rw [hm5]; rfl) 1 _ rfl; rw [l1, e1, ← hc1] at h; exact h, by have h := HROW.out v 2 m2 hv (by rw [hm5]; rfl) 1 _ rfl; rw [l2, e2, ← hc2] at h; exact h, by have h := HROW.out v 3 m3 hv (by rw [hm5]; rfl) 1 _ rfl; rw [l3, e3, ← hc3] at h; exact h, by have h := HROW.out v 4 m4 hv (by rw [hm5]; rfl) 1 _ rfl; rw [l4, e4, ← hc4] at h; exact h⟩)
      have hat0 := HAT.out 0 (by decide)
      have hat1 := HAT.out 1 (by decide)
      have hat2 := HAT.out 2 (by decide)
      have hat3 := HAT.out 3 (by decide)
      have hat4 := HAT.out 4 (by decide)
      have HAT5 := Lib.hid (show (∀ v, (Instr.indexAt 115 (.slice (some ⟨lb, lo, none⟩) 5 c2) (.int .i64 0)).run Tryz.prog v = .ok (.pointer (some ⟨lb, lo, none⟩)) v) ∧ (∀ v, (Instr.indexAt 115 (.slice (some ⟨lb, lo, none⟩) 5 c2) (.int .i64 1)).run Tryz.prog v = .ok (.pointer (some ⟨lb, lo + 2, none⟩)) v) ∧ (∀ v, (Instr.indexAt 115 (.slice (some ⟨lb, lo, none⟩) 5 c2) (.int .i64 2)).run Tryz.prog v = .ok (.pointer (some ⟨lb, lo + 4, none⟩)) v) ∧ (∀ v, (Instr.indexAt 115 (.slice (some ⟨lb, lo, none⟩) 5 c2) (.int .i64 3)).run Tryz.prog v = .ok (.pointer (some ⟨lb, lo + 6, none⟩)) v) ∧ (∀ v, (Instr.indexAt 115 (.slice (some ⟨lb, lo, none⟩) 5 c2) (.int .i64 4)).run Tryz.prog v = .ok (.pointer (some ⟨lb, lo + 8, none⟩)) v) from ⟨hat0, hat1, hat2, hat3, hat4⟩)
      obtain ⟨v0, hv0⟩ : ∃ z, z = m0.v := ⟨_, rfl⟩
      obtain ⟨v2, hv2⟩ : ∃ z, z = m2.v := ⟨_, rfl⟩
      obtain ⟨v4, hv4⟩ : ∃ z, z = m4.v.take 32 := ⟨_, rfl⟩
      obtain ⟨am, ham⟩ : ∃ z, z = numB m1.v := ⟨_, rfl⟩
      obtain ⟨q, hq⟩ : ∃ z, z = numB m3.v := ⟨_, rfl⟩
      obtain ⟨ss, hss⟩ : ∃ z, z = numB (m4.v.drop 32) := ⟨_, rfl⟩
      have ll4 : v4.length = 32 := by rw [hv4, List.length_take, l4]; rfl
      have HR0 := Lib.hid (show ∀ v : World, Below w2.heap.size w2 v → v.rangeAt g0 o0 (bcells v0) ∧ v.rangeAt g2 o2 (bcells v2) ∧ v.rangeAt g4 o4 (bcells v4) from fun v hv =>
        ⟨by rw [hv0]; exact rangeAt_kept b0 (Kept.of_below (S := fun _ => False) hv) (fun h => h), by rw [hv2]; exact rangeAt_kept b2 (Kept.of_below (S := fun _ => False) hv) (fun h => h), fun j u hu => by
          refine rangeAt_kept b4 (Kept.of_below (S := fun _ => False) hv) (fun h => h) j u ?_
          have hj := (List.getElem?_eq_some_iff.1 hu).1
          rw [bcells_length, ll4] at hj
          rw [← hu, hv4]
          simp only [bcells, List.map_take, List.getElem?_take, hj, if_true]⟩)
      have SZH := Lib.hid (show ∀ l : List Nat, l.length = 32 → (Tryz.prog.info? 25).map (·.size) = some (bcells l).length from fun l hl => by rw [bcells_length, hl]; kernel_rfl)
      have HBY := Lib.hid (show ∀ v : World, Below w2.heap.size w2 v → Bytes v v.heap.size (.slice (some ⟨g1, o1, none⟩) 8 c1) m1.v ∧ Bytes v v.heap.size (.slice (some ⟨g4, o4 + 32, none⟩) 8 (c4 - 32)) (m4.v.drop 32) from fun v hv => by
        have h1 := (hok m1 (by simp)).b
        have h4 := (hok m4 (by simp)).b
        rw [l1, e1, ← hc1] at h1
        rw [l4, e4, ← hc4] at h4
        exact ⟨h1.alive hv hv.size, (bytes_tail h4 (by rw [hc4]; exact q4)).alive hv hv.size⟩)
      have HN := Lib.hid (show ∀ v : World, Below w2.heap.size w2 v → (Calls Tryz.prog 48 #[.slice (some ⟨g1, o1, none⟩) 8 c1] v fun e w' => e = .returned (.int .u64 (am : Int)) ∧ w' = v) ∧ (Calls Tryz.prog 48 #[.slice (some ⟨g4, o4 + 32, none⟩) 8 (c4 - 32)] v fun e w' => e = .returned (.int .u64 (ss : Int)) ∧ w' = v) from fun v hv => by
        rw [ham, hss]
        exact ⟨lfNumber_is v _ 8 c1 m1.v (HBY.out v hv).1 (by rw [l1]; exact Nat.le_refl _), lfNumber_is v _ 8 (c4 - 32) _ (HBY.out v hv).2 (by rw [List.length_drop, l4]; exact Nat.le_refl _)⟩)
      have hq256 : q < 256 := by rw [hq]; exact t3 _ (numB_mem l3)
      have HQ := Lib.hid (show ∀ v : World, Below w2.heap.size w2 v → v.cell? ⟨g3, o3, none⟩ = some (.int .u8 (q : Int)) from fun v hv => by
        have := rangeAt_kept b3 (Kept.of_below (S := fun _ => False) hv) (fun h => h) 0 (.int .u8 (q : Int)) (by rw [numB_one m3.v l3, ← hq]; rfl)
        exact this)
      have HIX3 := Lib.hid (show ∀ v, (Instr.indexAt 54 (.slice (some ⟨g3, o3, none⟩) 1 c3) (.int .i64 0)).run Tryz.prog v = .ok (.pointer (some ⟨g3, o3, none⟩)) v from fun v => at_byte g3 o3 1 c3 0 (by decide) v)
      have HW3 := Lib.hid (show IntKind.i64.wrap (q : Int) = (q : Int) by rw [IntKind.wrap_i64]; omega)
      have HC32 := Lib.hid (cut_32 g4 o4 c4 (by rw [hc4]; exact q4))
      have HC8 := Lib.hid (cut_8 g4 o4 c4 (by rw [hc4]; exact q4))
      have HAR := Lib.hid (show ∀ (g o c : Nat) v, (Instr.arrayAt 25 (.slice (some ⟨g, o, none⟩) 32 c)).run Tryz.prog v = .ok (.pointer (some ⟨g, o, none⟩)) v from fun g o c v => arr_at _ 32 c (Nat.le_refl _) v)
      have HBN := Lib.hid (build_node v4 ll4 ss)
      have LL0 := Lib.hid (show v0.length = 32 by rw [hv0]; exact l0)
      have LL2 := Lib.hid (show v2.length = 32 by rw [hv2]; exact l2)
      have LL4 := Lib.hid ll4
      obtain ⟨lf, hlf⟩ : ∃ z : LeafT, z = ⟨v0, am, v2, (q : Int), ⟨v4, ss⟩⟩ := ⟨_, rfl⟩
      have HBF := Lib.hid (show ∀ v, (Instr.build 41 #[(0, .agg (bcells v0).toArray), (1, .int .u64 (am : Int)), (2, .agg (bcells v2).toArray), (3, .int .i64 (q : Int)), (4, .agg (ndV ⟨v4, ss⟩).toArray)]).run Tryz.prog v = .ok (.agg lf.cells.toArray) v from fun v => by rw [hlf]; exact build_leaf v0 v2 v4 LL0.out LL2.out LL4.out am ss (q : Int) v)
      have hmk : lf = mkLf rs := by rw [hlf, hrs, hv0, hv2, hv4, ham, hq, hss]; rfl
      have hlok : lf.ok := by
        rw [hmk]
        exact mk_ok HF.out (tdec_lt HBL.out ETD.out.symm)
      have HLOK := Lib.hid hlok
      have HDF := Lib.hid (show D = if leafBad lf = true then .error 1 else .ok lf by rw [HLD5.out]; exact ldR_fin hmk HF.out)
      have HLL := Lib.hid (show lf.cells.length = 99 from LeafT.len hlok)
      have SZF := Lib.hid (show (Tryz.prog.info? 41).map (·.size) = some lf.cells.toArray.size by rw [List.size_toArray, LeafT.len hlok]; kernel_rfl)
      have hc5 := (HC.out wr HBR.out).2.2.2.2
      have HS0 := Lib.hid (below_drew HBR.out)
      clear hc0 hc1 hc2 hc3 hc4 e0 e1 e2 e3 e4 l0 l1 l2 l3 l4 b0 b1 b2 b3 b4 hv0 hv2 hv4 ham hq hss hlf hmk hlok hok hal hrs hm5 hat0 hat1 hat2 hat3 hat4 q0 q1 q2 q3 q4 t0 t1 t2 t3 t4 ll4 HROW
      go_upto_region 15 with (fail)
      clear hc5
      go_cut [9] from 16 (fun pv wx => ∃ G2, pv = .pointer (some ⟨G2, 0, none⟩) ∧ Has wx G2 41 lf.cells.toArray ∧ Below w2.heap.size w2 wx)
      case first =>
        have hS0 := HS0.out
        refine wp_region_noPanic ?_
        refine wp_region_held_drew (S := (fun v => Below w2.heap.size w2 v)) (by kernel_rfl) hS0 (fun hH0 => ?_)
        apply tk 0 (v := _) rfl (Or.inl ⟨by kernel_rfl, ?hv⟩) hH0 ?_
        case hv => intro w' hS; obtain ⟨z0, z1, z2, z3, z4⟩ := HC.out w' hS; obtain ⟨y0, y1, y2, y3, y4⟩ := HAT5.out; have x0 := HAR.out g0 o0 c0 w'; have x1 := HAR.out g2 o2 c2' w'; have x2 := HAR.out g4 o4 c4 w'; have x3 := HQ.out w' hS; have x4 := HIX3.out w'; have x5 := HW3.out; go_simp; try exact rfl
        simp only [Act.put, qa]
        apply tk 1 (v := _) rfl (Or.inl ⟨by kernel_rfl, ?hv⟩) hH0 ?_
        case hv => intro w' hS; obtain ⟨z0, z1, z2, z3, z4⟩ := HC.out w' hS; obtain ⟨y0, y1, y2, y3, y4⟩ := HAT5.out; have x0 := HAR.out g0 o0 c0 w'; have x1 := HAR.out g2 o2 c2' w'; have x2 := HAR.out g4 o4 c4 w'; have x3 := HQ.out w' hS; have x4 := HIX3.out w'; have x5 := HW3.out; go_simp; try exact rfl
        simp only [Act.put, qa]
        apply tk 2 (v := _) rfl (Or.inl ⟨by kernel_rfl, ?hv⟩) hH0 ?_
        case hv => intro w' hS; obtain ⟨z0, z1, z2, z3, z4⟩ := HC.out w' hS; obtain ⟨y0, y1, y2, y3, y4⟩ := HAT5.out; have x0 := HAR.out g0 o0 c0 w'; have x1 := HAR.out g2 o2 c2' w'; have x2 := HAR.out g4 o4 c4 w'; have x3 := HQ.out w' hS; have x4 := HIX3.out w'; have x5 := HW3.out; go_simp; try exact rfl
        simp only [Act.put, qa]
        apply tk 3 (v := _) rfl (Or.inl ⟨by kernel_rfl, ?hv⟩) hH0 ?_
        case hv => intro w' hS; obtain ⟨z0, z1, z2, z3, z4⟩ := HC.out w' hS; obtain ⟨y0, y1, y2, y3, y4⟩ := HAT5.out; have x0 := HAR.out g0 o0 c0 w'; have x1 := HAR.out g2 o2 c2' w'; have x2 := HAR.out g4 o4 c4 w'; have x3 := HQ.out w' hS; have x4 := HIX3.out w'; have x5 := HW3.out; go_simp; try exact rfl
        simp only [Act.put, qa]
        apply tk 4 (v := _) rfl (Or.inl ⟨by kernel_rfl, ?hv⟩) hH0 ?_
        case hv => intro w' hS; obtain ⟨z0, z1, z2, z3, z4⟩ := HC.out w' hS; obtain ⟨y0, y1, y2, y3, y4⟩ := HAT5.out; have x0 := HAR.out g0 o0 c0 w'; have x1 := HAR.out g2 o2 c2' w'; have x2 := HAR.out g4 o4 c4 w'; have x3 := HQ.out w' hS; have x4 := HIX3.out w'; have x5 := HW3.out; go_simp; try exact rfl
        simp only [Act.put, qa]
        refine tk 5 (v := (.agg (bcells v0).toArray)) rfl (yieldsIf_load_mid (by kernel_rfl) 25 (.tmp 55) rfl g0 o0 rfl (bcells v0) _ (fun w' h => (HR0.out _ h).1) Tryz.underlying25 rfl (SZH.out _ LL0.out)) hH0 ?_
        simp only [Act.put, qa]
        apply tk 6 (v := _) rfl (Or.inl ⟨by kernel_rfl, ?hv⟩) hH0 ?_
        case hv => intro w' hS; obtain ⟨z0, z1, z2, z3, z4⟩ := HC.out w' hS; obtain ⟨y0, y1, y2, y3, y4⟩ := HAT5.out; have x0 := HAR.out g0 o0 c0 w'; have x1 := HAR.out g2 o2 c2' w'; have x2 := HAR.out g4 o4 c4 w'; have x3 := HQ.out w' hS; have x4 := HIX3.out w'; have x5 := HW3.out; go_simp; try exact rfl
        simp only [Act.put, qa]
        apply tk 7 (v := _) rfl (Or.inl ⟨by kernel_rfl, ?hv⟩) hH0 ?_
        case hv => intro w' hS; obtain ⟨z0, z1, z2, z3, z4⟩ := HC.out w' hS; obtain ⟨y0, y1, y2, y3, y4⟩ := HAT5.out; have x0 := HAR.out g0 o0 c0 w'; have x1 := HAR.out g2 o2 c2' w'; have x2 := HAR.out g4 o4 c4 w'; have x3 := HQ.out w' hS; have x4 := HIX3.out w'; have x5 := HW3.out; go_simp; try exact rfl
        simp only [Act.put, qa]
        apply tk 8 (v := _) rfl (Or.inl ⟨by kernel_rfl, ?hv⟩) hH0 ?_
        case hv => intro w' hS; obtain ⟨z0, z1, z2, z3, z4⟩ := HC.out w' hS; obtain ⟨y0, y1, y2, y3, y4⟩ := HAT5.out; have x0 := HAR.out g0 o0 c0 w'; have x1 := HAR.out g2 o2 c2' w'; have x2 := HAR.out g4 o4 c4 w'; have x3 := HQ.out w' hS; have x4 := HIX3.out w'; have x5 := HW3.out; go_simp; try exact rfl
        simp only [Act.put, qa]
        apply tk 9 (v := _) rfl (Or.inl ⟨by kernel_rfl, ?hv⟩) hH0 ?_
        case hv => intro w' hS; obtain ⟨z0, z1, z2, z3, z4⟩ := HC.out w' hS; obtain ⟨y0, y1, y2, y3, y4⟩ := HAT5.out; have x0 := HAR.out g0 o0 c0 w'; have x1 := HAR.out g2 o2 c2' w'; have x2 := HAR.out g4 o4 c4 w'; have x3 := HQ.out w' hS; have x4 := HIX3.out w'; have x5 := HW3.out; go_simp; try exact rfl
        simp only [Act.put, qa]
        apply tk 11 (v := _) rfl (Or.inl ⟨by kernel_rfl, ?hv⟩) hH0 ?_
        case hv => intro w' hS; obtain ⟨z0, z1, z2, z3, z4⟩ := HC.out w' hS; obtain ⟨y0, y1, y2, y3, y4⟩ := HAT5.out; have x0 := HAR.out g0 o0 c0 w'; have x1 := HAR.out g2 o2 c2' w'; have x2 := HAR.out g4 o4 c4 w'; have x3 := HQ.out w' hS; have x4 := HIX3.out w'; have x5 := HW3.out; go_simp; try exact rfl
        simp only [Act.put, qa]
        apply tk 12 (v := _) rfl (Or.inl ⟨by kernel_rfl, ?hv⟩) hH0 ?_
        case hv => intro w' hS; obtain ⟨z0, z1, z2, z3, z4⟩ := HC.out w' hS; obtain ⟨y0, y1, y2, y3, y4⟩ := HAT5.out; have x0 := HAR.out g0 o0 c0 w'; have x1 := HAR.out g2 o2 c2' w'; have x2 := HAR.out g4 o4 c4 w'; have x3 := HQ.out w' hS; have x4 := HIX3.out w'; have x5 := HW3.out; go_simp; try exact rfl
        simp only [Act.put, qa]
        apply tk 13 (v := _) rfl (Or.inl ⟨by kernel_rfl, ?hv⟩) hH0 ?_
        case hv => intro w' hS; obtain ⟨z0, z1, z2, z3, z4⟩ := HC.out w' hS; obtain ⟨y0, y1, y2, y3, y4⟩ := HAT5.out; have x0 := HAR.out g0 o0 c0 w'; have x1 := HAR.out g2 o2 c2' w'; have x2 := HAR.out g4 o4 c4 w'; have x3 := HQ.out w' hS; have x4 := HIX3.out w'; have x5 := HW3.out; go_simp; try exact rfl
        simp only [Act.put, qa]
        apply tk 14 (v := _) rfl (Or.inl ⟨by kernel_rfl, ?hv⟩) hH0 ?_
        case hv => intro w' hS; obtain ⟨z0, z1, z2, z3, z4⟩ := HC.out w' hS; obtain ⟨y0, y1, y2, y3, y4⟩ := HAT5.out; have x0 := HAR.out g0 o0 c0 w'; have x1 := HAR.out g2 o2 c2' w'; have x2 := HAR.out g4 o4 c4 w'; have x3 := HQ.out w' hS; have x4 := HIX3.out w'; have x5 := HW3.out; go_simp; try exact rfl
        simp only [Act.put, qa]
        apply tk 15 (v := _) rfl (Or.inl ⟨by kernel_rfl, ?hv⟩) hH0 ?_
        case hv => intro w' hS; obtain ⟨z0, z1, z2, z3, z4⟩ := HC.out w' hS; obtain ⟨y0, y1, y2, y3, y4⟩ := HAT5.out; have x0 := HAR.out g0 o0 c0 w'; have x1 := HAR.out g2 o2 c2' w'; have x2 := HAR.out g4 o4 c4 w'; have x3 := HQ.out w' hS; have x4 := HIX3.out w'; have x5 := HW3.out; go_simp; try exact rfl
        simp only [Act.put, qa]
        refine tk 16 (v := (.agg (bcells v2).toArray)) rfl (yieldsIf_load_mid (by kernel_rfl) 25 (.tmp 66) rfl g2 o2 rfl (bcells v2) _ (fun w' h => (HR0.out _ h).2.1) Tryz.underlying25 rfl (SZH.out _ LL2.out)) hH0 ?_
        simp only [Act.put, qa]
        apply tk 17 (v := _) rfl (Or.inl ⟨by kernel_rfl, ?hv⟩) hH0 ?_
        case hv => intro w' hS; obtain ⟨z0, z1, z2, z3, z4⟩ := HC.out w' hS; obtain ⟨y0, y1, y2, y3, y4⟩ := HAT5.out; have x0 := HAR.out g0 o0 c0 w'; have x1 := HAR.out g2 o2 c2' w'; have x2 := HAR.out g4 o4 c4 w'; have x3 := HQ.out w' hS; have x4 := HIX3.out w'; have x5 := HW3.out; go_simp; try exact rfl
        simp only [Act.put, qa]
        apply tk 18 (v := _) rfl (Or.inl ⟨by kernel_rfl, ?hv⟩) hH0 ?_
        case hv => intro w' hS; obtain ⟨z0, z1, z2, z3, z4⟩ := HC.out w' hS; obtain ⟨y0, y1, y2, y3, y4⟩ := HAT5.out; have x0 := HAR.out g0 o0 c0 w'; have x1 := HAR.out g2 o2 c2' w'; have x2 := HAR.out g4 o4 c4 w'; have x3 := HQ.out w' hS; have x4 := HIX3.out w'; have x5 := HW3.out; go_simp; try exact rfl
        simp only [Act.put, qa]
        apply tk 19 (v := _) rfl (Or.inl ⟨by kernel_rfl, ?hv⟩) hH0 ?_
        case hv => intro w' hS; obtain ⟨z0, z1, z2, z3, z4⟩ := HC.out w' hS; obtain ⟨y0, y1, y2, y3, y4⟩ := HAT5.out; have x0 := HAR.out g0 o0 c0 w'; have x1 := HAR.out g2 o2 c2' w'; have x2 := HAR.out g4 o4 c4 w'; have x3 := HQ.out w' hS; have x4 := HIX3.out w'; have x5 := HW3.out; go_simp; try exact rfl
        simp only [Act.put, qa]
        apply tk 20 (v := _) rfl (Or.inl ⟨by kernel_rfl, ?hv⟩) hH0 ?_
        case hv => intro w' hS; obtain ⟨z0, z1, z2, z3, z4⟩ := HC.out w' hS; obtain ⟨y0, y1, y2, y3, y4⟩ := HAT5.out; have x0 := HAR.out g0 o0 c0 w'; have x1 := HAR.out g2 o2 c2' w'; have x2 := HAR.out g4 o4 c4 w'; have x3 := HQ.out w' hS; have x4 := HIX3.out w'; have x5 := HW3.out; go_simp; try exact rfl
        simp only [Act.put, qa]
        apply tk 21 (v := _) rfl (Or.inl ⟨by kernel_rfl, ?hv⟩) hH0 ?_
        case hv => intro w' hS; obtain ⟨z0, z1, z2, z3, z4⟩ := HC.out w' hS; obtain ⟨y0, y1, y2, y3, y4⟩ := HAT5.out; have x0 := HAR.out g0 o0 c0 w'; have x1 := HAR.out g2 o2 c2' w'; have x2 := HAR.out g4 o4 c4 w'; have x3 := HQ.out w' hS; have x4 := HIX3.out w'; have x5 := HW3.out; go_simp; try exact rfl
        simp only [Act.put, qa]
        apply tk 22 (v := _) rfl (Or.inl ⟨by kernel_rfl, ?hv⟩) hH0 ?_
        case hv => intro w' hS; obtain ⟨z0, z1, z2, z3, z4⟩ := HC.out w' hS; obtain ⟨y0, y1, y2, y3, y4⟩ := HAT5.out; have x0 := HAR.out g0 o0 c0 w'; have x1 := HAR.out g2 o2 c2' w'; have x2 := HAR.out g4 o4 c4 w'; have x3 := HQ.out w' hS; have x4 := HIX3.out w'; have x5 := HW3.out; go_simp; try exact rfl
        simp only [Act.put, qa]
        apply tk 23 (v := _) rfl (Or.inl ⟨by kernel_rfl, ?hv⟩) hH0 ?_
        case hv => intro w' hS; obtain ⟨z0, z1, z2, z3, z4⟩ := HC.out w' hS; obtain ⟨y0, y1, y2, y3, y4⟩ := HAT5.out; have x0 := HAR.out g0 o0 c0 w'; have x1 := HAR.out g2 o2 c2' w'; have x2 := HAR.out g4 o4 c4 w'; have x3 := HQ.out w' hS; have x4 := HIX3.out w'; have x5 := HW3.out; go_simp; try exact rfl
        simp only [Act.put, qa]
        apply tk 24 (v := _) rfl (Or.inl ⟨by kernel_rfl, ?hv⟩) hH0 ?_
        case hv => intro w' hS; obtain ⟨z0, z1, z2, z3, z4⟩ := HC.out w' hS; obtain ⟨y0, y1, y2, y3, y4⟩ := HAT5.out; have x0 := HAR.out g0 o0 c0 w'; have x1 := HAR.out g2 o2 c2' w'; have x2 := HAR.out g4 o4 c4 w'; have x3 := HQ.out w' hS; have x4 := HIX3.out w'; have x5 := HW3.out; go_simp; try exact rfl
        simp only [Act.put, qa]
        refine tk 25 (v := (.slice (some ⟨g4, o4, none⟩) 32 c4)) rfl (yieldsIf_upto (by kernel_rfl) 54 (.tmp 75) (.const (.int .i64 32)) rfl Tryz.underlying54 _ _ rfl rfl _ (fun w' _ => HC32.out w')) hH0 ?_
        simp only [Act.put, qa]
        apply tk 26 (v := _) rfl (Or.inl ⟨by kernel_rfl, ?hv⟩) hH0 ?_
        case hv => intro w' hS; obtain ⟨z0, z1, z2, z3, z4⟩ := HC.out w' hS; obtain ⟨y0, y1, y2, y3, y4⟩ := HAT5.out; have x0 := HAR.out g0 o0 c0 w'; have x1 := HAR.out g2 o2 c2' w'; have x2 := HAR.out g4 o4 c4 w'; have x3 := HQ.out w' hS; have x4 := HIX3.out w'; have x5 := HW3.out; go_simp; try exact rfl
        simp only [Act.put, qa]
        refine tk 27 (v := (.agg (bcells v4).toArray)) rfl (yieldsIf_load_mid (by kernel_rfl) 25 (.tmp 77) rfl g4 o4 rfl (bcells v4) _ (fun w' h => (HR0.out _ h).2.2) Tryz.underlying25 rfl (SZH.out _ LL4.out)) hH0 ?_
        simp only [Act.put, qa]
        apply tk 28 (v := _) rfl (Or.inl ⟨by kernel_rfl, ?hv⟩) hH0 ?_
        case hv => intro w' hS; obtain ⟨z0, z1, z2, z3, z4⟩ := HC.out w' hS; obtain ⟨y0, y1, y2, y3, y4⟩ := HAT5.out; have x0 := HAR.out g0 o0 c0 w'; have x1 := HAR.out g2 o2 c2' w'; have x2 := HAR.out g4 o4 c4 w'; have x3 := HQ.out w' hS; have x4 := HIX3.out w'; have x5 := HW3.out; go_simp; try exact rfl
        simp only [Act.put, qa]
        refine tk 29 (v := (.slice (some ⟨g4, o4 + 32, none⟩) 8 (c4 - 32))) rfl (yieldsIf_from (by kernel_rfl) 54 (.tmp 79) (.const (.int .i64 32)) rfl Tryz.underlying54 _ _ rfl rfl _ (fun w' _ => HC8.out w')) hH0 ?_
        simp only [Act.put, qa]
        refine wpAnyH_ready (rs := [10, 33]) (by kernel_rfl) (by simp) ?_
        refine AllReadyH.cons rfl (fun KK hKK => ?_) (AllReadyH.cons rfl (fun KK hKK => ?_) AllReadyH.nil)
        · go_simp
          refine (HN.out _ hH0).1.mono ?_
          rintro _ x10 ⟨rfl, hx10⟩
          replace hx10 := hx10.symm
          subst hx10
          have hsx10 := hH0
          refine Shut.out hKK _ _ hsx10 (fun hH1 => ?_)
          clear hKK KK
          try simp only [Act.put, qa]
          refine wpAnyH_ready (rs := [30, 33]) (by kernel_rfl) (by simp) ?_
          refine AllReadyH.cons rfl (fun KK hKK => ?_) (AllReadyH.cons rfl (fun KK hKK => ?_) AllReadyH.nil)
          · go_simp
            refine (HN.out _ hH1).2.mono ?_
            rintro _ x30 ⟨rfl, hx30⟩
            replace hx30 := hx30.symm
            subst hx30
            have hsx30 := hH1
            refine Shut.out hKK _ _ hsx30 (fun hH2 => ?_)
            clear hKK KK
            try simp only [Act.put, qa]
            refine tk 31 (v := (.agg (ndV ⟨v4, ss⟩).toArray)) rfl (yieldsIf_build (by kernel_rfl) 39 #[(0, .tmp 78), (1, .tmp 81)] rfl #[(0, .agg (bcells v4).toArray), (1, .int .u64 (ss : Int))] (by kernel_rfl) _ (fun w' _ => HBN.out w')) hH2 ?_
            simp only [Act.put, qa]
            refine tk 32 (v := (.agg lf.cells.toArray)) rfl (yieldsIf_build (by kernel_rfl) 41 #[(0, .tmp 56), (1, .tmp 61), (2, .tmp 67), (3, .tmp 74), (4, .tmp 82)] rfl #[(0, .agg (bcells v0).toArray), (1, .int .u64 (am : Int)), (2, .agg (bcells v2).toArray), (3, .int .i64 (q : Int)), (4, .agg (ndV ⟨v4, ss⟩).toArray)] (by kernel_rfl) _ (fun w' _ => HBF.out w')) hH2 ?_
            simp only [Act.put, qa]
            refine wpAnyH_ready (rs := [33]) (by kernel_rfl) (by simp) ?_
            refine AllReadyH.cons rfl (fun KK hKK => ?_) AllReadyH.nil
            go_simp
            obtain ⟨xa, hxa⟩ : ∃ y, y = wr.drew.alloc (.cells Z 41) := ⟨_, rfl⟩
            have hnxa : Below wr.drew.heap.size wr.drew xa := by rw [hxa]; exact (Below.refl _ _).alloc (Nat.le_refl _) _
            have hsxa : Below w2.heap.size w2 xa := hH2.trans (hnxa.mono hH2.size)
            have hz9 : Has xa wr.drew.heap.size 41 Z := by rw [hxa]; exact Has.new _ _ _
            have hg9 : w2.heap.size ≤ wr.drew.heap.size := hH2.size
            first | rw [← hxa] | (change KK _ (wr.drew.alloc (.cells Z 41)); rw [← hxa])
            clear hxa
            refine Shut.out hKK _ _ hsxa (fun hH3 => ?_)
            clear hKK KK
            try simp only [Act.put, qa]
            refine wpAnyH_ready (rs := [34]) (by kernel_rfl) (by simp) ?_
            refine AllReadyH.cons rfl (fun KK hKK => ?_) AllReadyH.nil
            refine step_store_mid rfl 41 (.tmp 9) (.tmp 83) rfl _ 0 lf.cells.toArray rfl rfl (hz9.there 0 _ (by rw [HZS.out, List.size_toArray, HLL.out]; exact Nat.le_refl _)) SZF.out (LeafT.one _) ?_
            have hset := set_box hH3 hz9 hg9 hH3.size (by rw [HZS.out, HLL.out])
            have hs34 := hset.1
            refine Shut.out hKK _ _ hs34 (fun hH4 => ?_)
            clear hKK KK
            try simp only [Act.put, qa]
            refine wpAnyH_done (by kernel_rfl) ?_ _
            refine NoPanic.normal ?_
            have HFN := Lib.hid hset.2.1
            have HFB := Lib.hid hset.1
            clear hset hs34
            go_wp2_with fail
            go_meet
            case rel => exact ⟨_, rfl, HFN.out, HFB.out⟩
          · go_simp
            obtain ⟨xa, hxa⟩ : ∃ y, y = wr.drew.alloc (.cells Z 41) := ⟨_, rfl⟩
            have hnxa : Below wr.drew.heap.size wr.drew xa := by rw [hxa]; exact (Below.refl _ _).alloc (Nat.le_refl _) _
            have hsxa : Below w2.heap.size w2 xa := hH1.trans (hnxa.mono hH1.size)
            have hz9 : Has xa wr.drew.heap.size 41 Z := by rw [hxa]; exact Has.new _ _ _
            have hg9 : w2.heap.size ≤ wr.drew.heap.size := hH1.size
            first | rw [← hxa] | (change KK _ (wr.drew.alloc (.cells Z 41)); rw [← hxa])
            clear hxa
            refine Shut.out hKK _ _ hsxa (fun hH2 => ?_)
            clear hKK KK
            try simp only [Act.put, qa]
            refine wpAnyH_ready (rs := [30]) (by kernel_rfl) (by simp) ?_
            refine AllReadyH.cons rfl (fun KK hKK => ?_) AllReadyH.nil
            go_simp
            refine (HN.out _ hH2).2.mono ?_
            rintro _ x30 ⟨rfl, hx30⟩
            replace hx30 := hx30.symm
            subst hx30
            have hsx30 := hH2
            refine Shut.out hKK _ _ hsx30 (fun hH3 => ?_)
            clear hKK KK
            try simp only [Act.put, qa]
            refine tk 31 (v := (.agg (ndV ⟨v4, ss⟩).toArray)) rfl (yieldsIf_build (by kernel_rfl) 39 #[(0, .tmp 78), (1, .tmp 81)] rfl #[(0, .agg (bcells v4).toArray), (1, .int .u64 (ss : Int))] (by kernel_rfl) _ (fun w' _ => HBN.out w')) hH3 ?_
            simp only [Act.put, qa]
            refine tk 32 (v := (.agg lf.cells.toArray)) rfl (yieldsIf_build (by kernel_rfl) 41 #[(0, .tmp 56), (1, .tmp 61), (2, .tmp 67), (3, .tmp 74), (4, .tmp 82)] rfl #[(0, .agg (bcells v0).toArray), (1, .int .u64 (am : Int)), (2, .agg (bcells v2).toArray), (3, .int .i64 (q : Int)), (4, .agg (ndV ⟨v4, ss⟩).toArray)] (by kernel_rfl) _ (fun w' _ => HBF.out w')) hH3 ?_
            simp only [Act.put, qa]
            refine wpAnyH_ready (rs := [34]) (by kernel_rfl) (by simp) ?_
            refine AllReadyH.cons rfl (fun KK hKK => ?_) AllReadyH.nil
            refine step_store_mid rfl 41 (.tmp 9) (.tmp 83) rfl _ 0 lf.cells.toArray rfl rfl (hz9.there 0 _ (by rw [HZS.out, List.size_toArray, HLL.out]; exact Nat.le_refl _)) SZF.out (LeafT.one _) ?_
            have hset := set_box hH3 hz9 hg9 hH3.size (by rw [HZS.out, HLL.out])
            have hs34 := hset.1
            refine Shut.out hKK _ _ hs34 (fun hH4 => ?_)
            clear hKK KK
            try simp only [Act.put, qa]
            refine wpAnyH_done (by kernel_rfl) ?_ _
            refine NoPanic.normal ?_
            have HFN := Lib.hid hset.2.1
            have HFB := Lib.hid hset.1
            clear hset hs34
            go_wp2_with fail
            go_meet
            case rel => exact ⟨_, rfl, HFN.out, HFB.out⟩
        · go_simp
          obtain ⟨xa, hxa⟩ : ∃ y, y = wr.drew.alloc (.cells Z 41) := ⟨_, rfl⟩
          have hnxa : Below wr.drew.heap.size wr.drew xa := by rw [hxa]; exact (Below.refl _ _).alloc (Nat.le_refl _) _
          have hsxa : Below w2.heap.size w2 xa := hH0.trans (hnxa.mono hH0.size)
          have hz9 : Has xa wr.drew.heap.size 41 Z := by rw [hxa]; exact Has.new _ _ _
          have hg9 : w2.heap.size ≤ wr.drew.heap.size := hH0.size
          first | rw [← hxa] | (change KK _ (wr.drew.alloc (.cells Z 41)); rw [← hxa])
          clear hxa
          refine Shut.out hKK _ _ hsxa (fun hH1 => ?_)
          clear hKK KK
          try simp only [Act.put, qa]
          refine wpAnyH_ready (rs := [10]) (by kernel_rfl) (by simp) ?_
          refine AllReadyH.cons rfl (fun KK hKK => ?_) AllReadyH.nil
          go_simp
          refine (HN.out _ hH1).1.mono ?_
          rintro _ x10 ⟨rfl, hx10⟩
          replace hx10 := hx10.symm
          subst hx10
          have hsx10 := hH1
          refine Shut.out hKK _ _ hsx10 (fun hH2 => ?_)
          clear hKK KK
          try simp only [Act.put, qa]
          refine wpAnyH_ready (rs := [30]) (by kernel_rfl) (by simp) ?_
          refine AllReadyH.cons rfl (fun KK hKK => ?_) AllReadyH.nil
          go_simp
          refine (HN.out _ hH2).2.mono ?_
          rintro _ x30 ⟨rfl, hx30⟩
          replace hx30 := hx30.symm
          subst hx30
          have hsx30 := hH2
          refine Shut.out hKK _ _ hsx30 (fun hH3 => ?_)
          clear hKK KK
          try simp only [Act.put, qa]
          refine tk 31 (v := (.agg (ndV ⟨v4, ss⟩).toArray)) rfl (yieldsIf_build (by kernel_rfl) 39 #[(0, .tmp 78), (1, .tmp 81)] rfl #[(0, .agg (bcells v4).toArray), (1, .int .u64 (ss : Int))] (by kernel_rfl) _ (fun w' _ => HBN.out w')) hH3 ?_
          simp only [Act.put, qa]
          refine tk 32 (v := (.agg lf.cells.toArray)) rfl (yieldsIf_build (by kernel_rfl) 41 #[(0, .tmp 56), (1, .tmp 61), (2, .tmp 67), (3, .tmp 74), (4, .tmp 82)] rfl #[(0, .agg (bcells v0).toArray), (1, .int .u64 (am : Int)), (2, .agg (bcells v2).toArray), (3, .int .i64 (q : Int)), (4, .agg (ndV ⟨v4, ss⟩).toArray)] (by kernel_rfl) _ (fun w' _ => HBF.out w')) hH3 ?_
          simp only [Act.put, qa]
          refine wpAnyH_ready (rs := [34]) (by kernel_rfl) (by simp) ?_
          refine AllReadyH.cons rfl (fun KK hKK => ?_) AllReadyH.nil
          refine step_store_mid rfl 41 (.tmp 9) (.tmp 83) rfl _ 0 lf.cells.toArray rfl rfl (hz9.there 0 _ (by rw [HZS.out, List.size_toArray, HLL.out]; exact Nat.le_refl _)) SZF.out (LeafT.one _) ?_
          have hset := set_box hH3 hz9 hg9 hH3.size (by rw [HZS.out, HLL.out])
          have hs34 := hset.1
          refine Shut.out hKK _ _ hs34 (fun hH4 => ?_)
          clear hKK KK
          try simp only [Act.put, qa]
          refine wpAnyH_done (by kernel_rfl) ?_ _
          refine NoPanic.normal ?_
          have HFN := Lib.hid hset.2.1
          have HFB := Lib.hid hset.1
          clear hset hs34
          go_wp2_with fail
          go_meet
          case rel => exact ⟨_, rfl, HFN.out, HFB.out⟩
      case rest =>
      obtain ⟨W16, hW16⟩ : ∃ y, y = wc := ⟨_, rfl⟩
      subst hW16
      obtain ⟨G2, rfl, h16, hb16⟩ := hcut
      have HCK := Lib.hid (fun v => leafCheck_is v lf HLOK.out)
      obtain ⟨LC, hLC⟩ : ∃ L, L = lf.cells := ⟨_, rfl⟩
      rw [← hLC] at h16 HCK SZF HLL
      have HLC := Lib.hid hLC
      have H16 := Lib.hid h16
      have HB16 := Lib.hid hb16
      have HOL := Lib.hid (show LC.toArray.all (·.oneCell') = true by rw [hLC]; exact LeafT.one _)
      have HZ2 := Lib.hid (show Z.size = LC.toArray.size by rw [HZS.out, List.size_toArray, HLL.out])
      clear h16 hb16 hLC
      go_wp2_with (refine wpList_load_row rfl 41 (.tmp 9) rfl G2 rfl 41 LC.toArray (0, 0) _ H16.out Tryz.underlying41 rfl SZF.out ?_)
      refine (HCK.out _).mono ?_
      rintro _ w17 ⟨rfl, hw17⟩
      have hn17 : Below W16.heap.size W16 w17 := by rw [hw17]; exact (Below.refl _ _).alloc (Nat.le_refl _) _
      have hb17 := HB16.out.trans (hn17.mono HB16.out.size)
      have H17 := Lib.hid (H16.out.below hn17 H16.out.lt)
      have H2 := Lib.hid (H2V.out w17 hb17)
      have HB17 := Lib.hid hb17
      clear hw17 hn17 hb17 HCK
      cases hbad : leafBad lf with
      | true =>
        have he1 : leafE lf = 1 := by unfold leafE; rw [hbad]; rfl
        have HE := Lib.hid (show D = .error 1 by rw [HDF.out, hbad]; rfl)
        have hfin := HST.out w17 HB17.out zLeaf.cells HZL.out
        rw [← EZ.out] at hfin
        have HFIN := Lib.hid hfin
        rw [he1]
        clear hbad he1 hfin
        go_wp2_with (refine wpList_store_row rfl 41 (.tmp 2) (.tmp 88) rfl w.heap.size Z rfl rfl 41 Z H2.out SZZ.out rfl HOZ.out ?_)
        refine bodyPost_ret (results_cell_tmp rfl _ _ w.heap.size 41 Z (0, 0) _ rfl rfl HFIN.out.1 Tryz.underlying41 SZZ.out) rfl ?_
        rw [HE.out]
        refine ⟨HFIN.out.2, ?_⟩
        rw [EZ.out]
        exact rfl
      | false =>
        have he1 : leafE lf = 0 := by unfold leafE; rw [hbad]; rfl
        have HE := Lib.hid (show D = .ok lf by rw [HDF.out, hbad]; rfl)
        have HFIN := Lib.hid (HST.out w17 HB17.out LC HLL.out)
        rw [he1]
        clear hbad he1
        go_wp2_with (first
          | (refine wpList_load_row rfl 41 (.tmp 9) rfl G2 rfl 41 LC.toArray (0, 0) _ H17.out Tryz.underlying41 rfl SZF.out ?_)
          | (refine wpList_store_row rfl 41 (.tmp 2) (.tmp 90) rfl w.heap.size LC.toArray rfl rfl 41 Z H2.out SZF.out HZ2.out HOL.out ?_))
        refine bodyPost_ret (results_cell_tmp rfl _ _ w.heap.size 41 LC.toArray (0, 0) _ rfl rfl HFIN.out.1 Tryz.underlying41 SZF.out) rfl ?_
        rw [HE.out]
        refine ⟨HFIN.out.2, ?_, HLOK.out⟩
        rw [HLC.out]
        exact rfl
end Go.Proofs.YtniakgoefkbkhaaGreatDoor

