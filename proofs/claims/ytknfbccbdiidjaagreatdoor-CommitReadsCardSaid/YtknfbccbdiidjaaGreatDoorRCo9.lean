/- The walk of Check. -/
import Derived.Test.YtknfbccbdiidjaaGreatDoorWs
import Derived.Test.YtknfbccbdiidjaaGreatDoorRCo8
namespace Go.Proofs.YtknfbccbdiidjaaGreatDoor
set_option linter.unusedVariables false
set_option linter.unusedSimpArgs false
open Go.ChangeShapes Go.WideShapes Go.ChangeAt Go.RowKit Go.Maps

def chkR (R : Except Nat (List Nat)) (said : List Nat) : Nat := match R with
 | .error e => e
 | .ok h => if h = said then 0 else 30
theorem lead_hash {K s0 : List Wd} (hs : s0.length = 8) (p q : Pf) (l : LeafT) : IsHash (leadH (leadR K s0 p q l)) := by
 have hz : IsHash (List.replicate 32 0) := ⟨rfl, fun k hk => by rw [List.eq_of_mem_replicate hk]; decide⟩
 unfold leadR
 by_cases hb : leafBad l = true
 · rw [if_pos hb]; exact hz
 · rw [if_neg hb]
   cases lowR K s0 p l with
   | error e => exact hz
   | ok n =>
    dsimp only
    cases highR K s0 q l.id n with
    | error e => exact hz
    | ok m => exact anchorK_hash K s0 hs m
theorem lead_errs {K s0 : List Wd} {p q : Pf} {l : LeafT} {e : Nat} (h : leadR K s0 p q l = .error e) : e ≠ 0 := by
 unfold leadR at h
 by_cases hb : leafBad l = true
 · rw [if_pos hb] at h
   injection h with h
   omega
 · rw [if_neg hb] at h
   cases h1 : lowR K s0 p l with
   | error x =>
    rw [h1] at h
    injection h with h
    rcases pf_errs h1 with e1 | e1 | e1 | e1 <;> omega
   | ok n =>
    rw [h1] at h
    dsimp only at h
    cases h2 : highR K s0 q l.id n with
    | error x =>
     rw [h2] at h
     injection h with h
     rcases pf_errs h2 with e1 | e1 | e1 | e1 <;> omega
    | ok m =>
     rw [h2] at h
     cases h
theorem boxes_chk (w : World) (LW LS LC : List Value) : ∃ W1, W1 = (((((w.alloc (.cells LW.toArray 41))).alloc (.cells LS.toArray 27))).alloc (.cells LC.toArray 32)) ∧
   Has W1 (w.heap.size) 41 LW.toArray ∧ Has W1 (w.heap.size + 1) 27 LS.toArray ∧ Has W1 (w.heap.size + 1 + 1) 32 LC.toArray ∧ Below w.heap.size w W1 := by
 refine ⟨_, rfl, ?_, ?_, ?_, ?_⟩
 · have := Has.new w 41 LW.toArray
   exact ((this).alloc _).alloc _
 · have := Has.new (w.alloc (.cells LW.toArray 41)) 27 LS.toArray
   exact ((by simpa using this : Has _ (w.heap.size + 1) _ _)).alloc _
 · have := Has.new (((w.alloc (.cells LW.toArray 41))).alloc (.cells LS.toArray 27)) 32 LC.toArray
   exact (by simpa using this : Has _ (w.heap.size + 1 + 1) _ _)
 · exact (((Below.refl _ _).alloc (Nat.le_refl _) _).alloc (by simp) _).alloc (by simp; omega) _
set_option maxRecDepth 100000 in
set_option maxHeartbeats 8000000 in
theorem coCheck_is (K s0 : List Wd) (w : World) (hT : Tabs K s0 w) (p q : Pf) (hp : p.At w) (hq : q.At w) (said : List Nat) (hsd : IsHash said) (l : LeafT) (hl : l.ok) :
   Calls Tryz.prog 14 #[.agg (waysC p q).toArray, arr said, .agg l.cells.toArray] w fun e w' => e = .returned (.int .i64 (chkR (leadR K s0 p q l) said : Nat)) ∧ Below w.heap.size w w' := by
 obtain ⟨zk, hzk, hzks, hzkn⟩ := zero_hashT
 have hld : ∀ v, Below w.heap.size w v → Calls Tryz.prog 13 #[.agg (waysC p q).toArray, .agg l.cells.toArray] v fun e w' => e = .returned (.tuple #[arr (leadH (leadR K s0 p q l)), .int .i64 (leadE (leadR K s0 p q l) : Nat)]) ∧ Below v.heap.size v w' := fun v hv => coLead_is K s0 v (hT.below hv hT.low) p q (hp.below hv) (hq.below hv) l hl
 obtain ⟨LW, hLW⟩ : ∃ L, L = waysC p q := ⟨_, rfl⟩
 obtain ⟨LC, hLC⟩ : ∃ L, L = l.cells := ⟨_, rfl⟩
 obtain ⟨LS, hLS⟩ : ∃ L, L = bcells said := ⟨_, rfl⟩
 obtain ⟨R, hR⟩ : ∃ R, R = leadR K s0 p q l := ⟨_, rfl⟩
 obtain ⟨D, hD⟩ : ∃ D, D = leadH R := ⟨_, rfl⟩
 obtain ⟨u, hu⟩ : ∃ u, u = leadE R := ⟨_, rfl⟩
 obtain ⟨LD, hLD⟩ : ∃ L, L = bcells D := ⟨_, rfl⟩
 have hDh : IsHash D := by rw [hD, hR]; exact lead_hash hT.len p q l
 have hcs : (u = 0 ∧ R = .ok D) ∨ (u ≠ 0 ∧ R = .error u) := by
   cases hc : R with
   | error e => rw [hc] at hu; exact .inr ⟨by rw [hu]; exact lead_errs (e := e) (by rw [← hR]; exact hc), by rw [hu]; rfl⟩
   | ok h => rw [hc] at hu hD; exact .inl ⟨hu, by rw [hD]; rfl⟩
 unfold arr at hld ⊢
 rw [← hLW, ← hLC, ← hLS, ← hR]
 rw [← hLW, ← hLC, ← hR, ← hD, ← hu, ← hLD] at hld
 have SZW := Lib.hid (show (Tryz.prog.info? 41).map (·.size) = some LW.toArray.size by rw [List.size_toArray, hLW, waysC_len hp.hash hq.hash]; kernel_rfl)
 have SZC := Lib.hid (show (Tryz.prog.info? 32).map (·.size) = some LC.toArray.size by rw [List.size_toArray, hLC, LeafT.len hl]; kernel_rfl)
 have SZS := Lib.hid (show (Tryz.prog.info? 27).map (·.size) = some LS.toArray.size by rw [List.size_toArray, hLS, bcells_length, hsd.1]; kernel_rfl)
 have SZD := Lib.hid (show (Tryz.prog.info? 27).map (·.size) = some LD.toArray.size by rw [List.size_toArray, hLD, bcells_length, hDh.1]; kernel_rfl)
 have ZZD := Lib.hid (show zk.size = LD.toArray.size by rw [hzks, List.size_toArray, hLD, bcells_length, hDh.1])
 have ONED := Lib.hid (show LD.toArray.all (·.oneCell') = true by rw [hLD]; exact all_oneCell_toArray (bcells_one D))
 have HEQ := Lib.hid (show ∀ v, (Op.equalIn 10000 27 (.agg LD.toArray) (.agg LS.toArray)).run Tryz.prog v = .ok (decide (D = said)) v from fun v => by rw [hLD, hLS]; exact hash_eqC D said hDh hsd v)
 have HCS := Lib.hid hcs
 have HLD := Lib.hid hld
 obtain ⟨W1, hW1, h1, h2, h3, hb1⟩ := boxes_chk w LW LS LC
 have EW := Lib.hid hW1
 have H1 := Lib.hid h1
 have H2 := Lib.hid h2
 have H3 := Lib.hid h3
 have HB1 := Lib.hid hb1
 clear hld hLW hLC hLS hR hD hu hLD hDh hcs hW1 h1 h2 h3 hb1 hzks hp hq hsd hl hT
 go_enter Tryz.func14, Tryz.ntmps14
 go_upto_region 1 with (fail)
 rw [← EW.out]
 obtain ⟨B, hB⟩ : ∃ y, y = w.heap.size := ⟨_, rfl⟩
 rw [← hB] at H1 H2 H3 ⊢
 have EB := Lib.hid hB
 clear hB EW
 go_wp2_with (first
   | (refine wpList_load_row rfl 41 (.tmp 3) rfl B rfl 41 LW.toArray (0, 0) _ H1.out Tryz.underlying41 rfl SZW.out ?_)
   | (refine wpList_load_row rfl 32 (.tmp 5) rfl (B + 2) rfl 32 LC.toArray (0, 0) _ H3.out Tryz.underlying32 rfl SZC.out ?_))
 refine (HLD.out W1 HB1.out).mono ?_
 rintro _ W2 ⟨rfl, hb2⟩
 have HB2 := Lib.hid (HB1.out.trans (hb2.mono HB1.out.size))
 have HS2 := Lib.hid (H2.out.below hb2 H2.out.lt)
 clear hb2 HLD H1 H2 H3 HB1
 go_upto_region 2 with (refine wpList_store_row rfl 27 (.tmp 7) (.tmp 13) rfl W2.heap.size LD.toArray rfl rfl 27 zk (heap_alloc_new W2 _) SZD.out ZZD.out ONED.out ?_)
 have hnw : ∀ C, Has ((W2.alloc (.cells zk 27)).setRow W2.heap.size C) W2.heap.size 27 C ∧ Below W2.heap.size W2 ((W2.alloc (.cells zk 27)).setRow W2.heap.size C) := fun C => by
   rw [World.setRow_alloc_new]
   exact ⟨Has.new W2 _ _, (Below.refl _ _).alloc (Nat.le_refl _) _⟩
 obtain ⟨h7, hb7⟩ := hnw LD.toArray
 clear hnw
 have HS7 := Lib.hid (HS2.out.below hb7 HS2.out.lt)
 have HB7 := Lib.hid (HB2.out.trans (hb7.mono HB2.out.size))
 clear hb7 HS2 HB2
 generalize (W2.alloc (.cells zk 27)).setRow W2.heap.size LD.toArray = W7 at h7 HS7 HB7 ⊢
 generalize W2.heap.size = G7 at h7 ⊢
 have H7 := Lib.hid h7
 clear h7
 by_cases hu0 : u = 0
 · have hok : R = .ok D := by
    rcases HCS.out with ⟨_, e⟩ | ⟨e, _⟩
    · exact e
    · exact absurd hu0 e
   have HOK := Lib.hid hok
   have heq := HEQ.out W7
   obtain ⟨b, hb⟩ : ∃ b, b = decide (D = said) := ⟨_, rfl⟩
   rw [← hb] at heq
   have EBQ := Lib.hid hb
   subst hu0
   clear hok hb
   cases b with
   | true =>
    have HF := Lib.hid (show chkR R said = 0 by rw [HOK.out]; exact if_pos (of_decide_eq_true EBQ.out.symm))
    go_wp2_with (first
      | (refine wpList_load_row rfl 27 (.tmp 7) rfl G7 rfl 27 LD.toArray (0, 0) _ H7.out Tryz.underlying27 rfl SZD.out ?_)
      | (refine wpList_load_row rfl 27 (.tmp 4) rfl (B + 1) rfl 27 LS.toArray (0, 0) _ HS7.out Tryz.underlying27 rfl SZS.out ?_))
    go_ret
    exact ⟨by rw [HF.out]; rfl, HB7.out⟩
   | false =>
    have HF := Lib.hid (show chkR R said = 30 by rw [HOK.out]; exact if_neg (of_decide_eq_false EBQ.out.symm))
    go_wp2_with (first
      | (refine wpList_load_row rfl 27 (.tmp 7) rfl G7 rfl 27 LD.toArray (0, 0) _ H7.out Tryz.underlying27 rfl SZD.out ?_)
      | (refine wpList_load_row rfl 27 (.tmp 4) rfl (B + 1) rfl 27 LS.toArray (0, 0) _ HS7.out Tryz.underlying27 rfl SZS.out ?_))
    go_ret
    exact ⟨by rw [HF.out]; rfl, HB7.out⟩
 · have hu1 : ¬ (u : Int) = 0 := by omega
   have HF := Lib.hid (show chkR R said = u by
    rcases HCS.out with ⟨e, _⟩ | ⟨_, e⟩
    · exact absurd e hu0
    · rw [e]; rfl)
   clear hu0
   go_wp2
   go_ret
   exact ⟨by rw [HF.out]; rfl, HB7.out⟩
end Go.Proofs.YtknfbccbdiidjaaGreatDoor

