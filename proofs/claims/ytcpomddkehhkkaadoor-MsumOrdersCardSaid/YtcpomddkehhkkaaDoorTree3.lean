/- The closure that lays a tree's empty parts. -/
import Derived.Test.YtcpomddkehhkkaaDoorTree2
import Derived.Test.YtcpomddkehhkkaaDoorCells
import Derived.Deep.RegionHeld3
namespace Go.Proofs.YtcpomddkehhkkaaDoor
set_option linter.unusedVariables false
set_option linter.unusedSimpArgs false
open Go.ChangeShapes Go.WideShapes Go.ChangeAt Go.RowKit Go.Maps

def ndV (n : Nd) : List Value := ncells n.h n.s
theorem ndV_len {n : Nd} (h : IsHash n.h) : (ndV n).length = 33 := by simp [ndV, ncells, bcells_length, h.1]
theorem ndV_one (n : Nd) : (ndV n).toArray.all (·.oneCell') = true := all_oneCell_toArray (ncells_one _ _)
/-- what stands in a tree's block while the empty parts are laid: those up to a height. -/
def Filled (K s0 : List Wd) (w : World) (g : Nat) (cs : Array Value) (k : Nat) (wr : World) : Prop :=
  ∃ cs', Has wr g 112 cs' ∧ cs'.size = 8486 ∧ (∀ i, i < 3 ∨ 8484 ≤ i → cs'[i]? = cs[i]?) ∧ (∀ h, h ≤ k → NodeAt cs' (3 + h * 33) (emptyNd K s0 h)) ∧ Kept (· = g) w wr
theorem node_set {w : World} {g : Nat} {cs : Array Value} (h : Has w g 112 cs) (hs : cs.size = 8486) (k : Nat) (hk : k ≤ 256) (n : Nd) (hn : IsHash n.h) :
    ∃ cs', Has (w.setCells g (3 + k * 33) (ndV n)) g 112 cs' ∧ cs'.size = 8486 ∧ (∀ i, i < 3 + k * 33 ∨ 3 + (k + 1) * 33 ≤ i → cs'[i]? = cs[i]?) ∧ NodeAt cs' (3 + k * 33) n ∧ Kept (· = g) w (w.setCells g (3 + k * 33) (ndV n)) := by
  obtain ⟨cur, h1, h2, h3, h4⟩ := Has.setCells (ndV n) (3 + k * 33) w cs h
  have hl := ndV_len hn
  refine ⟨cur, h1, by rw [h2, hs], fun i hi => ?_, fun j v hv => ?_, h4⟩
  · by_cases hlt : i < cs.size
    · rw [h3 i hlt, if_neg (by rw [hl]; omega)]
    · rw [Array.getElem?_eq_none (by omega), Array.getElem?_eq_none (by omega)]
  · have hj := (List.getElem?_eq_some_iff.1 hv).1
    change j < (ndV n).length at hj
    rw [hl] at hj
    rw [h3 _ (by rw [hs]; omega), if_pos (by rw [hl]; omega), Nat.add_sub_cancel_left]
    exact hv
theorem nodeAt_range {w : World} {g o : Nat} {t : TypeId} {cs : Array Value} {n : Nd} (h : Has w g t cs) (hn : NodeAt cs o n) : w.rangeAt g o (ndV n) := fun j v hv => h.cell_is (hn j v hv)

set_option maxRecDepth 100000 in
set_option maxHeartbeats 8000000 in
theorem fill_is (K s0 : List Wd) (w : World) (hT : Tabs K s0 w) (g B1 : Nat) (cs : Array Value) (hg : Has w g 112 cs) (hsz : cs.size = 8486) (hb : w.cell? ⟨B1, 0, none⟩ = some (.pointer (some ⟨g, 0, none⟩))) (hne : B1 ≠ g) (hlow : 2 + 1 ≤ g) :
    Calls Tryd.prog 69 #[.pointer (some ⟨B1, 0, none⟩)] w fun e w' => e = .returned (.tuple #[]) ∧ Filled K s0 w g cs 256 w' := by
  have HG := Lib.hid hg
  have HSZ := Lib.hid hsz
  have HT := Lib.hid hT
  have HNE := Lib.hid hne
  have HLOW := Lib.hid hlow
  have HB := Lib.hid hb
  have hcell : ∀ v, Kept (· = g) w v → v.cell? ⟨B1, 0, none⟩ = some (.pointer (some ⟨g, 0, none⟩)) := fun v hk => cell_held hk hb hne
  have HCELL := Lib.hid hcell
  obtain ⟨L0, hL0⟩ : ∃ L, L = ndV (emptyNd K s0 0) := ⟨_, rfl⟩
  have h0h : IsHash (emptyNd K s0 0).h := empty_hash K s0 hT.len 0
  have hlen0 : L0.length = 33 := by rw [hL0]; exact ndV_len h0h
  have HLEN := Lib.hid (show L0.toArray.size = 33 by rw [List.size_toArray, hlen0])
  have SZ0 := Lib.hid (show (Tryd.prog.info? 29).map (·.size) = some L0.toArray.size by rw [List.size_toArray, hlen0]; kernel_rfl)
  have ONE0 := Lib.hid (show L0.toArray.all (·.oneCell') = true by rw [hL0]; exact ndV_one _)
  have hl : ∀ v, Below w.heap.size w.drew v → Calls Tryd.prog 14 #[.agg #[.slice none 0 0, .int .u64 0]] v fun e v' => e = .returned (.agg L0.toArray) ∧ Below w.heap.size w.drew v' := fun v hv => by
    have hv' : Below w.heap.size w v := below_undrew hv
    have := leafNode_is K s0 v (.slice none 0 0) [] 0 (hT.kept (Kept.of_below (S := fun _ => False) hv') (fun _ h => h.elim)) ((RowB.nil (fun _ => True) v none 0).bytes (Nat.le_refl _)) (by decide) (by decide)
    refine this.mono fun e v' h => ⟨?_, hv.trans (h.2.mono hv.size)⟩
    rw [h.1, hL0]; rfl
  have HL := Lib.hid hl
  have HS := Lib.hid (fun v (h : Below w.heap.size w v) => (And.intro (hcell v (Kept.of_below h)) ((hg.below h hg.lt).there 3 33 (by rw [hsz]; decide)) : v.cell? ⟨B1, 0, none⟩ = some (.pointer (some ⟨g, 0, none⟩)) ∧ v.there g 3 33))
  have hS0 := HS.out w.drew (Below.refl _ _).drew
  have hf1 : ∀ v, Has v g 112 cs → Below w.heap.size w v → ∃ cs1, Has (v.setCells g 3 L0) g 112 cs1 ∧ cs1.size = 8486 ∧ Filled K s0 w g cs 0 (v.setCells g 3 L0) ∧ Kept (· = g) w (v.setCells g 3 L0) := fun v hv hbv => by
    obtain ⟨cs1, p1, p2, p3, p4, p5⟩ := node_set hv hsz 0 (by decide) (emptyNd K s0 0) h0h
    rw [← hL0] at p1 p5
    rw [Nat.zero_mul] at p1 p5
    have hk : Kept (· = g) w (v.setCells g 3 L0) := (Kept.of_below hbv).trans p5
    exact ⟨cs1, p1, p2, ⟨cs1, p1, p2, fun i hi => p3 i (by omega), fun h hh => by obtain rfl : h = 0 := by omega
                                                                                  exact p4, hk⟩, hk⟩
  have HF1 := Lib.hid hf1
  have hs2 : ∀ v, Below w.heap.size w v → Has v g 112 cs → ((v.setCells g 3 L0.toArray.toList).cell? ⟨B1, 0, none⟩ = some (.pointer (some ⟨g, 0, none⟩)) ∧ (v.setCells g 3 L0.toArray.toList).there g 3 33) := fun v hbv hv => by
    obtain ⟨cs1, p1, p2, p3, p4⟩ := hf1 v hv hbv
    exact ⟨hcell _ p4, p1.there 3 33 (by rw [p2]; decide)⟩
  have HS2 := Lib.hid hs2
  clear hg hsz hT hne hlow hcell h0h hlen0 hl hf1 hs2 hL0
  go_enter Tryd.func69, Tryd.ntmps69
  go_upto_region 0 with (fail)
  refine wp_region_noPanic ?_
  refine wp_region_held_drew (S := fun w' => w'.cell? ⟨B1, 0, none⟩ = some (.pointer (some ⟨g, 0, none⟩)) ∧ w'.there g 3 33) (by kernel_rfl) hS0 (fun hH0 => ?_)
  refine wpAnyH_take (i := 0) (v := (.pointer (some ⟨g, 0, none⟩))) rfl (by kernel_rfl) (by kernel_rfl) (by kernel_rfl) (fun _ _ _ h => h) (Or.inl ⟨by kernel_rfl, by intro w' hS; go_simp⟩) hH0 ?_
  simp only [Act.put, List.getElem_toArray, List.getElem_cons_zero, List.getElem_cons_succ, List.setIfInBounds_toArray, List.set_cons_zero, List.set_cons_succ]
  refine wpAnyH_take (i := 1) (v := (.agg #[.slice none 0 0, .int .u64 0])) rfl (by kernel_rfl) (by kernel_rfl) (by kernel_rfl) (fun _ _ _ h => h) (Or.inl ⟨by kernel_rfl, by intro w' hS; go_simp⟩) hH0 ?_
  simp only [Act.put, List.getElem_toArray, List.getElem_cons_zero, List.getElem_cons_succ, List.setIfInBounds_toArray, List.set_cons_zero, List.set_cons_succ]
  refine wpAnyH_take (i := 3) (v := (.pointer (some ⟨g, 0, none⟩))) rfl (by kernel_rfl) (by kernel_rfl) (by kernel_rfl) (fun _ _ _ h => h) (Or.inl ⟨by kernel_rfl, by intro w' hS; go_simp⟩) hH0 ?_
  simp only [Act.put, List.getElem_toArray, List.getElem_cons_zero, List.getElem_cons_succ, List.setIfInBounds_toArray, List.set_cons_zero, List.set_cons_succ]
  refine wpAnyH_take (i := 4) (v := (.pointer (some ⟨g, 3, none⟩))) rfl (by kernel_rfl) (by kernel_rfl) (by kernel_rfl) (fun _ _ _ h => h) (Or.inl ⟨by kernel_rfl, by intro w' hS; go_simp⟩) hH0 ?_
  simp only [Act.put, List.getElem_toArray, List.getElem_cons_zero, List.getElem_cons_succ, List.setIfInBounds_toArray, List.set_cons_zero, List.set_cons_succ]
  refine wpAnyH_ready (rs := [2]) (by kernel_rfl) (by simp) ?_
  refine AllReadyH.cons rfl (fun K hK => ?_) AllReadyH.nil
  go_simp
  refine (HL.out _ (Below.refl _ _)).mono ?_
  rintro _ v1 ⟨rfl, hb1⟩
  have hv1 := HG.out.below (below_undrew hb1) HG.out.lt
  have HV1 := Lib.hid hv1
  have HB1 := Lib.hid (below_undrew hb1)
  have hs1 := HS.out v1 (below_undrew hb1)
  obtain ⟨cs1, p1, p2, p3, p4⟩ := HF1.out v1 hv1 (below_undrew hb1)
  have HP := Lib.hid (And.intro p1 (And.intro p2 (And.intro p3 p4)))
  have hs2 := HS2.out v1 (below_undrew hb1) hv1
  clear hb1 hv1 p1 p2 p3 p4
  refine Shut.out hK _ _ hs1 (fun hH1 => ?_)
  clear hK K
  try simp only [Act.put, List.getElem_toArray, List.getElem_cons_zero, List.getElem_cons_succ, List.setIfInBounds_toArray, List.set_cons_zero, List.set_cons_succ]
  refine wpAnyH_take (i := 5) (v := (.pointer (some ⟨g, 3, none⟩))) rfl (by kernel_rfl) (by kernel_rfl) (by kernel_rfl) (fun _ _ _ h => h) (Or.inl ⟨by kernel_rfl, by intro w' hS; go_simp⟩) hH1 ?_
  simp only [Act.put, List.getElem_toArray, List.getElem_cons_zero, List.getElem_cons_succ, List.setIfInBounds_toArray, List.set_cons_zero, List.set_cons_succ]
  refine wpAnyH_ready (rs := [6]) (by kernel_rfl) (by simp) ?_
  refine AllReadyH.cons rfl (fun K hK => ?_) AllReadyH.nil
  refine step_store_mid rfl 29 (.tmp 7) (.tmp 4) rfl g 3 L0.toArray rfl rfl (HV1.out.there 3 _ (by rw [HLEN.out, HSZ.out]; decide)) SZ0.out ONE0.out ?_
  refine Shut.out hK _ _ hs2 (fun hH2 => ?_)
  clear hK K
  try simp only [Act.put, List.getElem_toArray, List.getElem_cons_zero, List.getElem_cons_succ, List.setIfInBounds_toArray, List.set_cons_zero, List.set_cons_succ]
  refine wpAnyH_done (by kernel_rfl) ?_ _
  refine NoPanic.normal ?_
  obtain ⟨-, -, hfl, -⟩ := HP.out
  have HFL := Lib.hid hfl
  clear hfl HP HV1 HB1 HL HF1 HS2 HS hH0 hs1 hs2 hH1 hH2 hS0
  generalize v1.setCells g 3 L0.toArray.toList = W1 at HFL ⊢
  go_wp2_with fail
  go_loopw [8] (fun i wr => ∃ k : Nat, i = .int .i64 (k : Int) ∧ k ≤ 256 ∧ Filled K s0 w g cs k wr) (fun i _ => 256 - (intOf i).toNat)
  case atStart => exact ⟨0, rfl, by decide, HFL.out⟩
  case round =>
    obtain ⟨k, rfl, hk, hfill⟩ := hrel
    have HFILL := Lib.hid hfill
    clear hfill HFL
    by_cases hlt : k < 256
    · obtain ⟨ck, hc, hcs, hci, hcn, hckp⟩ := HFILL.out
      have hTk : Tabs K s0 wr := HT.out.kept hckp (fun k e => by have := HLOW.out; omega)
      have hnh := empty_hash K s0 HT.out.len k
      have hnh1 := empty_hash K s0 HT.out.len (k + 1)
      obtain ⟨LK, hLK⟩ : ∃ L, L = ndV (emptyNd K s0 k) := ⟨_, rfl⟩
      obtain ⟨LN, hLN⟩ : ∃ L, L = ndV (emptyNd K s0 (k + 1)) := ⟨_, rfl⟩
      have lk : LK.length = 33 := by rw [hLK]; exact ndV_len hnh
      have ln : LN.length = 33 := by rw [hLN]; exact ndV_len hnh1
      have SZK := Lib.hid (show (Tryd.prog.info? 29).map (·.size) = some LK.length by rw [lk]; kernel_rfl)
      have SZN := Lib.hid (show (Tryd.prog.info? 29).map (·.size) = some LN.toArray.size by rw [List.size_toArray, ln]; kernel_rfl)
      have SNN := Lib.hid (show LN.toArray.size = 33 by rw [List.size_toArray, ln])
      have ONEN := Lib.hid (show LN.toArray.all (·.oneCell') = true by rw [hLN]; exact ndV_one _)
      have hrk : ∀ v, Below wr.heap.size wr v → v.rangeAt g (3 + k * 33) LK := fun v hv => by rw [hLK]; exact nodeAt_range (hc.below hv hc.lt) (hcn k (Nat.le_refl _))
      have hS : ∀ v, Below wr.heap.size wr v → (v.cell? ⟨B1, 0, none⟩ = some (.pointer (some ⟨g, 0, none⟩)) ∧ v.rangeAt g (3 + k * 33) LK) := fun v hv => ⟨HCELL.out v (hckp.trans (Kept.of_below hv)), hrk v hv⟩
      have hSK := hS wr.drew (Below.refl _ _).drew
      have hbr : ∀ v, Below wr.heap.size wr.drew v → Calls Tryd.prog 17 #[.agg LK.toArray, .agg LK.toArray] v fun e v' => e = .returned (.tuple #[.agg LN.toArray, .int .i64 0]) ∧ Below wr.heap.size wr.drew v' := fun v hv => by
        have hv' : Below wr.heap.size wr v := below_undrew hv
        have h0 := empty_sum K s0 k
        have := branch_fits K s0 v (emptyNd K s0 k).h (emptyNd K s0 k).h (emptyNd K s0 k).s (emptyNd K s0 k).s (hTk.kept (Kept.of_below (S := fun _ => False) hv') (fun _ h => h.elim)) hnh hnh (by rw [h0]; decide)
        rw [hLK, hLN]
        exact this.mono fun e v' h => ⟨h.1, hv.trans (h.2.mono hv.size)⟩
      have hstep : ∀ v, Has v g 112 ck → Below wr.heap.size wr v → ((v.setCells g (3 + (k + 1) * 33) LN.toArray.toList).cell? ⟨B1, 0, none⟩ = some (.pointer (some ⟨g, 0, none⟩)) ∧ (v.setCells g (3 + (k + 1) * 33) LN.toArray.toList).rangeAt g (3 + k * 33) LK) ∧ Filled K s0 w g cs (k + 1) (v.setCells g (3 + (k + 1) * 33) LN.toArray.toList) := fun v hv hbv => by
        obtain ⟨cs1, p1, p2, p3, p4, p5⟩ := node_set hv hcs (k + 1) (by omega) (emptyNd K s0 (k + 1)) hnh1
        rw [← hLN] at p1 p5
        have hkk : Kept (· = g) w (v.setCells g (3 + (k + 1) * 33) LN) := hckp.trans ((Kept.of_below hbv).trans p5)
        have hold : ∀ h, h ≤ k → NodeAt cs1 (3 + h * 33) (emptyNd K s0 h) := fun h hh j u hu => by
          have hj := (List.getElem?_eq_some_iff.1 hu).1
          have hl33 : (ncells (emptyNd K s0 h).h (emptyNd K s0 h).s).length = 33 := ndV_len (empty_hash K s0 HT.out.len h)
          rw [hl33] at hj
          rw [p3 _ (.inl (by have := Nat.mul_le_mul_right 33 hh; omega))]
          exact hcn h hh j u hu
        refine ⟨⟨HCELL.out _ hkk, ?_⟩, cs1, p1, p2, fun i hi => ?_, fun h hh => ?_, hkk⟩
        · rw [hLK]; exact nodeAt_range p1 (hold k (Nat.le_refl _))
        · rw [p3 i (by omega)]; exact hci i hi
        · rcases Nat.lt_or_ge k h with e | e
          · obtain rfl : h = k + 1 := by omega
            exact p4
          · exact hold h e
      have HS := Lib.hid hS
      have HBR := Lib.hid hbr
      have HSTEP := Lib.hid hstep
      have HC := Lib.hid hc
      have HSZC := Lib.hid hcs
      have hi1 : ¬ (257 : Int) ≤ (k : Int) := by omega
      have hi2 : ¬ (257 : Int) ≤ (k : Int) + 1 := by omega
      have hi3 : (0 : Int) ≤ (k : Int) + 1 := by omega
      have hq : wrap64 ((k : Int) + 1) = (k : Int) + 1 := by unfold wrap64; omega
      have hq2 : IntKind.i64.wrap ((k : Int) + 1) = (k : Int) + 1 := by rw [IntKind.wrap_i64]; omega
      clear hc hcs hci hcn hckp hTk hnh hnh1 hLK hLN lk ln hrk hS hbr hstep HFILL
      go_upto_region 4 with (fail)
      refine wp_region_noPanic ?_
      refine wp_region_held_drew (S := fun w' => w'.cell? ⟨B1, 0, none⟩ = some (.pointer (some ⟨g, 0, none⟩)) ∧ w'.rangeAt g (3 + k * 33) LK) (by kernel_rfl) hSK (fun hH0 => ?_)
      refine wpAnyH_take (i := 0) (v := (.pointer (some ⟨g, 0, none⟩))) rfl (by kernel_rfl) (by kernel_rfl) (by kernel_rfl) (fun _ _ _ h => h) (Or.inl ⟨by kernel_rfl, by intro w' hS; go_simp⟩) hH0 ?_
      simp only [Act.put, List.getElem_toArray, List.getElem_cons_zero, List.getElem_cons_succ, List.setIfInBounds_toArray, List.set_cons_zero, List.set_cons_succ]
      refine wpAnyH_take (i := 1) (v := (.int .i64 (k : Int))) rfl (by kernel_rfl) (by kernel_rfl) (by kernel_rfl) (fun _ _ _ h => h) (Or.inl ⟨by kernel_rfl, by intro w' hS; go_simp⟩) hH0 ?_
      simp only [Act.put, List.getElem_toArray, List.getElem_cons_zero, List.getElem_cons_succ, List.setIfInBounds_toArray, List.set_cons_zero, List.set_cons_succ]
      refine wpAnyH_take (i := 2) (v := (.int .i64 ((k : Int) + 1))) rfl (by kernel_rfl) (by kernel_rfl) (by kernel_rfl) (fun _ _ _ h => h) (Or.inl ⟨by kernel_rfl, by intro w' hS; go_simp⟩) hH0 ?_
      simp only [Act.put, List.getElem_toArray, List.getElem_cons_zero, List.getElem_cons_succ, List.setIfInBounds_toArray, List.set_cons_zero, List.set_cons_succ]
      refine wpAnyH_take (i := 3) (v := (.pointer (some ⟨g, 0, none⟩))) rfl (by kernel_rfl) (by kernel_rfl) (by kernel_rfl) (fun _ _ _ h => h) (Or.inl ⟨by kernel_rfl, by intro w' hS; go_simp⟩) hH0 ?_
      simp only [Act.put, List.getElem_toArray, List.getElem_cons_zero, List.getElem_cons_succ, List.setIfInBounds_toArray, List.set_cons_zero, List.set_cons_succ]
      refine wpAnyH_take (i := 4) (v := (.int .i64 (k : Int))) rfl (by kernel_rfl) (by kernel_rfl) (by kernel_rfl) (fun _ _ _ h => h) (Or.inl ⟨by kernel_rfl, by intro w' hS; go_simp⟩) hH0 ?_
      simp only [Act.put, List.getElem_toArray, List.getElem_cons_zero, List.getElem_cons_succ, List.setIfInBounds_toArray, List.set_cons_zero, List.set_cons_succ]
      refine wpAnyH_take (i := 5) (v := (.pointer (some ⟨g, 0, none⟩))) rfl (by kernel_rfl) (by kernel_rfl) (by kernel_rfl) (fun _ _ _ h => h) (Or.inl ⟨by kernel_rfl, by intro w' hS; go_simp⟩) hH0 ?_
      simp only [Act.put, List.getElem_toArray, List.getElem_cons_zero, List.getElem_cons_succ, List.setIfInBounds_toArray, List.set_cons_zero, List.set_cons_succ]
      refine wpAnyH_take (i := 6) (v := (.pointer (some ⟨g, 3, none⟩))) rfl (by kernel_rfl) (by kernel_rfl) (by kernel_rfl) (fun _ _ _ h => h) (Or.inl ⟨by kernel_rfl, by intro w' hS; go_simp⟩) hH0 ?_
      simp only [Act.put, List.getElem_toArray, List.getElem_cons_zero, List.getElem_cons_succ, List.setIfInBounds_toArray, List.set_cons_zero, List.set_cons_succ]
      refine wpAnyH_take (i := 7) (v := (.pointer (some ⟨g, 3 + k * 33, none⟩))) rfl (by kernel_rfl) (by kernel_rfl) (by kernel_rfl) (fun _ _ _ h => h) (Or.inl ⟨by kernel_rfl, by intro w' hS; go_simp⟩) hH0 ?_
      simp only [Act.put, List.getElem_toArray, List.getElem_cons_zero, List.getElem_cons_succ, List.setIfInBounds_toArray, List.set_cons_zero, List.set_cons_succ]
      refine wpAnyH_take (i := 8) (v := (.agg LK.toArray)) rfl (by kernel_rfl) (by kernel_rfl) (by kernel_rfl) (fun _ _ _ h => h) (yieldsIf_load_mid (by kernel_rfl) 29 (.tmp 19) rfl g (3 + k * 33) rfl LK _ (fun w' h => h.2) Tryd.underlying29 rfl SZK.out) hH0 ?_
      simp only [Act.put, List.getElem_toArray, List.getElem_cons_zero, List.getElem_cons_succ, List.setIfInBounds_toArray, List.set_cons_zero, List.set_cons_succ]
      refine wpAnyH_take (i := 9) (v := (.pointer (some ⟨g, 0, none⟩))) rfl (by kernel_rfl) (by kernel_rfl) (by kernel_rfl) (fun _ _ _ h => h) (Or.inl ⟨by kernel_rfl, by intro w' hS; go_simp⟩) hH0 ?_
      simp only [Act.put, List.getElem_toArray, List.getElem_cons_zero, List.getElem_cons_succ, List.setIfInBounds_toArray, List.set_cons_zero, List.set_cons_succ]
      refine wpAnyH_take (i := 10) (v := (.int .i64 (k : Int))) rfl (by kernel_rfl) (by kernel_rfl) (by kernel_rfl) (fun _ _ _ h => h) (Or.inl ⟨by kernel_rfl, by intro w' hS; go_simp⟩) hH0 ?_
      simp only [Act.put, List.getElem_toArray, List.getElem_cons_zero, List.getElem_cons_succ, List.setIfInBounds_toArray, List.set_cons_zero, List.set_cons_succ]
      refine wpAnyH_take (i := 11) (v := (.pointer (some ⟨g, 0, none⟩))) rfl (by kernel_rfl) (by kernel_rfl) (by kernel_rfl) (fun _ _ _ h => h) (Or.inl ⟨by kernel_rfl, by intro w' hS; go_simp⟩) hH0 ?_
      simp only [Act.put, List.getElem_toArray, List.getElem_cons_zero, List.getElem_cons_succ, List.setIfInBounds_toArray, List.set_cons_zero, List.set_cons_succ]
      refine wpAnyH_take (i := 12) (v := (.pointer (some ⟨g, 3, none⟩))) rfl (by kernel_rfl) (by kernel_rfl) (by kernel_rfl) (fun _ _ _ h => h) (Or.inl ⟨by kernel_rfl, by intro w' hS; go_simp⟩) hH0 ?_
      simp only [Act.put, List.getElem_toArray, List.getElem_cons_zero, List.getElem_cons_succ, List.setIfInBounds_toArray, List.set_cons_zero, List.set_cons_succ]
      refine wpAnyH_take (i := 13) (v := (.pointer (some ⟨g, 3 + k * 33, none⟩))) rfl (by kernel_rfl) (by kernel_rfl) (by kernel_rfl) (fun _ _ _ h => h) (Or.inl ⟨by kernel_rfl, by intro w' hS; go_simp⟩) hH0 ?_
      simp only [Act.put, List.getElem_toArray, List.getElem_cons_zero, List.getElem_cons_succ, List.setIfInBounds_toArray, List.set_cons_zero, List.set_cons_succ]
      refine wpAnyH_take (i := 14) (v := (.agg LK.toArray)) rfl (by kernel_rfl) (by kernel_rfl) (by kernel_rfl) (fun _ _ _ h => h) (yieldsIf_load_mid (by kernel_rfl) 29 (.tmp 25) rfl g (3 + k * 33) rfl LK _ (fun w' h => h.2) Tryd.underlying29 rfl SZK.out) hH0 ?_
      simp only [Act.put, List.getElem_toArray, List.getElem_cons_zero, List.getElem_cons_succ, List.setIfInBounds_toArray, List.set_cons_zero, List.set_cons_succ]
      refine wpAnyH_take (i := 19) (v := (.pointer (some ⟨g, 0, none⟩))) rfl (by kernel_rfl) (by kernel_rfl) (by kernel_rfl) (fun _ _ _ h => h) (Or.inl ⟨by kernel_rfl, by intro w' hS; go_simp⟩) hH0 ?_
      simp only [Act.put, List.getElem_toArray, List.getElem_cons_zero, List.getElem_cons_succ, List.setIfInBounds_toArray, List.set_cons_zero, List.set_cons_succ]
      refine wpAnyH_take (i := 20) (v := (.pointer (some ⟨g, 3, none⟩))) rfl (by kernel_rfl) (by kernel_rfl) (by kernel_rfl) (fun _ _ _ h => h) (Or.inl ⟨by kernel_rfl, by intro w' hS; go_simp⟩) hH0 ?_
      simp only [Act.put, List.getElem_toArray, List.getElem_cons_zero, List.getElem_cons_succ, List.setIfInBounds_toArray, List.set_cons_zero, List.set_cons_succ]
      refine wpAnyH_ready (rs := [15]) (by kernel_rfl) (by simp) ?_
      refine AllReadyH.cons rfl (fun K hK => ?_) AllReadyH.nil
      go_simp
      refine (HBR.out _ (Below.refl _ _)).mono ?_
      rintro _ v1 ⟨rfl, hb1⟩
      have hv1 := HC.out.below (below_undrew hb1) HC.out.lt
      have HV1 := Lib.hid hv1
      have hs1 := HS.out v1 (below_undrew hb1)
      obtain ⟨hs2, hfin⟩ := HSTEP.out v1 hv1 (below_undrew hb1)
      have HFIN := Lib.hid hfin
      clear hb1 hv1 hfin
      refine Shut.out hK _ _ hs1 (fun hH1 => ?_)
      clear hK K
      try simp only [Act.put, List.getElem_toArray, List.getElem_cons_zero, List.getElem_cons_succ, List.setIfInBounds_toArray, List.set_cons_zero, List.set_cons_succ]
      refine wpAnyH_take (i := 16) (v := (.tuple #[.agg LN.toArray, .int .i64 0])) rfl (by kernel_rfl) (by kernel_rfl) (by kernel_rfl) (fun _ _ _ h => h) (Or.inl ⟨by kernel_rfl, by intro w' hS; go_simp⟩) hH1 ?_
      simp only [Act.put, List.getElem_toArray, List.getElem_cons_zero, List.getElem_cons_succ, List.setIfInBounds_toArray, List.set_cons_zero, List.set_cons_succ]
      refine wpAnyH_take (i := 17) (v := (.agg LN.toArray)) rfl (by kernel_rfl) (by kernel_rfl) (by kernel_rfl) (fun _ _ _ h => h) (Or.inl ⟨by kernel_rfl, by intro w' hS; go_simp⟩) hH1 ?_
      simp only [Act.put, List.getElem_toArray, List.getElem_cons_zero, List.getElem_cons_succ, List.setIfInBounds_toArray, List.set_cons_zero, List.set_cons_succ]
      refine wpAnyH_take (i := 18) (v := (.int .i64 0)) rfl (by kernel_rfl) (by kernel_rfl) (by kernel_rfl) (fun _ _ _ h => h) (Or.inl ⟨by kernel_rfl, by intro w' hS; go_simp⟩) hH1 ?_
      simp only [Act.put, List.getElem_toArray, List.getElem_cons_zero, List.getElem_cons_succ, List.setIfInBounds_toArray, List.set_cons_zero, List.set_cons_succ]
      refine wpAnyH_take (i := 21) (v := (.pointer (some ⟨g, 3 + (k + 1) * 33, none⟩))) rfl (by kernel_rfl) (by kernel_rfl) (by kernel_rfl) (fun _ _ _ h => h) (Or.inl ⟨by kernel_rfl, by intro w' hS; go_simp⟩) hH1 ?_
      simp only [Act.put, List.getElem_toArray, List.getElem_cons_zero, List.getElem_cons_succ, List.setIfInBounds_toArray, List.set_cons_zero, List.set_cons_succ]
      refine wpAnyH_ready (rs := [22]) (by kernel_rfl) (by simp) ?_
      refine AllReadyH.cons rfl (fun K hK => ?_) AllReadyH.nil
      refine step_store_mid rfl 29 (.tmp 32) (.tmp 28) rfl g (3 + (k + 1) * 33) LN.toArray rfl rfl (HV1.out.there _ _ (by rw [HSZC.out, SNN.out]; omega)) SZN.out ONEN.out ?_
      refine Shut.out hK _ _ hs2 (fun hH2 => ?_)
      clear hK K
      try simp only [Act.put, List.getElem_toArray, List.getElem_cons_zero, List.getElem_cons_succ, List.setIfInBounds_toArray, List.set_cons_zero, List.set_cons_succ]
      refine wpAnyH_done (by kernel_rfl) ?_ _
      refine NoPanic.normal ?_
      have HFN := Lib.hid HFIN.out
      clear hH0 hH1 hH2 hs1 hs2 hSK HFIN HV1 HSTEP HC
      generalize v1.setCells g (3 + (k + 1) * 33) LN.toArray.toList = W2 at HFN ⊢
      go_wp2
      go_roundw
      case rel => exact ⟨k + 1, by go_num, by omega, HFN.out⟩
      case measure => simp [intOf]; omega
    · obtain rfl : k = 256 := by omega
      go_wp2
      go_end0
      exact ⟨rfl, HFILL.out⟩
end Go.Proofs.YtcpomddkehhkkaaDoor
