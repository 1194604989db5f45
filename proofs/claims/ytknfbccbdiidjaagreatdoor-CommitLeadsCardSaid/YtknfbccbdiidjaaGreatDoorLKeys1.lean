/- The walk of sha.mix: a block of 64 bytes, mixed into a state that lies inside a larger block. -/
import Derived.Test.YtknfbccbdiidjaaGreatDoorWu
import Derived.Test.YtknfbccbdiidjaaGreatDoorLSha7
import Derived.Test.YtknfbccbdiidjaaGreatDoorLMem
import Derived.Tactics2
import Derived.Defers
import Derived.Laws.Pointers
import Derived.Laws.LoneSync
import Derived.RegionTactic
import Derived.RegionCalls
import Derived.ChangeAlike
import Derived.Test.YtknfbccbdiidjaaGreatDoorLFc
import Derived.Shelf.SlSortCmp.WholeK
namespace Go.Proofs.YtknfbccbdiidjaaGreatDoor
set_option linter.unusedVariables false
set_option linter.unusedSimpArgs false
open Go.ChangeShapes Go.WideShapes Go.ChangeAt Go.RowKit

set_option maxRecDepth 100000 in
set_option maxHeartbeats 2000000 in
theorem mixT_is (K s0 : List Wd) (w : World) (g : Nat) (t : TypeId) (P : List Value) (hP : P.length = 4) (s : List Wd) (rest : List Value) (bs : List Nat) (bg bo c : Nat) (hT : Tabs K s0 w) (hg : Has w g t (P ++ (wcells s ++ rest)).toArray) (h3 : 2 + 1 ≤ g) (hs : s.length = 8)
  (hb : ∀ i, i < 64 → w.cell? ⟨bg, bo + i, none⟩ = some (.int .u8 (bs.getD i 0 : Nat))) (hlt : ∀ i, i < 64 → bs.getD i 0 < 256) :
  Calls Tryz.prog 107 #[.pointer (some ⟨g, 4, none⟩), .slice (some ⟨bg, bo, none⟩) 64 c] w fun e w' =>
    e = .returned (.tuple #[]) ∧ Has w' g t (P ++ (wcells (mixF K s bs) ++ rest)).toArray ∧ Kept (· = g) w w' := by
 obtain ⟨i32, Ak, _, _, _⟩ := info_parts info_u32
 have HT := Hh hT
 have HG := Hh hg
 have HB := Hh hb
 have Ah := Hh hlt
 clear hT hg hb hlt
 go_enter Tryz.func107, Tryz.ntmps107
 go_wp2
 go_loopw [26] (fun i wr => ∃ k : Nat, k ≤ 16 ∧ i = .int .i64 k ∧ Has wr w.heap.size 54 (wcells (schedTo bs k)).toArray ∧ Kept (fun _ => False) w wr) (fun i _ => 16 - (intOf i).toNat)
 case atStart => exact ⟨0, by omega, rfl, Has.new w _ _, (Kept.refl _ _).alloc _⟩
 case round =>
  obtain ⟨k, hk, rfl, hW, hK⟩ := hrel
  have HW := Hh hW
  have HK := Hh hK
  clear hW hK
  by_cases hlt : k < 16
  · have c0 := cell_kept HK.o (HB.o (4 * k) (by omega)) (fun h => h)
    have c1 := cell_kept HK.o (HB.o (4 * k + 1) (by omega)) (fun h => h)
    have c2 := cell_kept HK.o (HB.o (4 * k + 2) (by omega)) (fun h => h)
    have c3 := cell_kept HK.o (HB.o (4 * k + 3) (by omega)) (fun h => h)
    have l0 := Ah.o (4 * k) (by omega)
    have l1 := Ah.o (4 * k + 1) (by omega)
    have l2 := Ah.o (4 * k + 2) (by omega)
    have l3 := Ah.o (4 * k + 3) (by omega)
    obtain ⟨b0, h0⟩ : ∃ b, b = bs.getD (4 * k) 0 := ⟨_, rfl⟩
    obtain ⟨b1, h1⟩ : ∃ b, b = bs.getD (4 * k + 1) 0 := ⟨_, rfl⟩
    obtain ⟨b2, h2⟩ : ∃ b, b = bs.getD (4 * k + 2) 0 := ⟨_, rfl⟩
    obtain ⟨b3, h3⟩ : ∃ b, b = bs.getD (4 * k + 3) 0 := ⟨_, rfl⟩
    rw [← h0] at c0 l0
    rw [← h1] at c1 l1
    rw [← h2] at c2 l2
    rw [← h3] at c3 l3
    have Ac := word_num b0 b1 b2 b3 l0 l1 l2 l3
    have hwd : BitVec.ofNat 32 (((b0 * 256 + b1) * 256 + b2) * 256 + b3) = word bs k := by unfold word; rw [← h0, ← h1, ← h2, ← h3]
    rw [hwd] at Ac
    clear hwd h0 h1 h2 h3
    have Ag := Hh Ac
    clear Ac
    have hf : wr.frozen? ⟨w.heap.size, k, none⟩ = false := HW.o.free k
    have Aj : wr.cell? ⟨w.heap.size, k, none⟩ = some (.int .u32 (((schedTo bs k).getD k 0).toNat : Int)) := HW.o.cell_is (by rw [List.getElem?_toArray]; exact wcells_get _ _ (by rw [schedTo_length _ _ (by omega)]; omega))
    have Aa := (HW.o.drew).set k (.int .u32 ((word bs k).toNat : Int))
    rw [List.setIfInBounds_toArray, wcells_set] at Aa
    have hnx : nextWord bs (sched bs k) k = word bs k := by unfold nextWord; rw [if_pos hlt]
    rw [← hnx, schedTo_set bs k (by omega), hnx] at Aa
    have Ab := Hh Aa
    clear Aa hnx
    go_wp2_with fail
    go_region
    go_wp2
    go_roundw
    case rel => exact ⟨k + 1, by omega, by go_num, by rw [Ag.o]; exact Ab.o, (HK.o.drew).set (.inr (Nat.le_refl _)) _⟩
    case measure => simp [intOf]; omega
  · have Ae := Hh (show k = 16 by omega)
    have Af : Hid (Has wr w.heap.size 54 (wcells (schedTo bs 16)).toArray) := by rw [← Ae.o]; exact HW
    clear HW
    go_wp2
    go_loopw [6] (fun i wr => ∃ k : Nat, 16 ≤ k ∧ k ≤ 64 ∧ i = .int .i64 k ∧ Has wr w.heap.size 54 (wcells (schedTo bs k)).toArray ∧ Kept (fun _ => False) w wr) (fun i _ => 64 - (intOf i).toNat)
    case atStart => exact ⟨16, by omega, by omega, rfl, Af.out, HK.o⟩
    case round =>
     clear Af HK
     obtain ⟨k, hk0, hk, rfl, hW, hK⟩ := hrel
     have HW := Hh hW
     have HK := Hh hK
     clear hW hK
     by_cases hlt : k < 64
     · have cellAt : ∀ i, i < k → wr.cell? ⟨w.heap.size, i, none⟩ = some (.int .u32 (((sched bs k).getD i 0).toNat : Int)) := fun i hi => by
        rw [← schedTo_get bs k i hi]
        exact HW.o.cell_is (by rw [List.getElem?_toArray]; exact wcells_get _ _ (by rw [schedTo_length _ _ (by omega)]; omega))
       have c16 := cellAt (k - 16) (by omega)
       have c15 := cellAt (k - 15) (by omega)
       have c7 := cellAt (k - 7) (by omega)
       have c2 := cellAt (k - 2) (by omega)
       clear cellAt
       obtain ⟨x16, h16⟩ : ∃ x, x = (sched bs k).getD (k - 16) 0 := ⟨_, rfl⟩
       obtain ⟨x15, h15⟩ : ∃ x, x = (sched bs k).getD (k - 15) 0 := ⟨_, rfl⟩
       obtain ⟨x7, h7⟩ : ∃ x, x = (sched bs k).getD (k - 7) 0 := ⟨_, rfl⟩
       obtain ⟨x2, h2⟩ : ∃ x, x = (sched bs k).getD (k - 2) 0 := ⟨_, rfl⟩
       rw [← h16] at c16
       rw [← h15] at c15
       rw [← h7] at c7
       rw [← h2] at c2
       have hnx : nextWord bs (sched bs k) k = x16 + lil0 x15 + x7 + lil1 x2 := by unfold nextWord; rw [if_neg (by omega), h16, h15, h7, h2]
       clear h16 h15 h7 h2
       have Aa : ∀ n, Has ((wr.drewN n).setCell ⟨w.heap.size, k, none⟩ (.int .u32 ((x16 + lil0 x15 + x7 + lil1 x2).toNat : Int))) w.heap.size 54 (wcells (schedTo bs (k + 1))).toArray := fun n => by
        have h := (HW.o.drewN n).set k (.int .u32 ((x16 + lil0 x15 + x7 + lil1 x2).toNat : Int))
        rw [List.setIfInBounds_toArray, wcells_set, ← hnx, schedTo_set bs k (by omega)] at h
        rw [← hnx]; exact h
       have Ab := Hh Aa
       clear Aa
       have Am := Hh hnx
       clear hnx
       have hf : wr.frozen? ⟨w.heap.size, k, none⟩ = false := HW.o.free k
       have Aj : wr.cell? ⟨w.heap.size, k, none⟩ = some (.int .u32 (((schedTo bs k).getD k 0).toNat : Int)) := HW.o.cell_is (by rw [List.getElem?_toArray]; exact wcells_get _ _ (by rw [schedTo_length _ _ (by omega)]; omega))
       go_wp2_with fail
       go_quiet (fail)
       go_wp2_with fail
       refine (rot_is _ x15 (-7) 7 (by decide) (by decide) (by decide)).mono ?_
       rintro _ _ ⟨rfl, rfl⟩
       go_wp2_with fail
       refine (rot_is _ x15 (-18) 18 (by decide) (by decide) (by decide)).mono ?_
       rintro _ _ ⟨rfl, rfl⟩
       go_wp2_with fail
       refine (rot_is _ x2 (-17) 17 (by decide) (by decide) (by decide)).mono ?_
       rintro _ _ ⟨rfl, rfl⟩
       go_wp2_with fail
       refine (rot_is _ x2 (-19) 19 (by decide) (by decide) (by decide)).mono ?_
       rintro _ _ ⟨rfl, rfl⟩
       go_wp2_with fail
       go_region
       go_wp2
       go_roundw
       case rel =>
        exact ⟨k + 1, by omega, by omega, by go_num, by rw [lil0_num, lil1_num, add4_num]; exact Ab.o _, (HK.o.drewN _).set (.inr (Nat.le_refl _)) _⟩
       case measure => simp [intOf]; omega
     · have Ae := Hh (show k = 64 by omega)
       have Af : Hid (Has wr w.heap.size 54 (wcells (sched bs 64)).toArray) := by rw [← schedTo_full, ← Ae.o]; exact HW
       clear HW
       have G := HG.o.kept HK.o (fun h => h)
       have cellG : ∀ i, i < 8 → wr.cell? ⟨g, 4 + i, none⟩ = some (.int .u32 ((s.getD i 0).toNat : Int)) := fun i hi =>
        G.cell_is (by rw [List.getElem?_toArray, List.getElem?_append_right (by omega), hP, Nat.add_sub_cancel_left, List.getElem?_append_left (by rw [wcells_length]; omega)]; exact wcells_get _ _ (by omega))
       have g0 : wr.cell? ⟨g, 4, none⟩ = some (.int .u32 ((s.getD 0 0).toNat : Int)) := cellG 0 (by decide)
       have g1 : wr.cell? ⟨g, 5, none⟩ = some (.int .u32 ((s.getD 1 0).toNat : Int)) := cellG 1 (by decide)
       have g2 : wr.cell? ⟨g, 6, none⟩ = some (.int .u32 ((s.getD 2 0).toNat : Int)) := cellG 2 (by decide)
       have g3 : wr.cell? ⟨g, 7, none⟩ = some (.int .u32 ((s.getD 3 0).toNat : Int)) := cellG 3 (by decide)
       have g4 : wr.cell? ⟨g, 8, none⟩ = some (.int .u32 ((s.getD 4 0).toNat : Int)) := cellG 4 (by decide)
       have g5 : wr.cell? ⟨g, 9, none⟩ = some (.int .u32 ((s.getD 5 0).toNat : Int)) := cellG 5 (by decide)
       have g6 : wr.cell? ⟨g, 10, none⟩ = some (.int .u32 ((s.getD 6 0).toNat : Int)) := cellG 6 (by decide)
       have g7 : wr.cell? ⟨g, 11, none⟩ = some (.int .u32 ((s.getD 7 0).toNat : Int)) := cellG 7 (by decide)
       clear cellG G
       obtain ⟨x0, e0⟩ : ∃ x, x = s.getD 0 0 := ⟨_, rfl⟩
       obtain ⟨x1, e1⟩ : ∃ x, x = s.getD 1 0 := ⟨_, rfl⟩
       obtain ⟨x2, e2⟩ : ∃ x, x = s.getD 2 0 := ⟨_, rfl⟩
       obtain ⟨x3, e3⟩ : ∃ x, x = s.getD 3 0 := ⟨_, rfl⟩
       obtain ⟨x4, e4⟩ : ∃ x, x = s.getD 4 0 := ⟨_, rfl⟩
       obtain ⟨x5, e5⟩ : ∃ x, x = s.getD 5 0 := ⟨_, rfl⟩
       obtain ⟨x6, e6⟩ : ∃ x, x = s.getD 6 0 := ⟨_, rfl⟩
       obtain ⟨x7, e7⟩ : ∃ x, x = s.getD 7 0 := ⟨_, rfl⟩
       have Ad : Hid (rnds K (sched bs 64) (St.of s) 0 = ⟨x0, x1, x2, x3, x4, x5, x6, x7⟩) := Hh (by show St.of s = _; unfold St.of; rw [← e0, ← e1, ← e2, ← e3, ← e4, ← e5, ← e6, ← e7])
       rw [← e0] at g0
       rw [← e1] at g1
       rw [← e2] at g2
       rw [← e3] at g3
       rw [← e4] at g4
       rw [← e5] at g5
       rw [← e6] at g6
       rw [← e7] at g7
       clear e0 e1 e2 e3 e4 e5 e6 e7
       go_wp2_with fail
       go_quiet (fail)
       go_wp2_with fail
       go_loopw [140, 11, 12, 13, 14, 15, 16, 17, 18] (fun i a b c d e f g' h wr => ∃ k : Nat, k ≤ 64 ∧ i = .int .i64 k ∧
        a = .int .u32 ((rnds K (sched bs 64) (St.of s) k).a.toNat : Int) ∧ b = .int .u32 ((rnds K (sched bs 64) (St.of s) k).b.toNat : Int) ∧ c = .int .u32 ((rnds K (sched bs 64) (St.of s) k).c.toNat : Int) ∧ d = .int .u32 ((rnds K (sched bs 64) (St.of s) k).d.toNat : Int) ∧
        e = .int .u32 ((rnds K (sched bs 64) (St.of s) k).e.toNat : Int) ∧ f = .int .u32 ((rnds K (sched bs 64) (St.of s) k).f.toNat : Int) ∧ g' = .int .u32 ((rnds K (sched bs 64) (St.of s) k).g.toNat : Int) ∧ h = .int .u32 ((rnds K (sched bs 64) (St.of s) k).h.toNat : Int) ∧
        Has wr w.heap.size 54 (wcells (sched bs 64)).toArray ∧ Kept (fun _ => False) w wr) (fun i _ _ _ _ _ _ _ _ _ => 64 - (intOf i).toNat)
       case atStart => exact ⟨0, by omega, rfl, by rw [Ad.out], by rw [Ad.out], by rw [Ad.out], by rw [Ad.out], by rw [Ad.out], by rw [Ad.out], by rw [Ad.out], by rw [Ad.out], Af.out.drewN _, HK.o.drewN _⟩
       case round =>
        clear Af HK
        obtain ⟨k, hk, rfl, rfl, rfl, rfl, rfl, rfl, rfl, rfl, rfl, hW, hK⟩ := hrel
        have HW := Hh hW
        have HK := Hh hK
        clear hW hK
        by_cases hlt : k < 64
        · have hnx : rnds K (sched bs 64) (St.of s) (k + 1) = rnd (rnds K (sched bs 64) (St.of s) k) (K.getD k 0) ((sched bs 64).getD k 0) := rfl
          have ck := (HT.o.kept HK.o (fun _ h => h.elim)).k k hlt
          have cw : wr.cell? ⟨w.heap.size, k, none⟩ = some (.int .u32 (((sched bs 64).getD k 0).toNat : Int)) := HW.o.cell_is (by rw [List.getElem?_toArray]; exact wcells_get _ _ (by rw [sched_length]; omega))
          obtain ⟨kk, hkk⟩ : ∃ x, x = K.getD k 0 := ⟨_, rfl⟩
          obtain ⟨ww, hww⟩ : ∃ x, x = (sched bs 64).getD k 0 := ⟨_, rfl⟩
          rw [← hkk, ← hww] at hnx
          rw [← hkk] at ck
          rw [← hww] at cw
          clear hkk hww
          generalize rnds K (sched bs 64) (St.of s) k = S at hnx ⊢
          obtain ⟨a1, b1, c1, d1, e1, f1, g1, h1⟩ := S
          have Am := Hh hnx
          clear hnx
          go_wp2_with fail
          refine (rot_is _ e1 (-6) 6 (by decide) (by decide) (by decide)).mono ?_
          rintro _ _ ⟨rfl, rfl⟩
          go_wp2_with fail
          refine (rot_is _ e1 (-11) 11 (by decide) (by decide) (by decide)).mono ?_
          rintro _ _ ⟨rfl, rfl⟩
          go_wp2_with fail
          refine (rot_is _ e1 (-25) 25 (by decide) (by decide) (by decide)).mono ?_
          rintro _ _ ⟨rfl, rfl⟩
          go_wp2_with fail
          go_quiet (fail)
          go_wp2_with fail
          refine (rot_is _ a1 (-2) 2 (by decide) (by decide) (by decide)).mono ?_
          rintro _ _ ⟨rfl, rfl⟩
          go_wp2_with fail
          refine (rot_is _ a1 (-13) 13 (by decide) (by decide) (by decide)).mono ?_
          rintro _ _ ⟨rfl, rfl⟩
          go_wp2_with fail
          refine (rot_is _ a1 (-22) 22 (by decide) (by decide) (by decide)).mono ?_
          rintro _ _ ⟨rfl, rfl⟩
          go_wp2
          go_roundw
          case rel =>
           simp only [big1_num, cho_num, big0_num, maj_num]
           refine ⟨k + 1, by omega, by go_num, ?_, ?_, ?_, ?_, ?_, ?_, ?_, ?_, HW.o.drewN _, HK.o.drewN _⟩
           all_goals rw [Am.o]
           · rw [add5_num, add_wd, add_wd]; rfl
           · rfl
           · rfl
           · rfl
           · rw [add5_num, add_wd]; rfl
           · rfl
           · rfl
           · rfl
          case measure => simp [intOf]; omega
        · have Ae := Hh (show k = 64 by omega)
          have hL : mixF K s bs = addTo s (rnds K (sched bs 64) (St.of s) k).list 8 := by unfold mixF; rw [← Ae.o]
          generalize rnds K (sched bs 64) (St.of s) k = S at hL ⊢
          obtain ⟨a1, b1, c1, d1, e1, f1, g1, h1⟩ := S
          have HL := Hh hL
          clear hL HW
          have hix : ∀ i, i < 8 → (#[Value.int .u32 (a1.toNat : Int), .int .u32 (b1.toNat : Int), .int .u32 (c1.toNat : Int), .int .u32 (d1.toNat : Int), .int .u32 (e1.toNat : Int), .int .u32 (f1.toNat : Int), .int .u32 (g1.toNat : Int), .int .u32 (h1.toNat : Int)] : Array Value)[i]? = some (.int .u32 (((St.list ⟨a1, b1, c1, d1, e1, f1, g1, h1⟩).getD i 0).toNat : Int)) := fun i hi => by
           have : i = 0 ∨ i = 1 ∨ i = 2 ∨ i = 3 ∨ i = 4 ∨ i = 5 ∨ i = 6 ∨ i = 7 := by omega
           rcases this with rfl | rfl | rfl | rfl | rfl | rfl | rfl | rfl <;> rfl
          have Ai := Hh hix
          clear hix
          have Al : (#[Value.int .u32 (a1.toNat : Int), .int .u32 (b1.toNat : Int), .int .u32 (c1.toNat : Int), .int .u32 (d1.toNat : Int), .int .u32 (e1.toNat : Int), .int .u32 (f1.toNat : Int), .int .u32 (g1.toNat : Int), .int .u32 (h1.toNat : Int)] : Array Value).size = 8 := rfl
          go_wp2_with fail
          generalize (#[Value.int .u32 (a1.toNat : Int), .int .u32 (b1.toNat : Int), .int .u32 (c1.toNat : Int), .int .u32 (d1.toNat : Int), .int .u32 (e1.toNat : Int), .int .u32 (f1.toNat : Int), .int .u32 (g1.toNat : Int), .int .u32 (h1.toNat : Int)] : Array Value) = X at Ai Al ⊢
          generalize St.list ⟨a1, b1, c1, d1, e1, f1, g1, h1⟩ = L at Ai HL ⊢
          go_loopw [214] (fun i wr => ∃ k : Nat, k ≤ 8 ∧ i = .int .i64 k ∧ Has wr g t (P ++ (wcells (addTo s L k) ++ rest)).toArray ∧ Kept (· = g) w wr) (fun i _ => 8 - (intOf i).toNat)
          case atStart => exact ⟨0, by omega, rfl, by rw [addTo_zero _ _ hs]; exact HG.o.kept HK.o (fun h => h), HK.o.mono (fun _ _ h => h.elim)⟩
          case round =>
           clear Ae HK
           obtain ⟨k, hk, rfl, hW, hK⟩ := hrel
           have HW := Hh hW
           have HK := Hh hK
           clear hW hK
           by_cases hlt : k < 8
           · have hx := Ai.o k hlt
             have cg : wr.cell? ⟨g, 4 + k, none⟩ = some (.int .u32 ((s.getD k 0).toNat : Int)) := HW.o.cell_is (by
              rw [List.getElem?_toArray, List.getElem?_append_right (by omega), hP, Nat.add_sub_cancel_left, List.getElem?_append_left (by rw [wcells_length, addTo_length]; omega), wcells_get _ _ (by rw [addTo_length]; omega)]
              simp [addTo, hlt])
             have hf : wr.frozen? ⟨g, 4 + k, none⟩ = false := HW.o.free (4 + k)
             have Aa : Has (wr.setCell ⟨g, 4 + k, none⟩ (.int .u32 ((s.getD k 0 + L.getD k 0).toNat : Int))) g t (P ++ (wcells (addTo s L (k + 1)) ++ rest)).toArray := by
              have h := HW.o.set (4 + k) (.int .u32 ((s.getD k 0 + L.getD k 0).toNat : Int))
              rw [List.setIfInBounds_toArray, List.set_append_right _ _ (by omega), hP, Nat.add_sub_cancel_left, List.set_append_left _ _ (by rw [wcells_length, addTo_length]; omega), wcells_set, addTo_set s L k hlt] at h
              exact h
             obtain ⟨xs, hxs⟩ : ∃ x, x = s.getD k 0 := ⟨_, rfl⟩
             obtain ⟨xl, hxl⟩ : ∃ x, x = L.getD k 0 := ⟨_, rfl⟩
             rw [← hxs, ← hxl] at Aa
             rw [← hxs] at cg
             rw [← hxl] at hx
             clear hxs hxl
             have Ab := Hh Aa
             clear Aa
             have hidx := fun w => index_row (t := 53) Tryz.underlying53 i32 Ak (by kernel_rfl) (by kernel_rfl) hlt hx w
             go_wp2_with fail
             go_region
             go_wp2
             go_roundw
             case rel => exact ⟨k + 1, by omega, by go_num, by rw [add_wd]; exact Ab.o, (HK.o.set (.inl rfl) _).drew⟩
             case measure => simp [intOf]; omega
           · have Ae := Hh (show k = 8 by omega)
             go_wp2
             go_end0
             exact ⟨rfl, by rw [HL.o, ← Ae.o]; exact HW.o, HK.o⟩
section
/- The walk of (*sha.Hasher).Write of a hasher inside a tag. -/

def tcells (P : List Value) (U : Value) (s : List Wd) (rest : List Nat) (at_ n : Int) : List Value := P ++ (hcells s rest at_ n ++ [U])
def HObjT (P : List Value) (U : Value) (w : World) (g : Nat) (s : List Wd) (rest : List Nat) (at_ n : Int) : Prop := Has w g 178 (tcells P U s rest at_ n).toArray ∧ s.length = 8 ∧ rest.length = 64 ∧ (∀ x ∈ rest, x < 256) ∧ P.length = 4
def HshT (P : List Value) (U : Value) (K s0 : List Wd) (w : World) (g : Nat) (m : List Nat) : Prop :=
 ∃ rest, HObjT P U w g (eat K (m.length / 64) s0 m) rest ((m.length % 64 : Nat) : Int) (m.length : Nat) ∧ rest.take (m.length % 64) = m.drop (64 * (m.length / 64)) ∧ m.length ≤ 1000000000
section
variable {P : List Value} {U : Value}
theorem hcells_len (s : List Wd) (rest : List Nat) (at_ n : Int) (hs : s.length = 8) (hr : rest.length = 64) : (hcells s rest at_ n).length = 74 := by
 simp [hcells, wcells_length, bcells_length, hs, hr]
theorem tcells_mid (hP : P.length = 4) (s : List Wd) (rest : List Nat) (at_ n : Int) (hs : s.length = 8) (hr : rest.length = 64) (i : Nat) (hi : i < 74) : (tcells P U s rest at_ n)[4 + i]? = (hcells s rest at_ n)[i]? := by
 unfold tcells
 rw [List.getElem?_append_right (by omega), hP, Nat.add_sub_cancel_left, List.getElem?_append_left (by rw [hcells_len s rest at_ n hs hr]; exact hi)]
theorem tcells_set (hP : P.length = 4) (s : List Wd) (rest : List Nat) (at_ n : Int) (hs : s.length = 8) (hr : rest.length = 64) (i : Nat) (hi : i < 74) (v : Value) : (tcells P U s rest at_ n).set (4 + i) v = P ++ ((hcells s rest at_ n).set i v ++ [U]) := by
 unfold tcells
 rw [List.set_append_right _ _ (by omega), hP, Nat.add_sub_cancel_left, List.set_append_left _ _ (by rw [hcells_len s rest at_ n hs hr]; exact hi)]
theorem hc_at (s : List Wd) (rest : List Nat) (at_ n : Int) (hs : s.length = 8) (hr : rest.length = 64) : (hcells s rest at_ n)[72]? = some (.int .i64 at_) ∧ (hcells s rest at_ n)[73]? = some (.int .u64 n) := by
 constructor
 · rw [hcells, List.getElem?_append_right (by rw [wcells_length]; omega), List.getElem?_append_right (by rw [wcells_length, bcells_length]; omega), wcells_length, bcells_length, hs, hr]; rfl
 · rw [hcells, List.getElem?_append_right (by rw [wcells_length]; omega), List.getElem?_append_right (by rw [wcells_length, bcells_length]; omega), wcells_length, bcells_length, hs, hr]; rfl
theorem HObjT.facts {w : World} {g : Nat} {s : List Wd} {rest : List Nat} {at_ n : Int} (h : HObjT P U w g s rest at_ n) :
   w.cell? ⟨g, 76, none⟩ = some (.int .i64 at_) ∧ w.cell? ⟨g, 77, none⟩ = some (.int .u64 n) := by
 obtain ⟨hh, hs, hr, _, hP⟩ := h
 constructor
 · refine hh.cell_is ?_
   rw [List.getElem?_toArray, tcells_mid hP s rest at_ n hs hr 72 (by decide)]
   exact (hc_at s rest at_ n hs hr).1
 · refine hh.cell_is ?_
   rw [List.getElem?_toArray, tcells_mid hP s rest at_ n hs hr 73 (by decide)]
   exact (hc_at s rest at_ n hs hr).2
theorem HObjT.free {w : World} {g : Nat} {s : List Wd} {rest : List Nat} {at_ n : Int} (h : HObjT P U w g s rest at_ n) (i : Nat) : w.frozen? ⟨g, i, none⟩ = false := h.1.free i
theorem HObjT.kept {S : Nat → Prop} {w w' : World} {g : Nat} {s : List Wd} {rest : List Nat} {at_ n : Int} (h : HObjT P U w g s rest at_ n) (hk : Kept S w w') (hg : ¬ S g) : HObjT P U w' g s rest at_ n :=
 ⟨h.1.kept hk hg, h.2⟩
theorem HObjT.setAt {w : World} {g : Nat} {s : List Wd} {rest : List Nat} {at_ n : Int} (h : HObjT P U w g s rest at_ n) (x : Int) : HObjT P U (w.setCell ⟨g, 76, none⟩ (.int .i64 x)) g s rest x n := by
 obtain ⟨hh, hs, hr, h4, hP⟩ := h
 refine ⟨?_, hs, hr, h4, hP⟩
 have := hh.set 76 (.int .i64 x)
 rw [List.setIfInBounds_toArray, tcells_set hP s rest at_ n hs hr 72 (by decide), hcells, List.set_append_right _ _ (by rw [wcells_length]; omega), List.set_append_right _ _ (by rw [wcells_length, bcells_length]; omega), wcells_length, bcells_length, hs, hr] at this
 exact this
theorem HObjT.setN {w : World} {g : Nat} {s : List Wd} {rest : List Nat} {at_ n : Int} (h : HObjT P U w g s rest at_ n) (x : Int) : HObjT P U (w.setCell ⟨g, 77, none⟩ (.int .u64 x)) g s rest at_ x := by
 obtain ⟨hh, hs, hr, h4, hP⟩ := h
 refine ⟨?_, hs, hr, h4, hP⟩
 have := hh.set 77 (.int .u64 x)
 rw [List.setIfInBounds_toArray, tcells_set hP s rest at_ n hs hr 73 (by decide), hcells, List.set_append_right _ _ (by rw [wcells_length]; omega), List.set_append_right _ _ (by rw [wcells_length, bcells_length]; omega), wcells_length, bcells_length, hs, hr] at this
 exact this
theorem HObjT.rest {w : World} {g : Nat} {s : List Wd} {rest : List Nat} {at_ n : Int} (h : HObjT P U w g s rest at_ n) (i : Nat) (hi : i < 64) : w.cell? ⟨g, 12 + i, none⟩ = some (.int .u8 (rest.getD i 0 : Nat)) := by
 obtain ⟨hh, hs, hr, _, hP⟩ := h
 refine hh.cell_is ?_
 rw [List.getElem?_toArray, show 12 + i = 4 + (8 + i) by omega, tcells_mid hP s rest at_ n hs hr (8 + i) (by omega), hcells, List.getElem?_append_right (by rw [wcells_length]; omega), List.getElem?_append_left (by rw [wcells_length, bcells_length]; omega), wcells_length, hs, Nat.add_sub_cancel_left, bcells_get _ _ (by omega)]
theorem tcells_splice (hP : P.length = 4) (s : List Wd) (rest b : List Nat) (at_ n : Int) (o : Nat) (hs : s.length = 8) (hr : rest.length = 64) (ho : o + b.length ≤ 64) :
  splice (tcells P U s rest at_ n) (12 + o) (bcells b) = tcells P U s (rest.take o ++ (b ++ rest.drop (o + b.length))) at_ n := by
 have h := hcells_splice s rest b at_ n o hs hr ho
 have hl := hcells_len s rest at_ n hs hr
 unfold splice at h
 unfold splice tcells
 rw [← h, bcells_length, List.take_append, List.take_of_length_le (by omega), hP, show 12 + o - 4 = 8 + o by omega, List.take_append_of_le_length (by omega), List.drop_append, List.drop_eq_nil_of_le (by omega), hP, show 12 + o + b.length - 4 = 8 + o + b.length by omega, List.nil_append, List.drop_append_of_le_length (by omega)]
 simp only [List.append_assoc, bcells_length]
theorem HObjT.spliced {w w' : World} {g : Nat} {s : List Wd} {rest b : List Nat} {at_ n : Int} {o : Nat} (h : HObjT P U w g s rest at_ n) (ho : o + b.length ≤ 64) (hb : ∀ x ∈ b, x < 256)
   (hw : Has w' g 178 (splice (tcells P U s rest at_ n) (12 + o) (bcells b)).toArray) : HObjT P U w' g s (rest.take o ++ (b ++ rest.drop (o + b.length))) at_ n := by
 obtain ⟨_, hs, hr, h4, hP⟩ := h
 rw [tcells_splice hP s rest b at_ n o hs hr ho] at hw
 refine ⟨hw, hs, by simp; omega, fun x hx => ?_, hP⟩
 rcases List.mem_append.1 hx with hx | hx
 · exact h4 x (List.mem_of_mem_take hx)
 · rcases List.mem_append.1 hx with hx | hx
   · exact hb x hx
   · exact h4 x (List.mem_of_mem_drop hx)
theorem HObjT.full {w : World} {g : Nat} {s : List Wd} {rest : List Nat} {at_ n : Int} (h : HObjT P U w g s rest at_ n) :
  12 + 64 ≤ (tcells P U s rest at_ n).length := by
 rw [tcells, List.length_append, List.length_append, hcells_len s rest at_ n h.2.1 h.2.2.1, h.2.2.2.2]
 show 12 + 64 ≤ 4 + (74 + 1)
 decide
theorem HObjT.mix {w : World} {g : Nat} {s : List Wd} {rest : List Nat} {at_ n : Int} (h : HObjT P U w g s rest at_ n) : Has w g 178 (P ++ (wcells s ++ (bcells rest ++ [Value.int .i64 at_, Value.int .u64 n] ++ [U]))).toArray := by
 have := h.1
 rwa [tcells, hcells, List.append_assoc] at this
theorem HObjT.mixed {w : World} {g : Nat} {s : List Wd} {rest : List Nat} {at_ n : Int} (h : Has w g 178 (P ++ (wcells s ++ (bcells rest ++ [Value.int .i64 at_, Value.int .u64 n] ++ [U]))).toArray) (hs : s.length = 8) (hr : rest.length = 64) (h4 : ∀ x ∈ rest, x < 256) (hP : P.length = 4) : HObjT P U w g s rest at_ n := by
 refine ⟨?_, hs, hr, h4, hP⟩
 rw [tcells, hcells, List.append_assoc]; exact h
end
set_option maxRecDepth 100000 in
set_option maxHeartbeats 2000000 in
theorem writeT_is (P : List Value) (U : Value) (K s0 : List Wd) (w : World) (g : Nat) (m : List Nat) (v : Value) (b : List Nat) (hT : Tabs K s0 w) (h : HshT P U K s0 w g m) (h3 : 2 + 1 ≤ g) (hB : Bytes w g v b) (hl : m.length + b.length ≤ 1000000000) :
  Calls Tryz.prog 82 #[.pointer (some ⟨g, 4, none⟩), v] w fun e w' =>
    e = .returned (.tuple #[]) ∧ HshT P U K s0 w' g (m ++ b) ∧ Kept (· = g) w w' := by
 have HB := Hh hB
 obtain ⟨a, c, rfl, hbc, Aa, hbp⟩ := hB
 obtain ⟨rest, hO, hrt, _⟩ := h
 obtain ⟨c72, c73⟩ := hO.facts
 have f73 := hO.free 77
 have HO := Hh hO
 have HT := Hh hT
 have Ay := Hh hrt
 have Au := Hh Aa
 obtain ⟨ml, hml⟩ : ∃ x : Nat, x = m.length := ⟨_, rfl⟩
 obtain ⟨bl, hbl⟩ : ∃ x : Nat, x = b.length := ⟨_, rfl⟩
 obtain ⟨at0, hat⟩ : ∃ x : Nat, x = m.length % 64 := ⟨_, rfl⟩
 have Ah : at0 < 64 := by omega
 rw [← hml, ← hbl] at hl
 rw [← hml] at c73
 rw [← hat] at c72
 rw [← hbl] at hbc
 rw [← hbl]
 have HM := Hh hml
 have HL := Hh hbl
 have Ai := Hh hat
 clear hT hO hrt Aa hbp hml hbl hat
 go_enter Tryz.func82, Tryz.ntmps82
 go_upto_if 21 with (fail)
 go_cut [1] (fun v wr => ∃ q rest', 64 * q ≤ ml + bl ∧ HObjT P U wr g (eat K q s0 (m ++ b)) rest' 0 ((ml + bl : Nat) : Int) ∧ Bytes wr g v ((m ++ b).drop (64 * q)) ∧ Kept (· = g) w wr)
 case first =>
  have hO1 : HObjT P U (w.setCell ⟨g, 77, none⟩ (.int .u64 ((ml : Int) + (bl : Int)))) g (eat K (m.length / 64) s0 m) rest (at0 : Int) ((ml : Int) + (bl : Int)) := by
    have := HO.o.setN ((ml : Int) + (bl : Int))
    rw [← Ai.o] at this
    exact this
  have hK1 : Kept (· = g) w (w.setCell ⟨g, 77, none⟩ (.int .u64 ((ml : Int) + (bl : Int)))) := (Kept.refl (· = g) w).set (.inl rfl) _
  generalize w.setCell ⟨g, 77, none⟩ (.int .u64 ((ml : Int) + (bl : Int))) = w1 at hO1 hK1 ⊢
  have hB1 := HB.o.kept hK1
  obtain ⟨d72, d73⟩ := hO1.facts
  clear c72 c73 f73 HO
  have Ad := Hh hO1
  have An := Hh hK1
  have As := Hh hB1
  clear hO1 hK1 hB1
  by_cases h0 : at0 = 0
  · subst h0
    go_wp2
    go_meet
    case rel =>
      refine ⟨m.length / 64, rest, by have := HM.o; have := HL.o; omega, ?_, ?_, An.o⟩
      · rw [eat_append _ _ _ _ _ (by omega), Int.natCast_add]; exact Ad.o
      · rw [List.drop_append, List.drop_eq_nil_of_le (by have := Ai.o; omega), show 64 * (m.length / 64) - m.length = 0 by omega, List.nil_append, List.drop_zero, HL.o]; exact As.o
  · have Af := Hh (fun k (hk : k ≤ bl) hp => As.o.src rfl k (by rw [← HL.o]; exact hk) hp)
    by_cases hs : at0 + bl < 64
    · have hln : (bcells (b.take bl)).length = bl := by rw [bcells_length, List.length_take]; have := HL.o; omega
      have hcut := fun w => cut_from (t := 171) (n := 64) (by kernel_rfl) (by kernel_rfl) size1 w g 12 at0 Ah
      go_wp2_with fail
      go_region_law (refine step_copy_kept rfl (.tmp 29) (.tmp 30) 48 48 rfl 5 Tryz.underlying48 size_u8 (some ⟨g, 12 + at0, none⟩) a (64 - at0) (64 - at0) bl c (by rfl) (by rfl) g (12 + at0) (tcells P U (eat K (m.length / 64) s0 m) rest (at0 : Int) ((ml : Int) + (bl : Int))) 178 (w := w1.drew) Ad.o.1 (bcells (b.take bl)) (by rw [hln]; exact (Nat.min_eq_left (by omega)).symm) (fun hp => ⟨rfl, Af.o bl (Nat.le_refl _) hp⟩) (by have := Ad.o.full; rw [hln]; omega) (bcells_one _) ?_; intro w2 hw2 hk2)
      have ho2 := Ad.o.spliced (o := at0) (b := b.take bl) (by rw [List.length_take]; omega) (fun x hx => Au.o x (List.mem_of_mem_take hx)) hw2
      obtain ⟨e72, e73⟩ := ho2.facts
      have f72 := ho2.free 76
      have Ab := Hh (ho2.setAt ((at0 : Int) + (bl : Int)))
      have Al := Hh ((An.o.trans hk2.undrew).set (.inl rfl) (p := ⟨g, 76, none⟩) (.int .i64 ((at0 : Int) + (bl : Int))))
      clear ho2 hw2 hk2 Ad An
      have Ac : HshT P U K s0 (w2.setCell ⟨g, 76, none⟩ (.int .i64 ((at0 : Int) + (bl : Int)))) g (m ++ b) := by
        have h1 := HM.o
        have h2 := HL.o
        have h4 := Ai.o
        have e1 : (m ++ b).length = ml + bl := by rw [List.length_append]; omega
        have e2 : (ml + bl) / 64 = m.length / 64 := by omega
        have e3 : (ml + bl) % 64 = at0 + bl := by omega
        refine ⟨rest.take at0 ++ (b.take bl ++ rest.drop (at0 + (b.take bl).length)), ?_, ?_, by omega⟩
        · rw [e1, e2, e3, eat_append _ _ _ _ _ (by omega), Int.natCast_add, Int.natCast_add]
          exact Ab.o
        · rw [e1, e2, e3, h4, h2]
          exact part_rest m b rest _ Ay.o
      have Ak := Hh Ac
      clear Ac
      go_wp2
      all_goals
        refine bodyPost_ret (results_none rfl _ _ _) rfl ?_
        exact ⟨rfl, Ak.o, Al.o⟩
    · have hln : (bcells (b.take (64 - at0))).length = 64 - at0 := by rw [bcells_length, List.length_take]; have := HL.o; omega
      have hcut := fun w => cut_from (t := 171) (n := 64) (by kernel_rfl) (by kernel_rfl) size1 w g 12 at0 Ah
      obtain ⟨a1, c1, hs1, hs2, hB2⟩ := As.o.cut (64 - at0) (by have := HL.o; omega)
      rw [← HL.o] at hs1 hs2 hB2
      have e64 : ((64 - at0 : Nat) : Int) = 64 - (at0 : Int) := by omega
      rw [e64] at hs1 hs2
      have A0 := Hh hB2
      clear hB2
      go_wp2_with fail
      go_region_law (refine step_copy_kept rfl (.tmp 29) (.tmp 30) 48 48 rfl 5 Tryz.underlying48 size_u8 (some ⟨g, 12 + at0, none⟩) a (64 - at0) (64 - at0) bl c (by rfl) (by rfl) g (12 + at0) (tcells P U (eat K (m.length / 64) s0 m) rest (at0 : Int) ((ml : Int) + (bl : Int))) 178 (w := w1.drew) Ad.o.1 (bcells (b.take (64 - at0))) (by rw [hln]; exact (Nat.min_eq_right (by omega)).symm) (fun hp => ⟨rfl, Af.o (64 - at0) (by omega) hp⟩) (by have := Ad.o.full; rw [hln]; omega) (bcells_one _) ?_; intro w2 hw2 hk2)
      have ho2 := Ad.o.spliced (o := at0) (b := b.take (64 - at0)) (by rw [List.length_take]; omega) (fun x hx => Au.o x (List.mem_of_mem_take hx)) hw2
      have hlt : (b.take (64 - at0)).length = 64 - at0 := by rw [← bcells_length]; exact hln
      have Ao : rest.take at0 ++ (b.take (64 - at0) ++ rest.drop (at0 + (b.take (64 - at0)).length)) = ((m ++ b).drop (64 * (m.length / 64))).take 64 := by
        have h4 := Ai.o
        have h2 := HL.o
        rw [hlt, show at0 + (64 - at0) = 64 by omega, h4]
        exact full_block m b rest _ Ay.o Ad.o.2.2.1 (by omega) (by omega)
      rw [Ao] at ho2
      obtain ⟨e72, e73⟩ := ho2.facts
      have f72 := ho2.free 76
      have ho3 := ho2.setAt ((at0 : Int) + (64 - (at0 : Int)))
      have hk3 := (An.o.trans hk2.undrew).set (.inl rfl) (p := ⟨g, 76, none⟩) (.int .i64 ((at0 : Int) + (64 - (at0 : Int))))
      have Ae := Hh ho3
      have Am := Hh hk3
      have Aj := Hh ((A0.o.kept hk2.undrew).kept ((Kept.refl (· = g) w2).set (.inl rfl) (p := ⟨g, 76, none⟩) (.int .i64 ((at0 : Int) + (64 - (at0 : Int))))))
      have Ax := Hh (show 64 * (m.length / 64) ≤ m.length by omega)
      clear ho2 ho3 hk3 hw2 hk2 Ad An A0 Ao hln hlt
      go_wp2_with fail
      generalize w2.setCell ⟨g, 76, none⟩ (.int .i64 ((at0 : Int) + (64 - (at0 : Int)))) = w3 at Ae Am Aj ⊢
      have Ar := Hh (HT.o.kept Am.o (fun k e => by have : k = g := e; omega))
      go_region_law (go_simp; go_at_call 107; refine (mixT_is K s0 w3.drew g 178 P Ae.o.2.2.2.2 _ _ _ g 12 64 ⟨Ar.o.k, Ar.o.s, Ar.o.low, Ar.o.len⟩ Ae.o.mix h3 Ae.o.2.1 (fun i hi => Ae.o.rest i hi) (fun i hi => get_low Ae.o.2.2.2.1 i) ).mono ?_; rintro _ w4 ⟨rfl, hg4, hk4⟩)
      have ho4 : HObjT P U w4 g _ _ _ _ := HObjT.mixed hg4 (mixF_length _ _ _) Ae.o.2.2.1 Ae.o.2.2.2.1 Ae.o.2.2.2.2
      rw [eat_append K s0 (m.length / 64) m b Ax.o |>.symm, eat_more] at ho4
      obtain ⟨g72, _⟩ := ho4.facts
      have k72 := ho4.free 76
      have A6 := Hh (ho4.setAt 0)
      have hk5 := (Am.o.trans hk4.undrew).set (.inl rfl) (p := ⟨g, 76, none⟩) (.int .i64 0)
      have A4 := Hh hk5
      have Av := Hh ((Aj.o.kept hk4.undrew).kept ((Kept.refl (· = g) w4).set (.inl rfl) (p := ⟨g, 76, none⟩) (.int .i64 0)))
      clear ho4 hk5 hk4 hg4 Ae Am Aj
      go_wp2
      go_meet
      case rel =>
        refine ⟨m.length / 64 + 1, ((m ++ b).drop (64 * (m.length / 64))).take 64, by have := HM.o; have := Ai.o; omega, ?_, ?_, A4.o⟩
        · rw [Int.natCast_add]; exact A6.o
        · have e : (m ++ b).drop (64 * (m.length / 64 + 1)) = b.drop (64 - at0) := by
           have h4 := Ai.o
           rw [List.drop_append, List.drop_eq_nil_of_le (by omega), List.nil_append]
           congr 1
           omega
          rw [e]; exact Av.o
 case rest =>
  clear c72 c73 f73 HB Ay Au Ai hbc
  go_wp2_with fail
  go_loopw [1] (fun v wr => ∃ q rest', 64 * q ≤ ml + bl ∧ HObjT P U wr g (eat K q s0 (m ++ b)) rest' 0 ((ml + bl : Nat) : Int) ∧ Bytes wr g v ((m ++ b).drop (64 * q)) ∧ Kept (· = g) w wr) (fun v _ => lenOf v)
  case atStart => exact hcut
  case round =>
    obtain ⟨q, rest', hq, ho, hb, hk⟩ := hrel
    have Aw := Hh hb
    obtain ⟨a2, c2, rfl, hbc, Aa, hbp⟩ := hb
    obtain ⟨n, hn⟩ : ∃ n, n = ((m ++ b).drop (64 * q)).length := ⟨_, rfl⟩
    rw [← hn] at Aw hbp hbc
    rw [← hn]
    have hnl : n = ml + bl - 64 * q := by rw [hn, List.length_drop, List.length_append]; have := HM.o; have := HL.o; omega
    have Ab := Hh ho
    have Al := Hh hk
    have Ag := Hh Aa
    have HN := Hh hn
    have A1 := Hh hnl
    clear ho hk Aa hn hnl
    by_cases hlt : 64 ≤ n
    · have hn0 : 0 < n := by omega
      have hc64 : (64 : Int) ≤ (c2 : Int) := by omega
      obtain ⟨bg, bo, rfl, hne, hcl⟩ := hbp hn0
      clear hbp
      have A3 := Hh hcl
      clear hcl
      obtain ⟨a3, c3, hs1, hs2, hB3⟩ := Aw.o.cut 64 hlt
      simp only [Int.cast_ofNat_Int] at hs1 hs2
      rw [List.drop_drop] at hB3
      have Az := Hh hB3
      clear hB3
      have Aq := Hh (HT.o.kept Al.o (fun k e => by have : k = g := e; omega))
      go_wp2_with fail
      go_region_law (go_simp; go_at_call 107; refine (mixT_is K s0 wr.drew g 178 P Ab.o.2.2.2.2 _ _ (((m ++ b).drop (64 * q)).take 64) bg bo c2 ⟨Aq.o.k, Aq.o.s, Aq.o.low, Aq.o.len⟩ Ab.o.mix h3 Ab.o.2.1 (fun i hi => take_cell A3.o (by omega) i hi) (fun i hi => get_low (fun x hx => Ag.o x (List.mem_of_mem_take hx)) i)).mono ?_; rintro _ w4 ⟨rfl, hg4, hk4⟩)
      have hg5 : HObjT P U w4 g (eat K (q + 1) s0 (m ++ b)) rest' 0 ((ml + bl : Nat) : Int) := by
        rw [← eat_more]; exact HObjT.mixed hg4 (mixF_length _ _ _) Ab.o.2.2.1 Ab.o.2.2.2.1 Ab.o.2.2.2.2
      have A7 := Hh hg5
      have A5 := Hh (Al.o.trans hk4.undrew)
      have A2 := Hh (Az.o.kept hk4.undrew)
      clear hg5 hg4 hk4 Ab Al Az
      go_wp2
      go_roundw
      case rel => exact ⟨q + 1, rest', by have := A1.o; omega, A7.o, by rw [show 64 * (q + 1) = 64 * q + 64 by omega]; exact A2.o, A5.o⟩
      case measure => simp [lenOf]; omega
    · have Ap : 0 < (bcells ((m ++ b).drop (64 * q))).length → ∃ ad, a2 = some ad ∧ ∀ j u, (bcells ((m ++ b).drop (64 * q)))[j]? = some u → wr.cell? (ad.add j) = some u := fun hp => by
        have := Aw.o.src rfl ((m ++ b).drop (64 * q)).length (Nat.le_refl _) (by rw [List.take_length]; exact hp)
        rw [List.take_length] at this
        exact this
      have Af := Hh Ap
      clear Ap hbp
      have hcs : (bcells ((m ++ b).drop (64 * q))).length = n := by rw [bcells_length]; exact HN.o.symm
      go_wp2_with (refine wpList_copy_kept rfl (.tmp 74) (.tmp 75) 48 48 rfl 5 Tryz.underlying48 size_u8 (some ⟨g, 12, none⟩) a2 64 64 n c2 rfl rfl g 12 (tcells P U (eat K q s0 (m ++ b)) rest' 0 ((ml + bl : Nat) : Int)) 178 Ab.o.1 (bcells ((m ++ b).drop (64 * q))) (by rw [hcs]; exact (Nat.min_eq_left (by omega)).symm) (fun hp => ⟨rfl, Af.o hp⟩) (by have := Ab.o.full; rw [hcs]; omega) (bcells_one _) ?_)
      intro w2 hw2 hk2
      have ho2 := Ab.o.spliced (o := 0) (b := (m ++ b).drop (64 * q)) (by rw [← HN.o]; omega) Ag.o hw2
      obtain ⟨e72, _⟩ := ho2.facts
      have f72 := ho2.free 76
      have ho3 := ho2.setAt (n : Int)
      have hk3 := (Al.o.trans hk2).set (.inl rfl) (p := ⟨g, 76, none⟩) (.int .i64 (n : Int))
      have Ac : HshT P U K s0 (w2.setCell ⟨g, 76, none⟩ (.int .i64 (n : Int))) g (m ++ b) := by
        have h1 := HM.o
        have h2 := HL.o
        have h4 := A1.o
        have e1 : (m ++ b).length = ml + bl := by rw [List.length_append]; omega
        have e2 : (ml + bl) / 64 = q := by omega
        have e3 : (ml + bl) % 64 = n := by omega
        refine ⟨rest'.take 0 ++ ((m ++ b).drop (64 * q) ++ rest'.drop (0 + ((m ++ b).drop (64 * q)).length)), ?_, ?_, by omega⟩
        · rw [e1, e2, e3]; exact ho3
        · rw [e1, e2, e3, List.take_zero, List.nil_append, HN.o, List.take_append_of_le_length (Nat.le_refl _), List.take_length]
      have Ak := Hh Ac
      have Am := Hh hk3
      clear ho2 ho3 hk3 Ac hw2 hk2 Ab Al
      go_wp2
      go_end0
      exact ⟨rfl, Ak.o, Am.o⟩
end
/- sync.Once in one goroutine: done already; not yet done, the lock free. -/

theorem once_disable (w : World) : (callFunc 138 #[]).run Tryz.prog w = .ok (.value (.tuple #[])) w := run_call_mark0 Tryz.func138 (by kernel_rfl) (by kernel_rfl) (by kernel_rfl) .disable (by kernel_rfl) w
theorem once_enable (w : World) : (callFunc 140 #[]).run Tryz.prog w = .ok (.value (.tuple #[])) w := run_call_mark0 Tryz.func140 (by kernel_rfl) (by kernel_rfl) (by kernel_rfl) .enable (by kernel_rfl) w
theorem once_acquire (a : Addr) (w : World) : (callFunc 141 #[.pointer (some a)]).run Tryz.prog w = .ok (.value (.tuple #[])) w := run_call_marked Tryz.func141 (by kernel_rfl) (by kernel_rfl) (by kernel_rfl) .acquire (by kernel_rfl) a w
theorem once_release (a : Addr) (w : World) : (callFunc 143 #[.pointer (some a)]).run Tryz.prog w = .ok (.value (.tuple #[])) w := run_call_marked Tryz.func143 (by kernel_rfl) (by kernel_rfl) (by kernel_rfl) .releaseMerge (by kernel_rfl) a w

theorem store_deferred (a : Addr) (x : Value) (u : FrameMode) (w : World) (hc : w.cell? a = some x) (hz : w.frozen? a = false) :
  CallsD Tryz.prog 126 #[.pointer (some a), .bool true] u w fun e u' w' => u' = u ∧ (e = .returned (.tuple #[]) ∧ w' = w.drew.setCell a (.int .u32 1)) := by
 have hc' : w.drew.cell? a = some x := by go_simp
 have hz' : w.drew.frozen? a = false := by go_simp
 have hst := run_call_store (P := Tryz.prog) Tryz.func135 (by kernel_rfl) (by kernel_rfl) (by kernel_rfl) (by kernel_rfl) (k := .u32) (y := 1) hc' hz'
 go_enter_d Tryz.func126, Tryz.ntmps126
 go_wp2
 go_region_calls
 all_goals (go_end0; exact ⟨rfl, rfl⟩)
set_option maxRecDepth 100000 in
theorem unlock_deferred (a : Addr) (u : FrameMode) (w : World) (hc : w.cell? a = some (.int .i32 1)) (hz : w.frozen? a = false) :
  CallsD Tryz.prog 125 #[.pointer (some a)] u w fun e u' w' => u' = u ∧ (e = .returned (.tuple #[]) ∧ w' = w.setCell a (.int .i32 0)) := by
 have hd := once_disable
 have he := once_enable
 have hr := once_release
 have hadd := run_call_add (P := Tryz.prog) Tryz.func144 (by kernel_rfl) (by kernel_rfl) (by kernel_rfl) .i32 (by kernel_rfl) (y := -1) (s := 0) hc hz (by simp [go_sem]; rfl)
 have hcv := run_convert_to_unsafe (P := Tryz.prog) (src := 234) (dst := 238) Tryz.underlying234 Tryz.underlying238 (by kernel_rfl) hc
 go_enter_d Tryz.func125, Tryz.ntmps125
 go_wp2
 go_end0
 go_wp2
set_option maxRecDepth 100000 in
theorem lock_free (a : Addr) (w : World) (hc : w.cell? a = some (.int .i32 0)) (hz : w.frozen? a = false) :
  Calls Tryz.prog 124 #[.pointer (some a)] w fun e w' => e = .returned (.tuple #[]) ∧ w' = w.setCell a (.int .i32 1) := by
 have hd := once_disable
 have he := once_enable
 have ha := once_acquire
 have hcas := run_call_cas_hit (P := Tryz.prog) Tryz.func139 (by kernel_rfl) (by kernel_rfl) (by kernel_rfl) .i32 (by kernel_rfl) (y := 1) hc hz
 have hc' : (w.setCell a (.int .i32 1)).cell? a = some (.int .i32 1) := World.cell?_setCell_same w a _ hc
 have hcv := run_convert_to_unsafe (P := Tryz.prog) (src := 234) (dst := 238) Tryz.underlying234 Tryz.underlying238 (by kernel_rfl) hc'
 go_enter Tryz.func124, Tryz.ntmps124
 go_wp2
 first | go_end0 | (simp only [Exit.inBlock, Exit.then]; refine bodyPost_ret (results_none rfl _ _ _) rfl ?_) | refine bodyPost_ret (results_none rfl _ _ _) rfl ?_
 go_wp2
set_option maxRecDepth 100000 in
set_option maxHeartbeats 1600000 in
/-- '(*sync.Once).doSlow', the lock free: the function is called with the lock held; then 'done' is stored and the lock let go. -/
theorem slow_any (f : Nat) (cap : Value) (b off : Nat) (w : World) (R : World → Prop)
   (h0 : w.cell? ⟨b, off, none⟩ = some (.int .u32 0)) (h1 : w.cell? ⟨b, off + 1, none⟩ = some (.int .i32 0))
   (f0 : w.frozen? ⟨b, off, none⟩ = false) (f1 : w.frozen? ⟨b, off + 1, none⟩ = false)
   (hf : Calls Tryz.prog f #[cap] (w.setCell ⟨b, off + 1, none⟩ (.int .i32 1)) fun e w' => e = .returned (.tuple #[]) ∧ R w')
   (henter : ∀ args w, (callFunc f args).run Tryz.prog w = .ok (.enter f args) w)
   (hR : ∀ w', R w' → w'.cell? ⟨b, off, none⟩ = some (.int .u32 0) ∧ w'.cell? ⟨b, off + 1, none⟩ = some (.int .i32 1) ∧ w'.frozen? ⟨b, off, none⟩ = false ∧ w'.frozen? ⟨b, off + 1, none⟩ = false) :
   Calls Tryz.prog 106 #[.pointer (some ⟨b, off, none⟩), .func (.func f) #[] #[cap]] w fun e w' => e = .returned (.tuple #[]) ∧ ∃ w2, R w2 ∧ w' = (w2.drew.setCell ⟨b, off, none⟩ (.int .u32 1)).setCell ⟨b, off + 1, none⟩ (.int .i32 0) := by
 have hl := run_call_load (P := Tryz.prog) Tryz.func123 (by kernel_rfl) (by kernel_rfl) (by kernel_rfl) .u32 (by kernel_rfl) (w := w.setCell ⟨b, off + 1, none⟩ (.int .i32 1)) (a := ⟨b, off, none⟩) (x := 0) ((World.cell?_setCell_other _ ⟨b, off + 1, none⟩ ⟨b, off, none⟩ _ (by simp)).trans h0)
 have hnot : ∀ (x : Bool) (w : World), (Op.unary .not (.bool x)).run Tryz.prog w = .ok (.bool (!x)) w := fun _ _ => rfl
 have HF := Hh hf
 have HR := Hh hR
 clear hf hR
 go_enter_defers Tryz.func106, Tryz.ntmps106
 go_wp2_with (go_at_call 124; refine (lock_free ⟨b, off + 1, none⟩ _ (by go_simp) (by go_simp)).mono ?_; rintro e w' ⟨rfl, rfl⟩)
 go_wp2
 refine HF.o.mono ?_
 rintro _ w2 ⟨rfl, hr2⟩
 obtain ⟨r0, r1, r2, r3⟩ := HR.o w2 hr2
 have Aa := Hh hr2
 clear hr2
 go_wp2
 refine leaves_cons (f := 126) (args := #[.pointer (some ⟨b, off, none⟩), .bool true]) (by simp) (by simp [go_sem]) ?_
 refine (store_deferred ⟨b, off, none⟩ (.int .u32 0) .returning _ r0 r2).mono ?_
 rintro e u' w'' ⟨rfl, rfl, rfl⟩
 refine leaves_cons (f := 125) (args := #[.pointer (some ⟨b, off + 1, none⟩)]) (by simp [settle]) (by simp [go_sem]) ?_
 refine (unlock_deferred ⟨b, off + 1, none⟩ _ _ ?_ (by simp [r3])).mono ?_
 · refine (World.cell?_setCell_other _ ⟨b, off, none⟩ ⟨b, off + 1, none⟩ _ (by simp)).trans ?_
   rw [World.cell?_drew]
   exact r1
 rintro e u' w'' ⟨rfl, rfl, rfl⟩
 simp [Leaves, settle, results, Tryz.results106]
 exact ⟨w2, Aa.o, rfl⟩

set_option maxRecDepth 100000 in
set_option maxHeartbeats 1600000 in
theorem do_first (f : Nat) (cap : Value) (b off : Nat) (w : World) (R : World → Prop)
  (h0 : w.cell? ⟨b, off, none⟩ = some (.int .u32 0)) (h1 : w.cell? ⟨b, off + 1, none⟩ = some (.int .i32 0))
  (f0 : w.frozen? ⟨b, off, none⟩ = false) (f1 : w.frozen? ⟨b, off + 1, none⟩ = false)
  (hf : Calls Tryz.prog f #[cap] (w.setCell ⟨b, off + 1, none⟩ (.int .i32 1)) fun e w' => e = .returned (.tuple #[]) ∧ R w')
  (henter : ∀ args w, (callFunc f args).run Tryz.prog w = .ok (.enter f args) w)
  (hR : ∀ w', R w' → w'.cell? ⟨b, off, none⟩ = some (.int .u32 0) ∧ w'.cell? ⟨b, off + 1, none⟩ = some (.int .i32 1) ∧ w'.frozen? ⟨b, off, none⟩ = false ∧ w'.frozen? ⟨b, off + 1, none⟩ = false) :
  Calls Tryz.prog 79 #[.pointer (some ⟨b, off, none⟩), .func (.func f) #[] #[cap]] w fun e w' => e = .returned (.tuple #[]) ∧ ∃ w2, R w2 ∧ w' = (w2.drew.setCell ⟨b, off, none⟩ (.int .u32 1)).setCell ⟨b, off + 1, none⟩ (.int .i32 0) := by
 have hl := run_call_load (P := Tryz.prog) Tryz.func123 (by kernel_rfl) (by kernel_rfl) (by kernel_rfl) .u32 (by kernel_rfl) h0
 have hnot : ∀ (x : Bool) (w : World), (Op.unary .not (.bool x)).run Tryz.prog w = .ok (.bool (!x)) w := fun _ _ => rfl
 have HS := Hh (slow_any f cap b off w R h0 h1 f0 f1 hf henter hR)
 clear hf hR henter
 go_enter Tryz.func79, Tryz.ntmps79
 go_wp2_with (first | (go_at_call 106; refine HS.o.mono ?_; rintro e w' ⟨rfl, hw⟩) | (go_at_call 105; go_in))
 go_end0
 exact ⟨rfl, hw⟩
theorem do_done (a : Addr) (d : Int) (hd : ¬ d = 0) (fv : Value) (w : World) (h0 : w.cell? a = some (.int .u32 d)) :
  Calls Tryz.prog 79 #[.pointer (some a), fv] w fun e w' => e = .returned (.tuple #[]) ∧ w' = w := by
 have hl := run_call_load (P := Tryz.prog) Tryz.func123 (by kernel_rfl) (by kernel_rfl) (by kernel_rfl) .u32 (by kernel_rfl) h0
 have hnot : ∀ (x : Bool) (w : World), (Op.unary .not (.bool x)).run Tryz.prog w = .ok (.bool (!x)) w := fun _ _ => rfl
 have hd' : (d != 0) = true := by simp [hd]
 go_enter Tryz.func79, Tryz.ntmps79
 go_wp2
 go_end0
 exact ⟨rfl, rfl⟩
/- slices.SortFunc at digests: its bodies are the library's (the plain text that the kit's laying makes). -/
open Go.Shelf

def sortHash_ren : Go.Shelf.Ren := ⟨fun | 6 => 60 | 15 => 90 | 14 => 89 | 28 => 118 | 29 => 119 | 20 => 110 | 21 => 111 | 22 => 112 | 23 => 113 | 24 => 114 | 25 => 115 | 26 => 116 | 27 => 117 | 46 => 128 | 47 => 129 | 48 => 130 | 49 => 131 | 50 => 132 | 57 => 137 | n => n, fun | 22 => 124 | 24 => 27 | 25 => 126 | 3 => 3 | 39 => 142 | 0 => 0 | 53 => 52 | 55 => 28 | 4 => 4 | 46 => 209 | 45 => 208 | 50 => 196 | 5 => 5 | 9 => 9 | 66 => 222 | 70 => 226 | 76 => 231 | 77 => 232 | n => n, fun | n => n⟩
set_option maxRecDepth 100000 in
theorem sortHash : Go.Proofs.SlLaysF0.n6 Tryz.prog sortHash_ren := {
 mixed := by kernel_rfl,
 f6 := ⟨Tryz.f60.name, by decide, Tryz.func60.trans (congrArg some (by kernel_rfl))⟩,
 f14 := ⟨Tryz.f89.name, by decide, Tryz.func89.trans (congrArg some (by kernel_rfl))⟩,
 f15 := Tryz.func90.trans (congrArg some (by kernel_rfl)),
 f20 := ⟨Tryz.f110.name, by decide, Tryz.func110.trans (congrArg some (by kernel_rfl))⟩,
 f21 := ⟨Tryz.f111.name, by decide, Tryz.func111.trans (congrArg some (by kernel_rfl))⟩,
 f22 := ⟨Tryz.f112.name, by decide, Tryz.func112.trans (congrArg some (by kernel_rfl))⟩,
 f23 := ⟨Tryz.f113.name, by decide, Tryz.func113.trans (congrArg some (by kernel_rfl))⟩,
 f24 := ⟨Tryz.f114.name, by decide, Tryz.func114.trans (congrArg some (by kernel_rfl))⟩,
 f25 := ⟨Tryz.f115.name, by decide, Tryz.func115.trans (congrArg some (by kernel_rfl))⟩,
 f26 := ⟨Tryz.f116.name, by decide, Tryz.func116.trans (congrArg some (by kernel_rfl))⟩,
 f27 := ⟨Tryz.f117.name, by decide, Tryz.func117.trans (congrArg some (by kernel_rfl))⟩,
 f28 := Tryz.func118.trans (congrArg some (by kernel_rfl)),
 f29 := Tryz.func119.trans (congrArg some (by kernel_rfl)),
 f46 := ⟨Tryz.f128.name, by decide, Tryz.func128.trans (congrArg some (by kernel_rfl))⟩,
 f47 := Tryz.func129.trans (congrArg some (by kernel_rfl)),
 f48 := Tryz.func130.trans (congrArg some (by kernel_rfl)),
 f49 := ⟨Tryz.f131.name, by decide, Tryz.func131.trans (congrArg some (by kernel_rfl))⟩,
 f50 := ⟨Tryz.f132.name, by decide, Tryz.func132.trans (congrArg some (by kernel_rfl))⟩,
 f57 := ⟨Tryz.f137.name, by decide, Tryz.func137.trans (congrArg some (by kernel_rfl))⟩,
 t0 := Tryz.underlying0,
 a0 := Tryz.isAgg0,
 z0 := Tryz.sizeOf0,
 v0 := Tryz.zeroValue0,
 t3 := Tryz.underlying3,
 a3 := Tryz.isAgg3,
 z3 := Tryz.sizeOf3,
 v3 := Tryz.zeroValue3,
 t4 := Tryz.underlying4,
 a4 := Tryz.isAgg4,
 z4 := Tryz.sizeOf4,
 v4 := Tryz.zeroValue4,
 t5 := Tryz.underlying5,
 a5 := Tryz.isAgg5,
 z5 := Tryz.sizeOf5,
 v5 := Tryz.zeroValue5,
 t9 := Tryz.underlying9,
 a9 := Tryz.isAgg9,
 z9 := Tryz.sizeOf9,
 v9 := Tryz.zeroValue9,
 t22 := Tryz.underlying124,
 a22 := Tryz.isAgg124,
 z22 := Tryz.sizeOf124,
 v22 := Tryz.zeroValue124,
 t25 := Tryz.underlying126,
 a25 := Tryz.isAgg126,
 z25 := Tryz.sizeOf126,
 v25 := Tryz.zeroValue126,
 t39 := Tryz.underlying142,
 a39 := Tryz.isAgg142,
 z39 := Tryz.sizeOf142,
 v39 := Tryz.zeroValue142,
 t45 := Tryz.underlying208,
 a45 := Tryz.isAgg208,
 z45 := Tryz.sizeOf208,
 v45 := Tryz.zeroValue208,
 t46 := Tryz.underlying209,
 a46 := Tryz.isAgg209,
 z46 := Tryz.sizeOf209,
 v46 := Tryz.zeroValue209,
 t50 := Tryz.underlying196,
 a50 := Tryz.isAgg196,
 z50 := Tryz.sizeOf196,
 v50 := Tryz.zeroValue196,
 t53 := Tryz.underlying52,
 a53 := Tryz.isAgg52,
 z53 := Tryz.sizeOf52,
 v53 := Tryz.zeroValue52,
 t55 := Tryz.underlying28,
 a55 := Tryz.isAgg28,
 z55 := Tryz.sizeOf28,
 v55 := Tryz.zeroValue28,
 t66 := Tryz.underlying222,
 a66 := Tryz.isAgg222,
 z66 := Tryz.sizeOf222,
 v66 := Tryz.zeroValue222,
 t70 := Tryz.underlying226,
 a70 := Tryz.isAgg226,
 z70 := Tryz.sizeOf226,
 v70 := Tryz.zeroValue226,
 t76 := Tryz.underlying231,
 a76 := Tryz.isAgg231,
 z76 := Tryz.sizeOf231,
 v76 := Tryz.zeroValue231,
 t77 := Tryz.underlying232,
 a77 := Tryz.isAgg232,
 z77 := Tryz.sizeOf232,
 v77 := Tryz.zeroValue232 }


/- The keys of a tree: the element, its order, the library's sort at a row of them. -/
open Go.ChangeShapes Go.WideShapes Go.ChangeAt Go.RowKit Go.Maps

structure HK where
 k : List Nat
 h : IsHash k
instance : Inhabited HK := ⟨⟨List.replicate 32 0, List.length_replicate, fun k hk => by rw [List.eq_of_mem_replicate hk]; decide⟩⟩
def HK.enc (x : HK) : List Value := bcells x.k
theorem HK.len (x : HK) : x.enc.length = 32 := by simp [HK.enc, bcells_length, x.h.1]
theorem HK.one (x : HK) : ∀ v ∈ x.enc, v.oneCell' = true := by
 exact bcells_oneC x.k
def HK.cmp (x y : HK) : Int := lexC x.k y.k
theorem HK.swo : Sort.SWO (ltOf HK.cmp) where
 irrefl x := by unfold ltOf HK.cmp; rw [lexC_refl]; rfl
 trans x y z h1 h2 := by
  unfold ltOf HK.cmp at *
  simp only [decide_eq_true_eq] at *
  exact lexC_trans _ _ _ h1 h2
 ntrans x y z h1 h2 := by
  unfold ltOf HK.cmp at *
  simp only [decide_eq_false_iff_not] at *
  intro h3
  have s1 := lexC_swap x.k y.k
  have s2 := lexC_swap y.k z.k
  have s3 := lexC_swap x.k z.k
  by_cases e1 : lexC x.k y.k = 0
  · rw [lexC_zero _ _ e1] at h3; exact h2 h3
  · have p1 : lexC y.k x.k < 0 := by omega
    exact h2 (lexC_trans _ _ _ p1 h3)

set_option maxHeartbeats 1000000 in
/-- cmp, in whatever world: two blocks are laid. -/
theorem cmpK_is (x y : HK) (W : World) : Calls Tryz.prog 104 #[.agg x.enc.toArray, .agg y.enc.toArray] W fun e w' => e = .returned (.int .i64 (HK.cmp x y)) ∧ ∃ q os', w' = Sort.grow (W.drewN q) os' := by
 have hb1 := Has.new W 27 x.enc.toArray
 have hb2 := Has.new (W.alloc (.cells x.enc.toArray 27)) 27 y.enc.toArray
 have hsz : (W.alloc (.cells x.enc.toArray 27)).heap.size = W.heap.size + 1 := by simp
 rw [hsz] at hb2
 have hb1' := hb1.alloc (.cells y.enc.toArray 27)
 have cx : ∀ z : HK, ∀ i, i < 32 → z.enc.toArray[i]? = some (.int .u8 ((z.k.getD i 0 : Nat) : Int)) := fun z i hi => by
  rw [List.getElem?_toArray, HK.enc]
  exact bcells_get _ _ (by rw [z.h.1]; exact hi)
 have Ab : ∀ n, ∃ q os', ((W.alloc (.cells x.enc.toArray 27)).alloc (.cells y.enc.toArray 27)).drewN n = Sort.grow (W.drewN q) os' := fun n => ⟨n, #[.cells x.enc.toArray 27] ++ #[.cells y.enc.toArray 27], by
  rw [Sort.alloc_eq_grow, Sort.alloc_eq_grow, Sort.grow_grow]; rfl⟩
 have Ad : ∀ W', (∀ i, i < 32 → W'.cell? ⟨W.heap.size, 0 + i, none⟩ = some (.int .u8 ((x.k.getD i 0 : Nat) : Int))) → (∀ i, i < 32 → W'.cell? ⟨W.heap.size + 1, 0 + i, none⟩ = some (.int .u8 ((y.k.getD i 0 : Nat) : Int))) →
   Calls Tryz.prog 31 #[.slice (some ⟨W.heap.size, 0, none⟩) 32 32, .slice (some ⟨W.heap.size + 1, 0, none⟩) 32 32] W' fun e w' => e = .returned (.int .i64 (HK.cmp x y)) ∧ w' = W' := fun W' h1 h2 =>
  (bytesCompare_is W' W.heap.size 0 32 (W.heap.size + 1) 0 32 32 32 x.k y.k x.h.1 y.h.1 h1 h2 x.h.2 y.h.2).mono fun e w' he => ⟨he.1, he.2.symm⟩
 have hc1 : ∀ n, ∀ i, i < 32 → (((W.alloc (.cells x.enc.toArray 27)).alloc (.cells y.enc.toArray 27)).drewN n).cell? ⟨W.heap.size, 0 + i, none⟩ = some (.int .u8 ((x.k.getD i 0 : Nat) : Int)) := fun n i hi => by rw [Nat.zero_add]; exact (hb1'.drewN n).cell_is (cx x i hi)
 have hc2 : ∀ n, ∀ i, i < 32 → (((W.alloc (.cells x.enc.toArray 27)).alloc (.cells y.enc.toArray 27)).drewN n).cell? ⟨W.heap.size + 1, 0 + i, none⟩ = some (.int .u8 ((y.k.getD i 0 : Nat) : Int)) := fun n i hi => by rw [Nat.zero_add]; exact (hb2.drewN n).cell_is (cx y i hi)
 have Ac := Hh (fun n => Ad _ (hc1 n) (hc2 n))
 have Aa := Hh Ab
 obtain ⟨A, hA⟩ : ∃ A, A = x.enc.toArray := ⟨_, rfl⟩
 obtain ⟨B, hB⟩ : ∃ B, B = y.enc.toArray := ⟨_, rfl⟩
 rw [← hA, ← hB] at Ac Aa ⊢
 obtain ⟨r, hr⟩ : ∃ r, r = HK.cmp x y := ⟨_, rfl⟩
 rw [← hr] at Ac ⊢
 clear hb1 hb2 hsz hb1' cx Ab Ad hc1 hc2 hA hB hr
 go_enter Tryz.func104, Tryz.ntmps104
 go_upto_region 1 with (fail)
 go_quiet ((go_at_call 31; exact Calls.quiet_of_same (Ac.o _)))
 go_wp2
 go_ret
 exact ⟨rfl, Aa.o _⟩
def RisingK (ys : List HK) : Prop := ys.Pairwise fun a b => lexC a.k b.k < 0
theorem enters_cmpK : ∀ args w, (callFunc 104 args).run Tryz.prog w = .ok (.enter 104 args) w := enters_of Tryz.func104 (by kernel_rfl) rfl
theorem sort_keys (w : World) (base g n cap : Nat) (cur : Array Value) (xs : List HK) (hn : xs.length = n) (hbase : base ≤ g) (hb : Has w g 27 cur) (h1 : n ≤ cap) (h2 : cap ≤ maxLen) (h3 : cur.size = cap * 32)
   (ht : cur.toList.take (n * 32) = xs.flatMap HK.enc) (hd : (xs.map (·.k)).Nodup) (hs : n ≤ 1000000) :
   Calls Tryz.prog 60 #[.slice (some ⟨g, 0, none⟩) n cap, .func (.func 104) #[] #[]] w fun e w' =>
    e = .returned (.tuple #[]) ∧ ∃ ys : List HK, ys.Perm xs ∧ RisingK ys ∧ w'.ownsRow base 27 32 (.slice (some ⟨g, 0, none⟩) n cap) n (ys.flatMap HK.enc) ∧ Kept (· = g) w w' := by
 have hH := holdsK_of HK.enc 32 HK.len (by decide) (xs := xs) hb (by rw [hn]; exact ht)
 have Ab := AnyQ.slices_SortFunc (P := Tryz.prog) sortHash 32 Tryz.isAgg27 Tryz.sizeOf27 HK.enc HK.len HK.one HK.cmp HK.swo 104 #[] g 0 cap xs.toArray w enters_cmpK (fun m os dk _ x y => cmpK_is x y _) hH hb.lt (by simp; omega)
 change Calls Tryz.prog 60 _ _ _ at Ab
 have hsz : xs.toArray.size = n := by simp [hn]
 rw [hsz] at Ab
 refine Ab.mono fun e w' ⟨he, d', m, os, hp, hsd, hw⟩ => ?_
 have e1 : d'.size = n := hp.1.trans hsz
 have Aa : d'.toList.Perm xs := by
   have h := hp.2.2
   have a1 : d'.extract 0 n = d' := Array.extract_eq_self_of_le (by omega)
   have a2 : xs.toArray.extract 0 n = xs.toArray := Array.extract_eq_self_of_le (by omega)
   rw [a1, a2] at h
   simpa using h
 refine ⟨he, d'.toList, Aa, ?_, ?_, ?_⟩
 · have hd' : (d'.toList.map (·.k)).Nodup := ((Aa.map (·.k)).nodup_iff).2 hd
   unfold RisingK
   rw [List.pairwise_iff_getElem]
   intro i j hi hj hij
   have hi' : i < d'.size := by simpa using hi
   have hj' : j < d'.size := by simpa using hj
   have h := hsd i j (Nat.zero_le _) hij (by omega)
   rw [getElem!_pos d' j hj', getElem!_pos d' i hi'] at h
   unfold ltOf HK.cmp at h
   simp only [decide_eq_false_iff_not] at h
   have hne : (d'.toList[i]).k ≠ (d'.toList[j]).k := fun e => by
    have hp2 : d'.toList.Pairwise (fun a b => a.k ≠ b.k) := by
     have := hd'
     unfold List.Nodup at this
     rw [List.pairwise_map] at this
     exact this
    exact (List.pairwise_iff_getElem.1 hp2) i j hi hj hij e
   have hz : lexC (d'.toList[i]).k (d'.toList[j]).k ≠ 0 := fun e => hne (lexC_zero _ _ e)
   have hsw := lexC_swap (d'.toList[i]).k (d'.toList[j]).k
   have h' : ¬ lexC (d'.toList[j]).k (d'.toList[i]).k < 0 := by simpa using h
   omega
 · rw [hw]
   have := own_sortK HK.enc 32 HK.len (by decide) (m := m) (os := os) (ys := d'.toList) base hbase hb h1 h2 h3 (by simpa using hp.1.trans hsz)
   simpa using this
 · rw [hw]
   exact kept_sortK HK.enc 32 d'
end Go.Proofs.YtknfbccbdiidjaaGreatDoor
