/- The walk of sha.mix: a block of 64 bytes, mixed into a state that lies inside a larger block. -/
import Derived.Test.YtknfbccbdiidjaaGreatDoorWs
import Derived.Test.YtknfbccbdiidjaaGreatDoorRSha7
namespace Go.Proofs.YtknfbccbdiidjaaGreatDoor
set_option linter.unusedVariables false
set_option linter.unusedSimpArgs false
open Go.ChangeShapes Go.WideShapes Go.ChangeAt Go.RowKit

set_option maxRecDepth 100000 in
set_option maxHeartbeats 2000000 in
theorem mixT_is (K s0 : List Wd) (w : World) (g : Nat) (t : TypeId) (P : List Value) (hP : P.length = 4) (s : List Wd) (rest : List Value) (bs : List Nat) (bg bo c : Nat) (hT : Tabs K s0 w) (hg : Has w g t (P ++ (wcells s ++ rest)).toArray) (h3 : 2 + 1 ≤ g) (hs : s.length = 8)
  (hb : ∀ i, i < 64 → w.cell? ⟨bg, bo + i, none⟩ = some (.int .u8 (bs.getD i 0 : Nat))) (hlt : ∀ i, i < 64 → bs.getD i 0 < 256) :
  Calls Tryz.prog 107 #[.pointer (some ⟨g, 4, none⟩), .slice (some ⟨bg, bo, none⟩) 64 c] w fun e w' =>
    e = .returned (.tuple #[]) ∧ Has w' g t (P ++ (wcells (mixF K s bs) ++ rest)).toArray ∧ Kept (· = g) w w' := by
 obtain ⟨i32, hi32, _, _, _⟩ := info_parts info_u32
 have HT := Lib.hid hT
 have HG := Lib.hid hg
 have HB := Lib.hid hb
 have HLT := Lib.hid hlt
 clear hT hg hb hlt
 go_enter Tryz.func107, Tryz.ntmps107
 go_wp2
 go_loopw [26] (fun i wr => ∃ k : Nat, k ≤ 16 ∧ i = .int .i64 k ∧ Has wr w.heap.size 54 (wcells (schedTo bs k)).toArray ∧ Kept (fun _ => False) w wr) (fun i _ => 16 - (intOf i).toNat)
 case atStart => exact ⟨0, by omega, rfl, Has.new w _ _, (Kept.refl _ _).alloc _⟩
 case round =>
  obtain ⟨k, hk, rfl, hW, hK⟩ := hrel
  have HW := Lib.hid hW
  have HK := Lib.hid hK
  clear hW hK
  by_cases hlt : k < 16
  · have c0 := cell_kept HK.out (HB.out (4 * k) (by omega)) (fun h => h)
    have c1 := cell_kept HK.out (HB.out (4 * k + 1) (by omega)) (fun h => h)
    have c2 := cell_kept HK.out (HB.out (4 * k + 2) (by omega)) (fun h => h)
    have c3 := cell_kept HK.out (HB.out (4 * k + 3) (by omega)) (fun h => h)
    have l0 := HLT.out (4 * k) (by omega)
    have l1 := HLT.out (4 * k + 1) (by omega)
    have l2 := HLT.out (4 * k + 2) (by omega)
    have l3 := HLT.out (4 * k + 3) (by omega)
    obtain ⟨b0, h0⟩ : ∃ b, b = bs.getD (4 * k) 0 := ⟨_, rfl⟩
    obtain ⟨b1, h1⟩ : ∃ b, b = bs.getD (4 * k + 1) 0 := ⟨_, rfl⟩
    obtain ⟨b2, h2⟩ : ∃ b, b = bs.getD (4 * k + 2) 0 := ⟨_, rfl⟩
    obtain ⟨b3, h3⟩ : ∃ b, b = bs.getD (4 * k + 3) 0 := ⟨_, rfl⟩
    rw [← h0] at c0 l0
    rw [← h1] at c1 l1
    rw [← h2] at c2 l2
    rw [← h3] at c3 l3
    have hword := word_num b0 b1 b2 b3 l0 l1 l2 l3
    have hwd : BitVec.ofNat 32 (((b0 * 256 + b1) * 256 + b2) * 256 + b3) = word bs k := by unfold word; rw [← h0, ← h1, ← h2, ← h3]
    rw [hwd] at hword
    clear hwd h0 h1 h2 h3
    have HWORD := Lib.hid hword
    clear hword
    have hf : wr.frozen? ⟨w.heap.size, k, none⟩ = false := HW.out.free k
    have hcur : wr.cell? ⟨w.heap.size, k, none⟩ = some (.int .u32 (((schedTo bs k).getD k 0).toNat : Int)) := HW.out.cell_is (by rw [List.getElem?_toArray]; exact wcells_get _ _ (by rw [schedTo_length _ _ (by omega)]; omega))
    have hset := (HW.out.drew).set k (.int .u32 ((word bs k).toNat : Int))
    rw [List.setIfInBounds_toArray, wcells_set] at hset
    have hnx : nextWord bs (sched bs k) k = word bs k := by unfold nextWord; rw [if_pos hlt]
    rw [← hnx, schedTo_set bs k (by omega), hnx] at hset
    have HSET := Lib.hid hset
    clear hset hnx
    go_wp2_with fail
    go_region
    go_wp2
    go_roundw
    case rel => exact ⟨k + 1, by omega, by go_num, by rw [HWORD.out]; exact HSET.out, (HK.out.drew).set (.inr (Nat.le_refl _)) _⟩
    case measure => simp [intOf]; omega
  · have HW2 := Lib.hid (show k = 16 by omega)
    have HW3 : Hid (Has wr w.heap.size 54 (wcells (schedTo bs 16)).toArray) := by rw [← HW2.out]; exact HW
    clear HW
    go_wp2
    go_loopw [6] (fun i wr => ∃ k : Nat, 16 ≤ k ∧ k ≤ 64 ∧ i = .int .i64 k ∧ Has wr w.heap.size 54 (wcells (schedTo bs k)).toArray ∧ Kept (fun _ => False) w wr) (fun i _ => 64 - (intOf i).toNat)
    case atStart => exact ⟨16, by omega, by omega, rfl, HW3.out, HK.out⟩
    case round =>
     clear HW3 HK
     obtain ⟨k, hk0, hk, rfl, hW, hK⟩ := hrel
     have HW := Lib.hid hW
     have HK := Lib.hid hK
     clear hW hK
     by_cases hlt : k < 64
     · have cellAt : ∀ i, i < k → wr.cell? ⟨w.heap.size, i, none⟩ = some (.int .u32 (((sched bs k).getD i 0).toNat : Int)) := fun i hi => by
        rw [← schedTo_get bs k i hi]
        exact HW.out.cell_is (by rw [List.getElem?_toArray]; exact wcells_get _ _ (by rw [schedTo_length _ _ (by omega)]; omega))
       have c16 := cellAt (k - 16) (by omega)
       have c15 := cellAt (k - 15) (by omega)
       have c7 := cellAt (k - 7) (by omega)
       have c2 := cellAt (k - 2) (by omega)
       clear cellAt
       obtain ⟨x16, h16⟩ : ∃ x, x = (sched bs k).getD (k - 16) 0 := ⟨_, rfl⟩
       obtain ⟨x15, h15⟩ : ∃ x, x = (sched bs k).getD (k - 15) 0 := ⟨_, rfl⟩
       obtain ⟨x7, h7⟩ : ∃ x, x = (sched bs k).getD (k - 7) 0 := ⟨_, rfl⟩
       obtain ⟨x2, h2⟩ : ∃ x, x = (sched bs k).getD (k - 2) 0 := ⟨_, rfl⟩
       rw [← h16] at c16
       rw [← h15] at c15
       rw [← h7] at c7
       rw [← h2] at c2
       have hnx : nextWord bs (sched bs k) k = x16 + lil0 x15 + x7 + lil1 x2 := by unfold nextWord; rw [if_neg (by omega), h16, h15, h7, h2]
       clear h16 h15 h7 h2
       have hset : ∀ n, Has ((wr.drewN n).setCell ⟨w.heap.size, k, none⟩ (.int .u32 ((x16 + lil0 x15 + x7 + lil1 x2).toNat : Int))) w.heap.size 54 (wcells (schedTo bs (k + 1))).toArray := fun n => by
        have h := (HW.out.drewN n).set k (.int .u32 ((x16 + lil0 x15 + x7 + lil1 x2).toNat : Int))
        rw [List.setIfInBounds_toArray, wcells_set, ← hnx, schedTo_set bs k (by omega)] at h
        rw [← hnx]; exact h
       have HSET := Lib.hid hset
       clear hset
       have HNX := Lib.hid hnx
       clear hnx
       have hf : wr.frozen? ⟨w.heap.size, k, none⟩ = false := HW.out.free k
       have hcur : wr.cell? ⟨w.heap.size, k, none⟩ = some (.int .u32 (((schedTo bs k).getD k 0).toNat : Int)) := HW.out.cell_is (by rw [List.getElem?_toArray]; exact wcells_get _ _ (by rw [schedTo_length _ _ (by omega)]; omega))
       go_wp2_with fail
       go_quiet (fail)
       go_wp2_with fail
       refine (rot_is _ x15 (-7) 7 (by decide) (by decide) (by decide)).mono ?_
       rintro _ _ ⟨rfl, rfl⟩
       go_wp2_with fail
       refine (rot_is _ x15 (-18) 18 (by decide) (by decide) (by decide)).mono ?_
       rintro _ _ ⟨rfl, rfl⟩
       go_wp2_with fail
       refine (rot_is _ x2 (-17) 17 (by decide) (by decide) (by decide)).mono ?_
       rintro _ _ ⟨rfl, rfl⟩
       go_wp2_with fail
       refine (rot_is _ x2 (-19) 19 (by decide) (by decide) (by decide)).mono ?_
       rintro _ _ ⟨rfl, rfl⟩
       go_wp2_with fail
       go_region
       go_wp2
       go_roundw
       case rel =>
        exact ⟨k + 1, by omega, by omega, by go_num, by rw [lil0_num, lil1_num, add4_num]; exact HSET.out _, (HK.out.drewN _).set (.inr (Nat.le_refl _)) _⟩
       case measure => simp [intOf]; omega
     · have HW2 := Lib.hid (show k = 64 by omega)
       have HW3 : Hid (Has wr w.heap.size 54 (wcells (sched bs 64)).toArray) := by rw [← schedTo_full, ← HW2.out]; exact HW
       clear HW
       have G := HG.out.kept HK.out (fun h => h)
       have cellG : ∀ i, i < 8 → wr.cell? ⟨g, 4 + i, none⟩ = some (.int .u32 ((s.getD i 0).toNat : Int)) := fun i hi =>
        G.cell_is (by rw [List.getElem?_toArray, List.getElem?_append_right (by omega), hP, Nat.add_sub_cancel_left, List.getElem?_append_left (by rw [wcells_length]; omega)]; exact wcells_get _ _ (by omega))
       have g0 : wr.cell? ⟨g, 4, none⟩ = some (.int .u32 ((s.getD 0 0).toNat : Int)) := cellG 0 (by decide)
       have g1 : wr.cell? ⟨g, 5, none⟩ = some (.int .u32 ((s.getD 1 0).toNat : Int)) := cellG 1 (by decide)
       have g2 : wr.cell? ⟨g, 6, none⟩ = some (.int .u32 ((s.getD 2 0).toNat : Int)) := cellG 2 (by decide)
       have g3 : wr.cell? ⟨g, 7, none⟩ = some (.int .u32 ((s.getD 3 0).toNat : Int)) := cellG 3 (by decide)
       have g4 : wr.cell? ⟨g, 8, none⟩ = some (.int .u32 ((s.getD 4 0).toNat : Int)) := cellG 4 (by decide)
       have g5 : wr.cell? ⟨g, 9, none⟩ = some (.int .u32 ((s.getD 5 0).toNat : Int)) := cellG 5 (by decide)
       have g6 : wr.cell? ⟨g, 10, none⟩ = some (.int .u32 ((s.getD 6 0).toNat : Int)) := cellG 6 (by decide)
       have g7 : wr.cell? ⟨g, 11, none⟩ = some (.int .u32 ((s.getD 7 0).toNat : Int)) := cellG 7 (by decide)
       clear cellG G
       obtain ⟨x0, e0⟩ : ∃ x, x = s.getD 0 0 := ⟨_, rfl⟩
       obtain ⟨x1, e1⟩ : ∃ x, x = s.getD 1 0 := ⟨_, rfl⟩
       obtain ⟨x2, e2⟩ : ∃ x, x = s.getD 2 0 := ⟨_, rfl⟩
       obtain ⟨x3, e3⟩ : ∃ x, x = s.getD 3 0 := ⟨_, rfl⟩
       obtain ⟨x4, e4⟩ : ∃ x, x = s.getD 4 0 := ⟨_, rfl⟩
       obtain ⟨x5, e5⟩ : ∃ x, x = s.getD 5 0 := ⟨_, rfl⟩
       obtain ⟨x6, e6⟩ : ∃ x, x = s.getD 6 0 := ⟨_, rfl⟩
       obtain ⟨x7, e7⟩ : ∃ x, x = s.getD 7 0 := ⟨_, rfl⟩
       have HST : Hid (rnds K (sched bs 64) (St.of s) 0 = ⟨x0, x1, x2, x3, x4, x5, x6, x7⟩) := Lib.hid (by show St.of s = _; unfold St.of; rw [← e0, ← e1, ← e2, ← e3, ← e4, ← e5, ← e6, ← e7])
       rw [← e0] at g0
       rw [← e1] at g1
       rw [← e2] at g2
       rw [← e3] at g3
       rw [← e4] at g4
       rw [← e5] at g5
       rw [← e6] at g6
       rw [← e7] at g7
       clear e0 e1 e2 e3 e4 e5 e6 e7
       go_wp2_with fail
       go_quiet (fail)
       go_wp2_with fail
       go_loopw [140, 11, 12, 13, 14, 15, 16, 17, 18] (fun i a b c d e f g' h wr => ∃ k : Nat, k ≤ 64 ∧ i = .int .i64 k ∧
        a = .int .u32 ((rnds K (sched bs 64) (St.of s) k).a.toNat : Int) ∧ b = .int .u32 ((rnds K (sched bs 64) (St.of s) k).b.toNat : Int) ∧ c = .int .u32 ((rnds K (sched bs 64) (St.of s) k).c.toNat : Int) ∧ d = .int .u32 ((rnds K (sched bs 64) (St.of s) k).d.toNat : Int) ∧
        e = .int .u32 ((rnds K (sched bs 64) (St.of s) k).e.toNat : Int) ∧ f = .int .u32 ((rnds K (sched bs 64) (St.of s) k).f.toNat : Int) ∧ g' = .int .u32 ((rnds K (sched bs 64) (St.of s) k).g.toNat : Int) ∧ h = .int .u32 ((rnds K (sched bs 64) (St.of s) k).h.toNat : Int) ∧
        Has wr w.heap.size 54 (wcells (sched bs 64)).toArray ∧ Kept (fun _ => False) w wr) (fun i _ _ _ _ _ _ _ _ _ => 64 - (intOf i).toNat)
       case atStart => exact ⟨0, by omega, rfl, by rw [HST.out], by rw [HST.out], by rw [HST.out], by rw [HST.out], by rw [HST.out], by rw [HST.out], by rw [HST.out], by rw [HST.out], HW3.out.drewN _, HK.out.drewN _⟩
       case round =>
        clear HW3 HK
        obtain ⟨k, hk, rfl, rfl, rfl, rfl, rfl, rfl, rfl, rfl, rfl, hW, hK⟩ := hrel
        have HW := Lib.hid hW
        have HK := Lib.hid hK
        clear hW hK
        by_cases hlt : k < 64
        · have hnx : rnds K (sched bs 64) (St.of s) (k + 1) = rnd (rnds K (sched bs 64) (St.of s) k) (K.getD k 0) ((sched bs 64).getD k 0) := rfl
          have ck := (HT.out.kept HK.out (fun _ h => h.elim)).k k hlt
          have cw : wr.cell? ⟨w.heap.size, k, none⟩ = some (.int .u32 (((sched bs 64).getD k 0).toNat : Int)) := HW.out.cell_is (by rw [List.getElem?_toArray]; exact wcells_get _ _ (by rw [sched_length]; omega))
          obtain ⟨kk, hkk⟩ : ∃ x, x = K.getD k 0 := ⟨_, rfl⟩
          obtain ⟨ww, hww⟩ : ∃ x, x = (sched bs 64).getD k 0 := ⟨_, rfl⟩
          rw [← hkk, ← hww] at hnx
          rw [← hkk] at ck
          rw [← hww] at cw
          clear hkk hww
          generalize rnds K (sched bs 64) (St.of s) k = S at hnx ⊢
          obtain ⟨a1, b1, c1, d1, e1, f1, g1, h1⟩ := S
          have HNX := Lib.hid hnx
          clear hnx
          go_wp2_with fail
          refine (rot_is _ e1 (-6) 6 (by decide) (by decide) (by decide)).mono ?_
          rintro _ _ ⟨rfl, rfl⟩
          go_wp2_with fail
          refine (rot_is _ e1 (-11) 11 (by decide) (by decide) (by decide)).mono ?_
          rintro _ _ ⟨rfl, rfl⟩
          go_wp2_with fail
          refine (rot_is _ e1 (-25) 25 (by decide) (by decide) (by decide)).mono ?_
          rintro _ _ ⟨rfl, rfl⟩
          go_wp2_with fail
          go_quiet (fail)
          go_wp2_with fail
          refine (rot_is _ a1 (-2) 2 (by decide) (by decide) (by decide)).mono ?_
          rintro _ _ ⟨rfl, rfl⟩
          go_wp2_with fail
          refine (rot_is _ a1 (-13) 13 (by decide) (by decide) (by decide)).mono ?_
          rintro _ _ ⟨rfl, rfl⟩
          go_wp2_with fail
          refine (rot_is _ a1 (-22) 22 (by decide) (by decide) (by decide)).mono ?_
          rintro _ _ ⟨rfl, rfl⟩
          go_wp2
          go_roundw
          case rel =>
           simp only [big1_num, cho_num, big0_num, maj_num]
           refine ⟨k + 1, by omega, by go_num, ?_, ?_, ?_, ?_, ?_, ?_, ?_, ?_, HW.out.drewN _, HK.out.drewN _⟩
           all_goals rw [HNX.out]
           · rw [add5_num, add_wd, add_wd]; rfl
           · rfl
           · rfl
           · rfl
           · rw [add5_num, add_wd]; rfl
           · rfl
           · rfl
           · rfl
          case measure => simp [intOf]; omega
        · have HW2 := Lib.hid (show k = 64 by omega)
          have hL : mixF K s bs = addTo s (rnds K (sched bs 64) (St.of s) k).list 8 := by unfold mixF; rw [← HW2.out]
          generalize rnds K (sched bs 64) (St.of s) k = S at hL ⊢
          obtain ⟨a1, b1, c1, d1, e1, f1, g1, h1⟩ := S
          have HL := Lib.hid hL
          clear hL HW
          have hix : ∀ i, i < 8 → (#[Value.int .u32 (a1.toNat : Int), .int .u32 (b1.toNat : Int), .int .u32 (c1.toNat : Int), .int .u32 (d1.toNat : Int), .int .u32 (e1.toNat : Int), .int .u32 (f1.toNat : Int), .int .u32 (g1.toNat : Int), .int .u32 (h1.toNat : Int)] : Array Value)[i]? = some (.int .u32 (((St.list ⟨a1, b1, c1, d1, e1, f1, g1, h1⟩).getD i 0).toNat : Int)) := fun i hi => by
           have : i = 0 ∨ i = 1 ∨ i = 2 ∨ i = 3 ∨ i = 4 ∨ i = 5 ∨ i = 6 ∨ i = 7 := by omega
           rcases this with rfl | rfl | rfl | rfl | rfl | rfl | rfl | rfl <;> rfl
          have HIX := Lib.hid hix
          clear hix
          have hlen : (#[Value.int .u32 (a1.toNat : Int), .int .u32 (b1.toNat : Int), .int .u32 (c1.toNat : Int), .int .u32 (d1.toNat : Int), .int .u32 (e1.toNat : Int), .int .u32 (f1.toNat : Int), .int .u32 (g1.toNat : Int), .int .u32 (h1.toNat : Int)] : Array Value).size = 8 := rfl
          go_wp2_with fail
          generalize (#[Value.int .u32 (a1.toNat : Int), .int .u32 (b1.toNat : Int), .int .u32 (c1.toNat : Int), .int .u32 (d1.toNat : Int), .int .u32 (e1.toNat : Int), .int .u32 (f1.toNat : Int), .int .u32 (g1.toNat : Int), .int .u32 (h1.toNat : Int)] : Array Value) = X at HIX hlen ⊢
          generalize St.list ⟨a1, b1, c1, d1, e1, f1, g1, h1⟩ = L at HIX HL ⊢
          go_loopw [214] (fun i wr => ∃ k : Nat, k ≤ 8 ∧ i = .int .i64 k ∧ Has wr g t (P ++ (wcells (addTo s L k) ++ rest)).toArray ∧ Kept (· = g) w wr) (fun i _ => 8 - (intOf i).toNat)
          case atStart => exact ⟨0, by omega, rfl, by rw [addTo_zero _ _ hs]; exact HG.out.kept HK.out (fun h => h), HK.out.mono (fun _ _ h => h.elim)⟩
          case round =>
           clear HW2 HK
           obtain ⟨k, hk, rfl, hW, hK⟩ := hrel
           have HW := Lib.hid hW
           have HK := Lib.hid hK
           clear hW hK
           by_cases hlt : k < 8
           · have hx := HIX.out k hlt
             have cg : wr.cell? ⟨g, 4 + k, none⟩ = some (.int .u32 ((s.getD k 0).toNat : Int)) := HW.out.cell_is (by
              rw [List.getElem?_toArray, List.getElem?_append_right (by omega), hP, Nat.add_sub_cancel_left, List.getElem?_append_left (by rw [wcells_length, addTo_length]; omega), wcells_get _ _ (by rw [addTo_length]; omega)]
              simp [addTo, hlt])
             have hf : wr.frozen? ⟨g, 4 + k, none⟩ = false := HW.out.free (4 + k)
             have hset : Has (wr.setCell ⟨g, 4 + k, none⟩ (.int .u32 ((s.getD k 0 + L.getD k 0).toNat : Int))) g t (P ++ (wcells (addTo s L (k + 1)) ++ rest)).toArray := by
              have h := HW.out.set (4 + k) (.int .u32 ((s.getD k 0 + L.getD k 0).toNat : Int))
              rw [List.setIfInBounds_toArray, List.set_append_right _ _ (by omega), hP, Nat.add_sub_cancel_left, List.set_append_left _ _ (by rw [wcells_length, addTo_length]; omega), wcells_set, addTo_set s L k hlt] at h
              exact h
             obtain ⟨xs, hxs⟩ : ∃ x, x = s.getD k 0 := ⟨_, rfl⟩
             obtain ⟨xl, hxl⟩ : ∃ x, x = L.getD k 0 := ⟨_, rfl⟩
             rw [← hxs, ← hxl] at hset
             rw [← hxs] at cg
             rw [← hxl] at hx
             clear hxs hxl
             have HSET := Lib.hid hset
             clear hset
             have hidx := fun w => index_row (t := 53) Tryz.underlying53 i32 hi32 (by kernel_rfl) (by kernel_rfl) hlt hx w
             go_wp2_with fail
             go_region
             go_wp2
             go_roundw
             case rel => exact ⟨k + 1, by omega, by go_num, by rw [add_wd]; exact HSET.out, (HK.out.set (.inl rfl) _).drew⟩
             case measure => simp [intOf]; omega
           · have HW2 := Lib.hid (show k = 8 by omega)
             go_wp2
             go_end0
             exact ⟨rfl, by rw [HL.out, ← HW2.out]; exact HW.out, HK.out⟩
end Go.Proofs.YtknfbccbdiidjaaGreatDoor

