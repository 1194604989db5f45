/- The walks of sha.NewTag, sha.New and of what fills a tag's head. -/
import Derived.Test.YtknfbccbdiidjaaGreatDoorWu
import Derived.Test.YtknfbccbdiidjaaGreatDoorPKeys1
import Derived.Test.YtknfbccbdiidjaaGreatDoorPBes1
import Derived.Test.YtknfbccbdiidjaaGreatDoorPMem
import Derived.Laws.IdiomStrings
namespace Go.Proofs.YtknfbccbdiidjaaGreatDoor
set_option linter.unusedVariables false
set_option linter.unusedSimpArgs false
open Go.ChangeShapes Go.WideShapes Go.ChangeAt Go.RowKit Go.Maps

def sbytes (s : ByteArray) : List Nat := s.data.toList.map UInt8.toNat
theorem sbytes_lt (s : ByteArray) : ∀ x ∈ sbytes s, x < 256 := by
 intro x hx
 obtain ⟨b, _, rfl⟩ := List.mem_map.1 hx
 exact b.toNat_lt
def tagP (s : ByteArray) (d l : Int) : List Value := [.string s, .int .u32 d, .int .i32 l, .int .u32 0]
def tag0 (s : ByteArray) : List Value := tcells (tagP s 0 0) (.int .i64 0) (List.replicate 8 0) (List.replicate 64 0) 0 0
theorem build_tag (s : ByteArray) (w : World) : (Instr.build 178 #[(0, .string s)]).run Tryz.prog w = .ok (.agg (tag0 s).toArray) w := by
 exact run_build w 178 _ _ (by kernel_rfl)
theorem newTag_is (s : ByteArray) (w : World) : Calls Tryz.prog 53 #[.string s] w fun e w' => e = .returned (.pointer (some ⟨w.heap.size, 0, none⟩)) ∧ w' = w.alloc (.cells (tag0 s).toArray 178) := by
 have hb := build_tag s
 obtain ⟨L, hL⟩ : ∃ L, L = (tag0 s).toArray := ⟨_, rfl⟩
 rw [← hL] at hb ⊢
 have HB := Hh hb
 clear hL hb
 go_enter Tryz.func53, Tryz.ntmps53
 go_wp2_with (refine wpList_build_run (by kernel_rfl) 178 _ rfl #[(0, .string s)] (by kernel_rfl) (.agg L) (HB.o _) ?_)
 go_ret
 exact ⟨rfl, rfl⟩
theorem build_hasher (s0 : List Wd) (h : s0.length = 8) (w : World) : (Instr.build 173 #[(0, .agg (wcells s0).toArray)]).run Tryz.prog w = .ok (.agg (hcells s0 (List.replicate 64 0) 0 0).toArray) w := by
 obtain ⟨x0, x1, x2, x3, x4, x5, x6, x7, rfl⟩ := eight_words _ h
 exact run_build w 173 _ _ (by kernel_rfl)
theorem new_is (K s0 : List Wd) (w : World) (hT : Tabs K s0 w) : Calls Tryz.prog 81 #[] w fun e w' => e = .returned (.pointer (some ⟨w.heap.size, 0, none⟩)) ∧ w' = w.alloc (.cells (hcells s0 (List.replicate 64 0) 0 0).toArray 173) := by
 have hb := build_hasher s0 hT.len
 obtain ⟨L, hL⟩ : ∃ L, L = (hcells s0 (List.replicate 64 0) 0 0).toArray := ⟨_, rfl⟩
 obtain ⟨M, hM⟩ : ∃ M, M = wcells s0 := ⟨_, rfl⟩
 have hst := hT.start
 have Ab := Hh (show (Tryz.prog.info? 53).map (·.size) = some M.length by rw [hM, wcells_length, hT.len]; kernel_rfl)
 rw [← hM] at hst
 rw [← hL, ← hM] at hb
 rw [← hL]
 have HB := Hh hb
 have Aa := Hh hst
 clear hL hb hst hM hT
 go_enter Tryz.func81, Tryz.ntmps81
 go_wp2_with (first
  | (refine wpList_load_mid rfl 53 (.global 1) rfl 1 0 rfl M _ Aa.o Tryz.underlying53 rfl Ab.o ?_)
  | (refine wpList_build_run (by kernel_rfl) 173 _ rfl #[(0, .agg M.toArray)] (by kernel_rfl) (.agg L) (HB.o _) ?_))
 go_ret
 exact ⟨rfl, rfl⟩
def FillP (K s0 : List Wd) (w : World) (g : Nat) (s : ByteArray) (w' : World) : Prop :=
 HshT (tagP s 0 1) (.int .i64 0) K s0 w' g (digest K s0 (sbytes s) ++ digest K s0 (sbytes s)) ∧ Kept (· = g) w w'
theorem tag_row {P : List Value} {U : Value} (hP : P.length = 4) (s : List Wd) (rest : List Nat) (at_ n : Int) : ∀ (g : Nat) (w w' : World) (L : List Value), Has w g 178 (tcells P U s rest at_ n).toArray → s.length = 8 → rest.length = 64 → L.length = 74 →
  Has (w.setCells g 4 L) g 178 (P ++ (L ++ [U])).toArray ∧ Kept (· = g) w (w.setCells g 4 L) := by
 intro g w w' L h hs hr hL
 obtain ⟨cur', h1, h2, h3, h4⟩ := Has.setCells L 4 w _ h
 have hl := hcells_len s rest at_ n hs hr
 have hsz : (tcells P U s rest at_ n).toArray.size = 79 := by rw [List.size_toArray, tcells, List.length_append, List.length_append, hl, hP]; rfl
 rw [hsz] at h2 h3
 have e : cur' = (P ++ (L ++ [U])).toArray := by
  apply Array.ext_getElem?
  intro j
  show cur'[j]? = ((P ++ (L ++ [U])).toArray)[j]?
  by_cases hj : j < 79
  · rw [h3 j hj, List.getElem?_toArray, List.getElem?_toArray, tcells]
    by_cases h4 : j < 4
    · rw [if_neg (by omega), List.getElem?_append_left (by omega), List.getElem?_append_left (by omega)]
    · by_cases h78 : j < 78
      · rw [if_pos (by omega), List.getElem?_append_right (by omega), hP, List.getElem?_append_left (by omega)]
      · obtain rfl : j = 78 := by omega
        rw [if_neg (by omega), List.getElem?_append_right (by omega), List.getElem?_append_right (by omega), List.getElem?_append_right (by omega), List.getElem?_append_right (by omega), hP, hl, hL]
  · rw [Array.getElem?_eq_none (xs := cur') (by omega), List.getElem?_toArray, List.getElem?_eq_none (by rw [List.length_append, List.length_append, hP, hL]; simp; omega)]
 rw [e] at h1
 exact ⟨h1, h4⟩
theorem zero_hashT : ∃ Z : Array Value, (∀ w, (zeroValue 27).run Tryz.prog w = .ok (.agg Z) w) ∧ Z.size = 32 ∧ ¬ Z = #[] := by
 have hs : (bcells (List.replicate 32 0)).toArray.size = 32 := by kernel_rfl
 exact ⟨(bcells (List.replicate 32 0)).toArray, fun w => by kernel_rfl, hs, fun e => (by rw [e] at hs; cases hs)⟩
theorem str_bytes (w : World) (s : ByteArray) : ∃ cap C, (convert 9 48 (.string s)).run Tryz.prog w = .ok (.slice (some ⟨w.heap.size, 0, none⟩) s.size cap) (w.drew.alloc (.cells C 5 (C.size, C.size + 1))) ∧
  Bytes (w.alloc (.cells C 5 (C.size, C.size + 1))) (w.alloc (.cells C 5 (C.size, C.size + 1))).heap.size (.slice (some ⟨w.heap.size, 0, none⟩) s.size cap) (sbytes s) := by
 refine ⟨grownCap w s.size 0 5, bytesRow s (grownCap w s.size 0 5), run_bytes_of_string w 9 48 5 s Tryz.underlying9 Tryz.underlying48 Tryz.underlying5, ?_⟩
 have hl : (sbytes s).length = s.size := by simp [sbytes]
 refine ⟨_, _, by rw [hl], by rw [hl]; exact grownCap_ge w s.size 0 _, sbytes_lt s, fun _ => ⟨w.heap.size, 0, rfl, by simp, fun i hi => ?_⟩⟩
 rw [hl] at hi
 have hi2 : i < s.data.size := hi
 unfold World.cell?
 have hb : (w.alloc (.cells (bytesRow s (grownCap w s.size 0 5)) 5 ((bytesRow s (grownCap w s.size 0 5)).size, (bytesRow s (grownCap w s.size 0 5)).size + 1))).heap[w.heap.size]? = some (.cells (bytesRow s (grownCap w s.size 0 5)) 5 ((bytesRow s (grownCap w s.size 0 5)).size, (bytesRow s (grownCap w s.size 0 5)).size + 1)) := heap_alloc_new w _
 show (match (w.alloc _).heap[w.heap.size]? with | some (.cells cs _ _) => _ | _ => none) = _
 rw [hb]
 show (bytesRow s _)[0 + i]? = _
 rw [Nat.zero_add, bytesRow_at s _ i hi2]
 have : (sbytes s).getD i 0 = s.data[i].toNat := by
  unfold sbytes
  rw [List.getD_eq_getElem?_getD, List.getElem?_map, Array.getElem?_toList, Array.getElem?_eq_getElem hi2]; rfl
 rw [this]
theorem parts_oneT (w : World) (v : Value) (p : List Nat) (h : Bytes w w.heap.size v p) : Parts (w.alloc (.cells #[v] 48)) (.slice (some ⟨w.heap.size, 0, none⟩) 1 1) [p] := by
 refine ⟨_, _, rfl, fun _ => ⟨w.heap.size, 0, rfl, fun i hi => ?_⟩⟩
 have hi0 : i = 0 := by simpa using hi
 subst hi0
 have hb : Below w.heap.size w (w.alloc (.cells #[v] 48)) := (Below.refl _ _).alloc (Nat.le_refl _) _
 exact ⟨v, (Has.new w _ _).cell_is rfl, h.alive hb hb.size⟩
theorem hcells_one (s : List Wd) (rest : List Nat) (at_ n : Int) : (hcells s rest at_ n).toArray.all (·.oneCell') = true := by
 rw [Array.all_eq_true']
 intro x hx
 have hx2 : x ∈ hcells s rest at_ n := by simpa using hx
 rcases List.mem_append.1 hx2 with h | h
 · obtain ⟨y, _, rfl⟩ := List.mem_map.1 h; rfl
 · rcases List.mem_append.1 h with h | h
   · obtain ⟨y, _, rfl⟩ := List.mem_map.1 h; rfl
   · rcases List.mem_cons.1 h with rfl | h
     · rfl
     · rcases List.mem_cons.1 h with rfl | h
       · rfl
       · cases h
theorem hash_by {w : World} {G g : Nat} {D : List Nat} (h : Has w G 27 (bcells D).toArray) (hD : IsHash D) (hne : G ≠ g) : Bytes w.drew g (.slice (some ⟨G, 0, none⟩) 32 32) D :=
 ⟨_, 32, by rw [hD.1], by rw [hD.1]; exact Nat.le_refl _, hD.2, fun _ => ⟨G, 0, rfl, hne, fun i hi => by
  rw [Nat.zero_add]
  exact h.drew.cell_is (by rw [List.getElem?_toArray]; exact bcells_get _ i hi)⟩⟩
theorem fill_head {K s0 : List Wd} {s : ByteArray} {w : World} {g : Nat} {LH : List Value} (hl : LH = hcells s0 (List.replicate 64 0) 0 0) (h : Has w g 178 (tagP s 0 1 ++ (LH ++ [Value.int .i64 0])).toArray) (h8 : s0.length = 8) : HshT (tagP s 0 1) (.int .i64 0) K s0 w g [] := by
 refine ⟨List.replicate 64 0, ⟨?_, h8, by simp, fun x hx => by rw [List.eq_of_mem_replicate hx]; decide, rfl⟩, rfl, by decide⟩
 rw [hl] at h
 exact h
set_option maxRecDepth 100000 in
set_option maxHeartbeats 4000000 in
theorem tagFill_is (K s0 : List Wd) (w : World) (hT : Tabs K s0 w) (g B1 : Nat) (s : ByteArray) (hs : s.size ≤ 1000000) (hlow : 2 + 1 ≤ g) (hh : Has w g 178 (tcells (tagP s 0 1) (.int .i64 0) (List.replicate 8 0) (List.replicate 64 0) 0 0).toArray) (hb : w.cell? ⟨B1, 0, none⟩ = some (.pointer (some ⟨g, 0, none⟩))) (hne : B1 ≠ g) :
  Calls Tryz.prog 80 #[.pointer (some ⟨B1, 0, none⟩)] w fun e w' => e = .returned (.tuple #[]) ∧ FillP K s0 w g s w' := by
 obtain ⟨zk, hzk, hzs, hzn⟩ := zero_hashT
 have hB1 := World.block_lt_of_cell? w _ hb
 obtain ⟨D, hD⟩ : ∃ D, D = digest K s0 (sbytes s) := ⟨_, rfl⟩
 have hDh : IsHash D := by rw [hD]; exact digest_hash K s0 hT.len _
 have hlb : (sbytes s).length = s.size := by simp [sbytes]
 have cn := hh.cell_is (i := 0) (v := .string s) rfl
 obtain ⟨cap, C, hcv, hby⟩ := str_bytes w s
 obtain ⟨O1, hO1⟩ : ∃ o, o = Obj.cells C 5 (C.size, C.size + 1) := ⟨_, rfl⟩
 obtain ⟨O2, hO2⟩ : ∃ o, o = Obj.cells #[.slice (some ⟨w.heap.size, 0, none⟩) s.size cap] 48 := ⟨_, rfl⟩
 have hpt := parts_oneT _ _ _ hby
 rw [← hO1, ← hO2, show (w.alloc O1).heap.size = w.heap.size + 1 by simp] at hpt
 have hal : Below w.heap.size w (w.alloc O1) := (Below.refl _ _).alloc (Nat.le_refl _) _
 have Ab : Below w.heap.size w ((w.alloc O1).alloc O2).drew := (hal.alloc hal.size O2).drew
 have Ad := sum_is K s0 ((w.alloc O1).alloc O2).drew _ [sbytes s] (hT.below Ab hT.low) hpt (by simp [hlb]; omega) (by show 1 ≤ 1000000000; decide)
 rw [show [sbytes s].flatten = sbytes s by simp, ← hD] at Ad
 rw [hO1, hO2] at Ad Ab
 have Ae := Hh Ad
 have Al := Hh Ab
 have Aj := Hh hDh
 have HD := Hh hD
 have HT := Hh hT
 have Az := Hh hh
 have HB := Hh hb
 have SZ := Hh (show (Tryz.prog.info? 27).map (·.size) = some (bcells D).toArray.size by rw [List.size_toArray, bcells_length, hDh.1]; kernel_rfl)
 have A8 := Hh (show zk.size = (bcells D).toArray.size by rw [hzs, List.size_toArray, bcells_length, hDh.1])
 have A7 := Hh (show (bcells D).toArray.all (·.oneCell') = true by rw [Array.all_eq_true']; intro x hx; exact bcells_one D x (by simpa using hx))
 have hgl := hh.lt
 clear hby hal Ab Ad hDh hD hT hh hlb hzs hpt hO1 hO2
 unfold arr at Ae
 go_enter Tryz.func80, Tryz.ntmps80
 go_wp2_with fail
 refine Ae.o.mono ?_
 rintro _ w1 ⟨rfl, hb1⟩
 have hnw : Has ((w1.alloc (.cells zk 27)).setRow w1.heap.size (bcells D).toArray) w1.heap.size 27 (bcells D).toArray ∧ Below w1.heap.size w1 ((w1.alloc (.cells zk 27)).setRow w1.heap.size (bcells D).toArray) := by
  rw [World.setRow_alloc_new]
  exact ⟨Has.new _ _ _, (Below.refl _ _).alloc (Nat.le_refl _) _⟩
 have hbx := (Al.o.trans (hb1.mono Al.o.size))
 have hbw := hbx.trans (hnw.2.mono hbx.size)
 have Af := Hh hbw
 have Ar := Hh hnw.1
 have Ag := Hh hbx.size
 clear hnw hb1 hbx hbw hcv cn hb Ae Al
 go_upto_region 1 with (refine wpList_store_row rfl 27 (.tmp 1) (.tmp 8) rfl w1.heap.size (bcells D).toArray rfl rfl 27 zk (heap_alloc_new w1 _) SZ.o A8.o A7.o ?_)
 generalize (w1.alloc (.cells zk 27)).setRow w1.heap.size (bcells D).toArray = W1 at Af Ar ⊢
 generalize w1.heap.size = G at Ar Ag ⊢
 have Ai := Hh (HT.o.below Af.o HT.o.low)
 have A5 := Hh (Az.o.below Af.o Az.o.lt)
 obtain ⟨LH, hLH⟩ : ∃ l, l = hcells s0 (List.replicate 64 0) 0 0 := ⟨_, rfl⟩
 have A1 := Hh hLH
 have Ah := Hh (show LH.length = 74 by rw [hLH]; exact hcells_len _ _ _ _ Ai.o.len (by simp))
 have A9 := Hh (show (Tryz.prog.info? 173).map (·.size) = some LH.length by rw [Ah.o]; kernel_rfl)
 have Ax := Hh (show (Tryz.prog.info? 173).map (·.size) = some LH.toArray.size by rw [List.size_toArray, Ah.o]; kernel_rfl)
 have Aw := Hh (show LH.toArray.all (·.oneCell') = true by rw [hLH]; exact hcells_one _ _ _ _)
 have Ba := Hh (show (tcells (tagP s 0 1) (.int .i64 0) (List.replicate 8 0) (List.replicate 64 0) 0 0).toArray.size = 79 by rw [List.size_toArray, tcells, List.length_append, List.length_append, hcells_len _ _ _ _ (by simp) (by simp)]; rfl)
 have hS0 : W1.drew.cell? ⟨B1, 0, none⟩ = some (.pointer (some ⟨g, 0, none⟩)) := cell_held (S := fun _ => False) (Kept.of_below Af.o) HB.o (fun h => h)
 clear hLH
 refine wp_region_noPanic ?_
 refine wp_region_held_drew (S := (fun v => v.cell? ⟨B1, 0, none⟩ = some (.pointer (some ⟨g, 0, none⟩)))) (by kernel_rfl) hS0 (fun hH0 => ?_)
 refine tl 0 (v := ((.pointer (some ⟨g, 0, none⟩)))) rfl (by intro w' hS; go_simp) hH0 ?_
 simp only [qc]
 refine rdy [1] (ar1 rfl fun K hK => ?_)
 go_simp
 refine (new_is _ s0 W1.drew (Ai.o.drew)).mono ?_
 rintro _ x1 ⟨rfl, hx1⟩
 rw [← A1.o] at hx1
 have Aa : Kept (fun _ => False) W1 x1 := by rw [hx1]; exact ((Kept.refl _ W1).drew).alloc _
 have hz1 : Has x1 W1.heap.size 173 LH.toArray := by rw [hx1]; exact Has.new W1.drew _ _
 have hs1 : x1.cell? ⟨B1, 0, none⟩ = some (.pointer (some ⟨g, 0, none⟩)) := cell_held Aa hS0 (fun h => h)
 have Av := Hh (A5.o.kept Aa (fun h => h))
 have Am := Hh Aa
 clear hx1 Aa
 refine hK _ _ hs1 fun hH1 => ?_
 clear hK K
 try simp only [qc]
 refine tl 2 (v := ((.pointer (some ⟨W1.heap.size, 0, none⟩)))) rfl (by intro w' hS; go_simp) hH1 ?_
 simp only [qc]
 refine rdy [3] (ar1 rfl fun K hK => ?_)
 refine step_load_mid rfl 173 (.tmp 11) rfl W1.heap.size 0 rfl LH _ hz1.row0 Tryz.underlying173 rfl A9.o ?_
 refine hK _ _ hH1 fun hH2 => ?_
 clear hK K
 try simp only [qc]
 refine tl 4 (v := ((.pointer (some ⟨g, 0, none⟩)))) rfl (by intro w' hS; go_simp) hH2 ?_
 simp only [qc]
 refine tl 5 (v := ((.pointer (some ⟨g, 4, none⟩)))) rfl (by intro w' hS; go_simp) hH2 ?_
 simp only [qc]
 refine rdy [6] (ar1 rfl fun K hK => ?_)
 refine step_store_mid rfl 173 (.tmp 14) (.tmp 12) rfl g 4 LH.toArray rfl rfl (Av.o.there 4 LH.toArray.size (by rw [Ba.o, List.size_toArray, Ah.o]; decide)) Ax.o Aw.o ?_
 refine hK _ _ (cell_held (tag_row (w' := x1) rfl _ _ _ _ g x1 LH Av.o (by simp) (by simp) Ah.o).2 hs1 hne) fun hH3 => ?_
 clear hK K
 try simp only [qc]
 refine wpAnyH_done (by kernel_rfl) ?_ _
 refine NoPanic.normal ?_
 have Ac := tag_row (w' := x1) rfl _ _ _ _ g x1 LH Av.o (by simp) (by simp) Ah.o
 have Ak := Hh ((Am.o.mono (S' := (· = g)) (fun _ _ h => h.elim)).trans Ac.2)
 have A2 := Hh (fill_head (K := K) (s := s) A1.o Ac.1 Ai.o.len)
 have Ay := Hh (cell_held Ac.2 hs1 hne)
 have Ap := Hh (Ar.o.kept Ak.o (by have := Ag.o; show ¬ _ = g; omega))
 clear Ac hz1 hs1 hS0
 generalize x1.setCells g 4 LH = W2 at Ak A2 Ay Ap ⊢
 have As := Hh (Ai.o.kept Ak.o (fun k e => by have e' : k = g := e; omega))
 have An := Hh (hash_by Ap.o Aj.o (by have := Ag.o; show G ≠ g; omega))
 go_upto_region 2 with (fail)
 have hS0 : W2.drew.cell? ⟨B1, 0, none⟩ = some (.pointer (some ⟨g, 0, none⟩)) := Ay.o
 refine wp_region_noPanic ?_
 refine wp_region_held_drew (S := (fun v => v.cell? ⟨B1, 0, none⟩ = some (.pointer (some ⟨g, 0, none⟩)))) (by kernel_rfl) hS0 (fun hH0 => ?_)
 refine tl 0 (v := ((.pointer (some ⟨g, 0, none⟩)))) rfl (by intro w' hS; go_simp) hH0 ?_
 simp only [qc]
 refine tl 1 (v := ((.pointer (some ⟨g, 0, none⟩)))) rfl (by intro w' hS; go_simp) hH0 ?_
 simp only [qc]
 refine tl 2 (v := ((.pointer (some ⟨g, 4, none⟩)))) rfl (by intro w' hS; go_simp) hH0 ?_
 simp only [qc]
 refine tl 3 (v := ((.slice (some ⟨G, 0, none⟩) 32 32))) rfl (by intro w' hS; go_simp) hH0 ?_
 simp only [qc]
 refine rdy [4] (ar1 rfl fun K hK => ?_)
 go_simp
 refine (writeT_is (tagP s 0 1) (.int .i64 0) _ s0 W2.drew g [] _ D (As.o.drew) A2.o hlow An.o (by rw [Aj.o.1]; decide)).mono ?_
 rintro _ W3 ⟨rfl, hw4, hk4⟩
 have hs4 : W3.cell? ⟨B1, 0, none⟩ = some (.pointer (some ⟨g, 0, none⟩)) := cell_held hk4 hS0 hne
 refine hK _ _ hs4 fun hH1 => ?_
 clear hK K
 try simp only [qc]
 refine wpAnyH_done (by kernel_rfl) ?_ _
 refine NoPanic.normal ?_
 rw [List.nil_append] at hw4
 have A6 := Hh hw4
 have A0 := Hh (Ak.o.trans hk4.undrew)
 have A3 := Hh hs4
 have A4 := Hh (Ap.o.kept hk4.undrew (by have := Ag.o; show ¬ _ = g; omega))
 clear hs4 hw4 hk4 hS0
 have Au := Hh (Ai.o.kept A0.o (fun k e => by have e' : k = g := e; omega))
 have Ao := Hh (hash_by A4.o Aj.o (by have := Ag.o; show G ≠ g; omega))
 go_upto_region 3 with (fail)
 have hS0 : W3.drew.cell? ⟨B1, 0, none⟩ = some (.pointer (some ⟨g, 0, none⟩)) := A3.o
 refine wp_region_noPanic ?_
 refine wp_region_held_drew (S := (fun v => v.cell? ⟨B1, 0, none⟩ = some (.pointer (some ⟨g, 0, none⟩)))) (by kernel_rfl) hS0 (fun hH0 => ?_)
 refine tl 0 (v := ((.pointer (some ⟨g, 0, none⟩)))) rfl (by intro w' hS; go_simp) hH0 ?_
 simp only [qc]
 refine tl 1 (v := ((.pointer (some ⟨g, 0, none⟩)))) rfl (by intro w' hS; go_simp) hH0 ?_
 simp only [qc]
 refine tl 2 (v := ((.pointer (some ⟨g, 4, none⟩)))) rfl (by intro w' hS; go_simp) hH0 ?_
 simp only [qc]
 refine tl 3 (v := ((.slice (some ⟨G, 0, none⟩) 32 32))) rfl (by intro w' hS; go_simp) hH0 ?_
 simp only [qc]
 refine rdy [4] (ar1 rfl fun K hK => ?_)
 go_simp
 refine (writeT_is (tagP s 0 1) (.int .i64 0) _ s0 W3.drew g D _ D (Au.o.drew) A6.o hlow Ao.o (by rw [Aj.o.1]; decide)).mono ?_
 rintro _ x4 ⟨rfl, hw4, hk4⟩
 have hs4 : x4.cell? ⟨B1, 0, none⟩ = some (.pointer (some ⟨g, 0, none⟩)) := cell_held hk4 hS0 hne
 refine hK _ _ hs4 fun hH1 => ?_
 clear hK K
 try simp only [qc]
 refine wpAnyH_done (by kernel_rfl) ?_ _
 refine NoPanic.normal ?_
 have Aq := Hh (show FillP K s0 w g s x4 from ⟨by rw [← HD.o]; exact hw4, (Kept.of_below Af.o).trans (A0.o.trans hk4.undrew)⟩)
 clear hs4 hw4 hk4 hS0
 go_wp2_with fail
 go_end0
 exact ⟨rfl, Aq.o⟩
/- The walk of (*sha.Tag).Sum: the digest for one purpose. -/

def tagD (K s0 : List Wd) (s : ByteArray) (m : List Nat) : List Nat := digest K s0 (digest K s0 (sbytes s) ++ digest K s0 (sbytes s) ++ m)
def PartsN (w : World) (g : Nat) (v : Value) (ps : List (List Nat)) : Prop :=
 ∃ a c, v = .slice a ps.length c ∧ (0 < ps.length → ∃ pg po, a = some ⟨pg, po, none⟩ ∧ pg ≠ g ∧ ∀ i, i < ps.length → ∃ pv, w.cell? ⟨pg, po + i, none⟩ = some pv ∧ Bytes w g pv (ps.getD i []))
theorem enters_tag : ∀ args w, (callFunc 80 args).run Tryz.prog w = .ok (.enter 80 args) w := enters_of Tryz.func80 (by kernel_rfl) rfl
theorem addI64_is (a : Addr) (x : Int) (w : World) (hc : w.cell? a = some (.int .i64 x)) (hz : w.frozen? a = false) (h0 : 0 ≤ x) (h1 : x < 1000000) :
  Calls Tryz.prog 83 #[.pointer (some a), .int .i64 1] w fun e w' => e = .returned (.int .i64 (x + 1)) ∧ w' = w.setCell a (.int .i64 (x + 1)) := by
 have hs : (Op.intArith .add .i64 x 1).run Tryz.prog w = .ok (.int .i64 (x + 1)) w := by
  have : IntKind.i64.wrap (x + 1) = x + 1 := by rw [IntKind.wrap_i64]; omega
  simp [go_sem, this]
 have hadd := run_call_add (P := Tryz.prog) Tryz.func108 (by kernel_rfl) (by kernel_rfl) (by kernel_rfl) .i64 (by kernel_rfl) (y := 1) (s := x + 1) hc hz hs
 go_enter Tryz.func83, Tryz.ntmps83
 go_wp2
 go_ret
 exact ⟨rfl, rfl⟩
theorem HshT.putP {P P' : List Value} {U : Value} {K s0 : List Wd} {w w' : World} {g : Nat} {m : List Nat} (h : HshT P U K s0 w g m) (hP : P'.length = 4) (hw : ∀ s rest at_ n, Has w g 178 (tcells P U s rest at_ n).toArray → Has w' g 178 (tcells P' U s rest at_ n).toArray) : HshT P' U K s0 w' g m := by
 obtain ⟨rest, ⟨h1, h2, h3, h4, h5⟩, h6, h7⟩ := h
 exact ⟨rest, ⟨hw _ _ _ _ h1, h2, h3, h4, hP⟩, h6, h7⟩
theorem tc_setP (s : ByteArray) (d l d' l' : Int) (U : Value) (st : List Wd) (rest : List Nat) (at_ n : Int) : (((tcells (tagP s d l) U st rest at_ n).toArray.setIfInBounds 1 (.int .u32 d')).setIfInBounds 2 (.int .i32 l')) = (tcells (tagP s d' l') U st rest at_ n).toArray := by
 rw [List.setIfInBounds_toArray, List.setIfInBounds_toArray]; rfl
theorem tc_setL (s : ByteArray) (d l l' : Int) (U : Value) (st : List Wd) (rest : List Nat) (at_ n : Int) : ((tcells (tagP s d l) U st rest at_ n).toArray.setIfInBounds 2 (.int .i32 l')) = (tcells (tagP s d l') U st rest at_ n).toArray := by
 rw [List.setIfInBounds_toArray]; rfl
theorem tc_setU {P : List Value} (hP : P.length = 4) (U U' : Value) (st : List Wd) (rest : List Nat) (at_ n : Int) (hs : st.length = 8) (hr : rest.length = 64) : ((tcells P U st rest at_ n).toArray.setIfInBounds 78 U') = (tcells P U' st rest at_ n).toArray := by
 rw [List.setIfInBounds_toArray]
 congr 1
 unfold tcells
 rw [List.set_append_right _ _ (by omega), List.set_append_right _ _ (by rw [hcells_len _ _ _ _ hs hr]; omega), hcells_len _ _ _ _ hs hr, hP]; rfl
theorem zero_hasher : ∃ Z : Array Value, (∀ w, (zeroValue 173).run Tryz.prog w = .ok (.agg Z) w) ∧ Z.size = 74 ∧ ¬ Z = #[] := by
 have hs : (hcells (List.replicate 8 0) (List.replicate 64 0) 0 0).toArray.size = 74 := by kernel_rfl
 exact ⟨(hcells (List.replicate 8 0) (List.replicate 64 0) 0 0).toArray, fun w => by kernel_rfl, hs, fun e => (by rw [e] at hs; cases hs)⟩
structure TagOk (K s0 : List Wd) (s : ByteArray) (u : Int) (w : World) (g : Nat) : Prop where
 hsh : HshT (tagP s 1 0) (.int .i64 u) K s0 w g (digest K s0 (sbytes s) ++ digest K s0 (sbytes s))
theorem tagDo_is (K s0 : List Wd) (w : World) (hT : Tabs K s0 w) (g B1 : Nat) (s : ByteArray) (hs : s.size ≤ 1000000) (hlow : 2 + 1 ≤ g) (hg : Has w g 178 (tag0 s).toArray) (hb : w.cell? ⟨B1, 0, none⟩ = some (.pointer (some ⟨g, 0, none⟩))) (hne : B1 ≠ g) :
   Calls Tryz.prog 79 #[.pointer (some ⟨g, 1, none⟩), .func (.func 80) #[] #[.pointer (some ⟨B1, 0, none⟩)]] w fun e w' => e = .returned (.tuple #[]) ∧ TagOk K s0 s 0 w' g ∧ Kept (· = g) w w' := by
 have Aa := hg.set 2 (.int .i32 1)
 unfold tag0 at Aa
 rw [tc_setL] at Aa
 have hk0 : Kept (· = g) w (w.setCell ⟨g, 2, none⟩ (.int .i32 1)) := (Kept.refl (· = g) w).set (p := ⟨g, 2, none⟩) (.inl rfl) _
 have hT1 : Tabs K s0 (w.setCell ⟨g, 2, none⟩ (.int .i32 1)) := hT.kept hk0 (fun k e => by have e' : k = g := e; omega)
 have hb1 : (w.setCell ⟨g, 2, none⟩ (.int .i32 1)).cell? ⟨B1, 0, none⟩ = some (.pointer (some ⟨g, 0, none⟩)) := cell_held hk0 hb hne
 have Ab := tagFill_is K s0 _ hT1 g B1 s hs hlow Aa hb1 hne
 refine (do_first 80 (.pointer (some ⟨B1, 0, none⟩)) g 1 w (FillP K s0 (w.setCell ⟨g, 2, none⟩ (.int .i32 1)) g s) (hg.cell_is rfl) (hg.cell_is rfl) (hg.free _) (hg.free _) Ab enters_tag ?_).mono ?_
 · rintro w' ⟨⟨rest, ⟨h1, -⟩, -⟩, -⟩
   exact ⟨h1.cell_is rfl, h1.cell_is rfl, h1.free _, h1.free _⟩
 · intro e w' ⟨he, w2, ⟨p1, p2⟩, hw⟩
   refine ⟨he, ⟨p1.putP rfl (fun st rest at_ n h => ?_)⟩, ?_⟩
   · rw [hw, ← tc_setP s 0 1 1 0]
     exact (h.drew.set 1 _).set 2 _
   · rw [hw]
     exact ((hk0.trans p2).drew.set (p := ⟨g, 1, none⟩) (.inl rfl) _).set (p := ⟨g, 2, none⟩) (.inl rfl) _
set_option maxRecDepth 100000 in
set_option maxHeartbeats 4000000 in
theorem tagSum_is (K s0 : List Wd) (w : World) (hT : Tabs K s0 w) (g : Nat) (s : ByteArray) (hs : s.size ≤ 1000000) (hlow : 2 + 1 ≤ g) (hg : Has w g 178 (tag0 s).toArray) (v : Value) (ps : List (List Nat)) (hP : PartsN w g v ps) (hl : ps.flatten.length ≤ 100000000) (hn : ps.length ≤ 1000000) :
  Calls Tryz.prog 54 #[.pointer (some ⟨g, 0, none⟩), v] w fun e w' => e = .returned (arr (tagD K s0 s ps.flatten)) ∧ Kept (· = g) w w' := by
 have hmf : ∀ (fn : Fn) (first cap : Array Value) (w : World), (Instr.makeFunc fn first cap).run Tryz.prog w = .ok (.func fn first cap) w := fun _ _ _ _ => rfl
 obtain ⟨zk, hzk, hzs, hzn⟩ := zero_hashT
 obtain ⟨zh, hzh, Ak, hzhn⟩ := zero_hasher
 obtain ⟨a, c, rfl, hps⟩ := hP
 obtain ⟨n, hnn⟩ : ∃ n, n = ps.length := ⟨_, rfl⟩
 rw [← hnn] at hn hps
 rw [← hnn]
 have HN := Hh hnn
 have Bf := Hh hps
 have HT := Hh hT
 have HL := Hh hl
 have HG := Hh hg
 have hgl := hg.lt
 obtain ⟨d0, hd0⟩ : ∃ l, l = digest K s0 (sbytes s) ++ digest K s0 (sbytes s) := ⟨_, rfl⟩
 have Aw := Hh hd0
 have Al := Hh (show d0.length = 64 by rw [hd0, List.length_append, digest_length K s0 hT.len])
 have h1 : Has ((w.alloc (.cells #[.pointer (some ⟨g, 0, none⟩)] 115)).alloc (.cells zk 27)) w.heap.size 115 #[.pointer (some ⟨g, 0, none⟩)] := (Has.new w _ _).alloc _
 have h4 : Has ((w.alloc (.cells #[.pointer (some ⟨g, 0, none⟩)] 115)).alloc (.cells zk 27)) (w.heap.size + 1) 27 zk := by
  have := Has.new (w.alloc (.cells #[.pointer (some ⟨g, 0, none⟩)] 115)) 27 zk
  simpa using this
 have hb1 : Below w.heap.size w ((w.alloc (.cells #[.pointer (some ⟨g, 0, none⟩)] 115)).alloc (.cells zk 27)) := ((Below.refl _ _).alloc (Nat.le_refl _) _).alloc (by simp) _
 have A3 := Hh hzs
 have A2 := Hh Ak
 clear hnn hps hT hl hg hd0 hzs Ak
 go_enter Tryz.func54, Tryz.ntmps54
 go_upto_region 1 with (fail)
 generalize (w.alloc (.cells #[.pointer (some ⟨g, 0, none⟩)] 115)).alloc (.cells zk 27) = W1 at h1 h4 hb1 ⊢
 obtain ⟨B4, hB4⟩ : ∃ b, b = w.heap.size + 1 := ⟨_, rfl⟩
 obtain ⟨B1, hB1⟩ : ∃ b, b = w.heap.size := ⟨_, rfl⟩
 have Ac := Hh (show w.heap.size ≤ B1 ∧ B1 < B4 ∧ g < B1 by omega)
 have H1 := Hh (show Has W1 B1 115 #[.pointer (some ⟨g, 0, none⟩)] by rw [hB1]; exact h1)
 have H4 := Hh (show Has W1 B4 27 zk by rw [hB4]; exact h4)
 have A5 := Hh hb1
 rw [← hB4, ← hB1]
 have A7 := Hh (HG.o.below hb1 hgl)
 have A0 := Hh (HT.o.below hb1 HT.o.low)
 have c1 := H1.o.cell_is (i := 0) (v := .pointer (some ⟨g, 0, none⟩)) rfl
 clear h1 h4 hb1 hB4 hB1
 go_wp2_with fail
 refine (tagDo_is K s0 W1 A0.o g B1 s hs hlow A7.o (H1.o.cell_is rfl) (by have := Ac.o; omega)).mono ?_
 rintro _ w2 ⟨rfl, htk, hk2⟩
 have Bb := Hh hk2
 have H1b := Hh (H1.o.kept hk2 (by have := Ac.o; show ¬ B1 = g; omega))
 obtain ⟨rest, ⟨hto, ht8, Aa, htx, htP⟩, htr, htl⟩ := htk.hsh
 have c78 := hto.cell_is (i := 78) (v := .int .i64 0) (by
  rw [List.getElem?_toArray, tcells, List.getElem?_append_right (by rw [htP]; decide), List.getElem?_append_right (by rw [htP, hcells_len _ _ _ _ ht8 Aa]; decide), htP, hcells_len _ _ _ _ ht8 Aa]; rfl)
 have f78 := hto.free 78
 have Ag := hto.set 78 (.int .i64 1)
 rw [tc_setU htP _ _ _ _ _ _ ht8 Aa] at Ag
 have hk3 : Kept (· = g) w2 (w2.setCell ⟨g, 78, none⟩ (.int .i64 1)) := (Kept.refl (· = g) w2).set (p := ⟨g, 78, none⟩) (.inl rfl) _
 have Ab : (w2.setCell ⟨g, 78, none⟩ (.int .i64 1)).rangeAt g 4 (hcells (eat K ((digest K s0 (sbytes s) ++ digest K s0 (sbytes s)).length / 64) s0 (digest K s0 (sbytes s) ++ digest K s0 (sbytes s))) rest (((digest K s0 (sbytes s) ++ digest K s0 (sbytes s)).length % 64 : Nat) : Int) ((digest K s0 (sbytes s) ++ digest K s0 (sbytes s)).length : Nat)) := fun j u hu => by
  have hj := (List.getElem?_eq_some_iff.1 hu).1
  rw [hcells_len _ _ _ _ ht8 Aa] at hj
  refine Ag.cell_is ?_
  rw [List.getElem?_toArray, tcells_mid htP _ _ _ _ ht8 Aa j hj]; exact hu
 have c1b := H1b.o.cell_is (i := 0) (v := .pointer (some ⟨g, 0, none⟩)) rfl
 obtain ⟨LH, hLH⟩ : ∃ l, l = hcells (eat K ((digest K s0 (sbytes s) ++ digest K s0 (sbytes s)).length / 64) s0 (digest K s0 (sbytes s) ++ digest K s0 (sbytes s))) rest (((digest K s0 (sbytes s) ++ digest K s0 (sbytes s)).length % 64 : Nat) : Int) ((digest K s0 (sbytes s) ++ digest K s0 (sbytes s)).length : Nat) := ⟨_, rfl⟩
 rw [← hLH] at Ab
 have Ao := Hh (show LH.length = 74 by rw [hLH]; exact hcells_len _ _ _ _ ht8 Aa)
 have Ba := Hh (show ∀ W G, Has W G 173 LH.toArray → Hsh K s0 W G d0 from fun W G h => by
  rw [Aw.o]
  refine ⟨rest, ⟨?_, ht8, Aa, htx⟩, htr, htl⟩
  rw [hLH] at h; exact h)
 have Bi := Hh (show (Tryz.prog.info? 173).map (·.size) = some LH.length by rw [Ao.o]; kernel_rfl)
 have Au := Hh (show (Tryz.prog.info? 173).map (·.size) = some LH.toArray.size by rw [List.size_toArray, Ao.o]; kernel_rfl)
 have As := Hh (show zh.size = LH.toArray.size by rw [A2.o, List.size_toArray, Ao.o])
 have Ar := Hh (show LH.toArray.all (·.oneCell') = true by rw [hLH]; exact hcells_one _ _ _ _)
 have Az := Hh Ab
 have Ay := Hh hk3
 have H1c := Hh (H1b.o.kept hk3 (by have := Ac.o; show ¬ B1 = g; omega))
 clear c1 hk2 htk hto ht8 Aa htx htP htr htl Ag hk3 Ab hLH
 go_wp2_with fail
 refine (addI64_is ⟨g, 78, none⟩ 0 w2 c78 f78 (by decide) (by decide)).mono ?_
 rintro _ w3 ⟨rfl, rfl⟩
 have hz1 : (0 : Int) + 1 = 1 := by decide
 rw [hz1]
 generalize w2.setCell ⟨g, 78, none⟩ (.int .i64 1) = W3 at Az Ay H1c ⊢
 clear c1b c78 f78 hz1
 have c1c := H1c.o.cell_is (i := 0) (v := .pointer (some ⟨g, 0, none⟩)) rfl
 go_upto_region 6 with (first
  | (refine wpList_load_mid rfl 173 (.tmp 22) rfl g 4 rfl LH _ Az.o Tryz.underlying173 rfl Bi.o ?_)
  | (refine wpList_store_row rfl 173 (.tmp 5) (.tmp 23) rfl W3.heap.size LH.toArray rfl rfl 173 zh (heap_alloc_new W3 _) Au.o As.o Ar.o ?_))
 have hnw : Has ((W3.alloc (.cells zh 173)).setRow W3.heap.size LH.toArray) W3.heap.size 173 LH.toArray ∧ Below W3.heap.size W3 ((W3.alloc (.cells zh 173)).setRow W3.heap.size LH.toArray) := by
  rw [World.setRow_alloc_new]
  exact ⟨Has.new _ _ _, (Below.refl _ _).alloc (Nat.le_refl _) _⟩
 generalize (W3.alloc (.cells zh 173)).setRow W3.heap.size LH.toArray = W at hnw ⊢
 have Ae := Bb.o.trans Ay.o
 have An := Hh (Ae.trans (Kept.of_below (S := (· = g)) hnw.2))
 have Af := Hh (show B4 < W3.heap.size ∧ W1.heap.size ≤ W3.heap.size from ⟨Nat.lt_of_lt_of_le H4.o.lt Ae.size, Ae.size⟩)
 generalize W3.heap.size = G5 at hnw Af ⊢
 have H5 := Hh (Ba.o W G5 hnw.1)
 have A4 := Hh (H4.o.kept An.o (by have := Ac.o; show ¬ B4 = g; omega))
 have A1 := Hh (A0.o.kept An.o (fun k e => by have e' : k = g := e; omega))
 have Aq := Hh (show Kept (fun k => k = g ∨ w.heap.size ≤ k) w W from ((Kept.of_below A5.o).trans (An.o.mono (fun k _ e => .inl e))))
 clear hnw Ae c1c
 go_wp2_with fail
 go_loopw [26] (fun i wr => ∃ k : Nat, k ≤ n ∧ i = .int .i64 k ∧ Hsh K s0 wr G5 (d0 ++ (ps.take k).flatten) ∧ Kept (· = G5) W wr) (fun i _ => n - (intOf i).toNat)
 case atStart => exact ⟨0, by omega, rfl, by rw [List.take_zero, List.flatten_nil, List.append_nil]; exact H5.o, Kept.refl _ _⟩
 case round =>
  obtain ⟨k, hk, rfl, hW, hK⟩ := hrel
  have HW := Hh hW
  have Ad := Hh hK
  clear hW hK
  by_cases hlt : k < n
  · have hn0 : 0 < n := by omega
    obtain ⟨pg, po, hpa, hpg, Ab⟩ := Bf.o hn0
    obtain ⟨pv, hpv, hB⟩ := Ab k hlt
    clear Ab
    subst hpa
    have hpl := World.block_lt_of_cell? w _ hpv
    have cpv0 : W.cell? ⟨pg, po + k, none⟩ = some pv := cell_kept Aq.o hpv (by dsimp only at hpl; show ¬ (pg = g ∨ w.heap.size ≤ pg); omega)
    have cpv : wr.cell? ⟨pg, po + k, none⟩ = some pv := cell_kept Ad.o cpv0 (by have := Af.o; have := Ac.o; dsimp only at hpl; show ¬ pg = G5; omega)
    have hBw : Bytes wr G5 pv (ps.getD k []) := by
     obtain ⟨a', c', e1, e2, e3, e4⟩ := hB
     refine ⟨a', c', e1, e2, e3, fun h0 => ?_⟩
     obtain ⟨bg, bo, q1, q2, q3⟩ := e4 h0
     have hbl := World.block_lt_of_cell? w _ (q3 0 h0)
     dsimp only at hbl
     have h5 := Af.o
     have h6 := Ac.o
     exact ⟨bg, bo, q1, by omega, fun i hi => cell_kept Ad.o (cell_kept Aq.o (q3 i hi) (by show ¬ (bg = g ∨ w.heap.size ≤ bg); omega)) (by show ¬ bg = G5; omega)⟩
    have Av := Hh hBw
    obtain ⟨pa, pn, pc, rfl⟩ : ∃ pa pn pc, pv = .slice pa pn pc := by obtain ⟨a', c', e, _⟩ := hB; exact ⟨_, _, _, e⟩
    clear hB hBw hpv hpl cpv0
    go_wp2_with fail
    have hTw := A1.o.kept Ad.o (fun k e => by have e' : k = G5 := e; have := Af.o; have := Ac.o; omega)
    have Ah : (d0 ++ (ps.take k).flatten).length + (ps.getD k []).length ≤ 1000000000 := by
     have h7 := take_flatten_le ps (k + 1)
     rw [← take_flatten ps k (by rw [← HN.o]; exact hlt), List.length_append] at h7
     have h8 := HL.o
     have h9 := Al.o
     rw [List.length_append]
     omega
    refine (write_is K s0 wr G5 (d0 ++ (ps.take k).flatten) _ (ps.getD k []) hTw HW.o (by have := Af.o; have := Ac.o; omega) Av.o Ah).mono ?_
    rintro _ w4 ⟨rfl, hh4, hk4⟩
    rw [List.append_assoc, take_flatten ps k (by rw [← HN.o]; exact hlt)] at hh4
    have A8 := Hh hh4
    have Bc := Hh (Ad.o.trans hk4)
    clear hTw Ah hh4 hk4 HW Ad Av
    go_wp2
    go_roundw
    case rel => exact ⟨k + 1, by omega, by go_num, A8.o, Bc.o⟩
    case measure => simp [intOf]; omega
  · have hk9 : k = n := by omega
    have hTw := A1.o.kept Ad.o (fun k e => by have e' : k = G5 := e; have := Af.o; have := Ac.o; omega)
    have h0 := A4.o.kept Ad.o (by have := Af.o; show ¬ B4 = G5; omega)
    have hh : Hsh K s0 wr G5 (d0 ++ ps.flatten) := by
     have := HW.o
     rw [hk9, HN.o, List.take_length] at this
     exact this
    have Bg := Hh hTw
    have Ax := Hh h0
    have A9 := Hh hh
    have Be := Hh (Aq.o.trans (Ad.o.mono (S' := fun k => k = g ∨ w.heap.size ≤ k) (fun k _ e => by have e' : k = G5 := e; have := Af.o; have := Ac.o; right; omega)))
    clear hk9 hTw h0 hh HW Ad
    go_wp2_with fail
    refine (hsum_is K s0 wr G5 (d0 ++ ps.flatten) Bg.o A9.o).mono ?_
    rintro _ w5 ⟨rfl, hb5⟩
    have h05 := Ax.o.below hb5 Ax.o.lt
    have h32 := digest_length K s0 HT.o.len (d0 ++ ps.flatten)
    obtain ⟨D, hDD⟩ : ∃ D, D = digest K s0 (d0 ++ ps.flatten) := ⟨_, rfl⟩
    rw [← hDD] at h32 ⊢
    have hsz : (Tryz.prog.info? 27).map (·.size) = some (bcells D).toArray.size := by rw [List.size_toArray, bcells_length, h32]; kernel_rfl
    have Aj : zk.size = (bcells D).toArray.size := by rw [A3.o, List.size_toArray, bcells_length, h32]
    have Ai : Has (w5.setRow B4 (bcells D).toArray) B4 27 (bcells D).toArray := h05.setRow
    have hkf : Kept (· = g) w (w5.setRow B4 (bcells D).toArray) := by
     have hk6 := (Be.o.trans (Kept.of_below (S := fun k => k = g ∨ w.heap.size ≤ k) hb5)).step (kept_setRow (g := B4) w5 (bcells D).toArray) (fun j e => by have e' : j = B4 := e; have := Ac.o; right; omega)
     exact hk6.mono (fun k hk e => by rcases e with e | e; exact e; omega)
    have A6 := Hh (show D = tagD K s0 s ps.flatten by rw [hDD, Aw.o]; rfl)
    have Ap := Hh Ai
    have Bd := Hh hkf
    have HZ := Hh hsz
    have Bh := Hh Aj
    have Am := Hh h05
    clear h05 h32 hsz Aj Ai hkf hDD hb5
    unfold arr
    go_wp2_with (refine wpList_store_row rfl 27 (.tmp 4) (.tmp 33) rfl B4 (bcells D).toArray rfl rfl 27 _ Am.o HZ.o Bh.o (all_oneCell_toArray (bcells_one D)) ?_)
    refine bodyPost_ret (results_cell_row rfl _ _ B4 27 (bcells D).toArray (0, 0) _ rfl Ap.o Tryz.underlying27 rfl HZ.o) rfl ?_
    exact ⟨by rw [← A6.o]; rfl, Bd.o⟩
end Go.Proofs.YtknfbccbdiidjaaGreatDoor
