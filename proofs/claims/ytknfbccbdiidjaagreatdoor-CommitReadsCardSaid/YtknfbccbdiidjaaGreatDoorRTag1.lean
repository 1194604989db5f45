/- The walks of sha.NewTag, sha.New and of what fills a tag's head. -/
import Derived.Test.YtknfbccbdiidjaaGreatDoorWs
import Derived.Test.YtknfbccbdiidjaaGreatDoorROnce
import Derived.Test.YtknfbccbdiidjaaGreatDoorRBes1
import Derived.Test.YtknfbccbdiidjaaGreatDoorRMem
import Derived.Laws.IdiomStrings
namespace Go.Proofs.YtknfbccbdiidjaaGreatDoor
set_option linter.unusedVariables false
set_option linter.unusedSimpArgs false
open Go.ChangeShapes Go.WideShapes Go.ChangeAt Go.RowKit Go.Maps

def sbytes (s : ByteArray) : List Nat := s.data.toList.map UInt8.toNat
theorem sbytes_lt (s : ByteArray) : ∀ x ∈ sbytes s, x < 256 := by
 intro x hx
 obtain ⟨b, _, rfl⟩ := List.mem_map.1 hx
 exact b.toNat_lt
def tagP (s : ByteArray) (d l : Int) : List Value := [.string s, .int .u32 d, .int .i32 l, .int .u32 0]
def tag0 (s : ByteArray) : List Value := tcells (tagP s 0 0) (.int .i64 0) (List.replicate 8 0) (List.replicate 64 0) 0 0
theorem build_tag (s : ByteArray) (w : World) : (Instr.build 178 #[(0, .string s)]).run Tryz.prog w = .ok (.agg (tag0 s).toArray) w := by
 exact run_build w 178 _ _ (by kernel_rfl)
theorem newTag_is (s : ByteArray) (w : World) : Calls Tryz.prog 53 #[.string s] w fun e w' => e = .returned (.pointer (some ⟨w.heap.size, 0, none⟩)) ∧ w' = w.alloc (.cells (tag0 s).toArray 178) := by
 have hb := build_tag s
 obtain ⟨L, hL⟩ : ∃ L, L = (tag0 s).toArray := ⟨_, rfl⟩
 rw [← hL] at hb ⊢
 have HB := Lib.hid hb
 clear hL hb
 go_enter Tryz.func53, Tryz.ntmps53
 go_wp2_with (refine wpList_build_run (by kernel_rfl) 178 _ rfl #[(0, .string s)] (by kernel_rfl) (.agg L) (HB.out _) ?_)
 go_ret
 exact ⟨rfl, rfl⟩
theorem build_hasher (s0 : List Wd) (h : s0.length = 8) (w : World) : (Instr.build 173 #[(0, .agg (wcells s0).toArray)]).run Tryz.prog w = .ok (.agg (hcells s0 (List.replicate 64 0) 0 0).toArray) w := by
 obtain ⟨x0, x1, x2, x3, x4, x5, x6, x7, rfl⟩ := eight_words _ h
 exact run_build w 173 _ _ (by kernel_rfl)
theorem new_is (K s0 : List Wd) (w : World) (hT : Tabs K s0 w) : Calls Tryz.prog 81 #[] w fun e w' => e = .returned (.pointer (some ⟨w.heap.size, 0, none⟩)) ∧ w' = w.alloc (.cells (hcells s0 (List.replicate 64 0) 0 0).toArray 173) := by
 have hb := build_hasher s0 hT.len
 obtain ⟨L, hL⟩ : ∃ L, L = (hcells s0 (List.replicate 64 0) 0 0).toArray := ⟨_, rfl⟩
 obtain ⟨M, hM⟩ : ∃ M, M = wcells s0 := ⟨_, rfl⟩
 have hst := hT.start
 have HSZ := Lib.hid (show (Tryz.prog.info? 53).map (·.size) = some M.length by rw [hM, wcells_length, hT.len]; kernel_rfl)
 rw [← hM] at hst
 rw [← hL, ← hM] at hb
 rw [← hL]
 have HB := Lib.hid hb
 have HST := Lib.hid hst
 clear hL hb hst hM hT
 go_enter Tryz.func81, Tryz.ntmps81
 go_wp2_with (first
  | (refine wpList_load_mid rfl 53 (.global 1) rfl 1 0 rfl M _ HST.out Tryz.underlying53 rfl HSZ.out ?_)
  | (refine wpList_build_run (by kernel_rfl) 173 _ rfl #[(0, .agg M.toArray)] (by kernel_rfl) (.agg L) (HB.out _) ?_))
 go_ret
 exact ⟨rfl, rfl⟩
def FillP (K s0 : List Wd) (w : World) (g : Nat) (s : ByteArray) (w' : World) : Prop :=
 HshT (tagP s 0 1) (.int .i64 0) K s0 w' g (digest K s0 (sbytes s) ++ digest K s0 (sbytes s)) ∧ Kept (· = g) w w'
theorem tag_row {P : List Value} {U : Value} (hP : P.length = 4) (s : List Wd) (rest : List Nat) (at_ n : Int) : ∀ (g : Nat) (w w' : World) (L : List Value), Has w g 178 (tcells P U s rest at_ n).toArray → s.length = 8 → rest.length = 64 → L.length = 74 →
  Has (w.setCells g 4 L) g 178 (P ++ (L ++ [U])).toArray ∧ Kept (· = g) w (w.setCells g 4 L) := by
 intro g w w' L h hs hr hL
 obtain ⟨cur', h1, h2, h3, h4⟩ := Has.setCells L 4 w _ h
 have hl := hcells_len s rest at_ n hs hr
 have hsz : (tcells P U s rest at_ n).toArray.size = 79 := by rw [List.size_toArray, tcells, List.length_append, List.length_append, hl, hP]; rfl
 rw [hsz] at h2 h3
 have e : cur' = (P ++ (L ++ [U])).toArray := by
  apply Array.ext_getElem?
  intro j
  show cur'[j]? = ((P ++ (L ++ [U])).toArray)[j]?
  by_cases hj : j < 79
  · rw [h3 j hj, List.getElem?_toArray, List.getElem?_toArray, tcells]
    by_cases h4 : j < 4
    · rw [if_neg (by omega), List.getElem?_append_left (by omega), List.getElem?_append_left (by omega)]
    · by_cases h78 : j < 78
      · rw [if_pos (by omega), List.getElem?_append_right (by omega), hP, List.getElem?_append_left (by omega)]
      · obtain rfl : j = 78 := by omega
        rw [if_neg (by omega), List.getElem?_append_right (by omega), List.getElem?_append_right (by omega), List.getElem?_append_right (by omega), List.getElem?_append_right (by omega), hP, hl, hL]
  · rw [Array.getElem?_eq_none (xs := cur') (by omega), List.getElem?_toArray, List.getElem?_eq_none (by rw [List.length_append, List.length_append, hP, hL]; simp; omega)]
 rw [e] at h1
 exact ⟨h1, h4⟩
theorem zero_hashT : ∃ Z : Array Value, (∀ w, (zeroValue 27).run Tryz.prog w = .ok (.agg Z) w) ∧ Z.size = 32 ∧ ¬ Z = #[] := by
 have hs : (bcells (List.replicate 32 0)).toArray.size = 32 := by kernel_rfl
 exact ⟨(bcells (List.replicate 32 0)).toArray, fun w => by kernel_rfl, hs, fun e => (by rw [e] at hs; cases hs)⟩
theorem str_bytes (w : World) (s : ByteArray) : ∃ cap C, (convert 9 48 (.string s)).run Tryz.prog w = .ok (.slice (some ⟨w.heap.size, 0, none⟩) s.size cap) (w.drew.alloc (.cells C 5 (C.size, C.size + 1))) ∧
  Bytes (w.alloc (.cells C 5 (C.size, C.size + 1))) (w.alloc (.cells C 5 (C.size, C.size + 1))).heap.size (.slice (some ⟨w.heap.size, 0, none⟩) s.size cap) (sbytes s) := by
 refine ⟨grownCap w s.size 0 5, bytesRow s (grownCap w s.size 0 5), run_bytes_of_string w 9 48 5 s Tryz.underlying9 Tryz.underlying48 Tryz.underlying5, ?_⟩
 have hl : (sbytes s).length = s.size := by simp [sbytes]
 refine ⟨_, _, by rw [hl], by rw [hl]; exact grownCap_ge w s.size 0 _, sbytes_lt s, fun _ => ⟨w.heap.size, 0, rfl, by simp, fun i hi => ?_⟩⟩
 rw [hl] at hi
 have hi2 : i < s.data.size := hi
 unfold World.cell?
 have hb : (w.alloc (.cells (bytesRow s (grownCap w s.size 0 5)) 5 ((bytesRow s (grownCap w s.size 0 5)).size, (bytesRow s (grownCap w s.size 0 5)).size + 1))).heap[w.heap.size]? = some (.cells (bytesRow s (grownCap w s.size 0 5)) 5 ((bytesRow s (grownCap w s.size 0 5)).size, (bytesRow s (grownCap w s.size 0 5)).size + 1)) := heap_alloc_new w _
 show (match (w.alloc _).heap[w.heap.size]? with | some (.cells cs _ _) => _ | _ => none) = _
 rw [hb]
 show (bytesRow s _)[0 + i]? = _
 rw [Nat.zero_add, bytesRow_at s _ i hi2]
 have : (sbytes s).getD i 0 = s.data[i].toNat := by
  unfold sbytes
  rw [List.getD_eq_getElem?_getD, List.getElem?_map, Array.getElem?_toList, Array.getElem?_eq_getElem hi2]; rfl
 rw [this]
theorem parts_oneT (w : World) (v : Value) (p : List Nat) (h : Bytes w w.heap.size v p) : Parts (w.alloc (.cells #[v] 48)) (.slice (some ⟨w.heap.size, 0, none⟩) 1 1) [p] := by
 refine ⟨_, _, rfl, fun _ => ⟨w.heap.size, 0, rfl, fun i hi => ?_⟩⟩
 have hi0 : i = 0 := by simpa using hi
 subst hi0
 have hb : Below w.heap.size w (w.alloc (.cells #[v] 48)) := (Below.refl _ _).alloc (Nat.le_refl _) _
 exact ⟨v, (Has.new w _ _).cell_is rfl, h.alive hb hb.size⟩
theorem hcells_one (s : List Wd) (rest : List Nat) (at_ n : Int) : (hcells s rest at_ n).toArray.all (·.oneCell') = true := by
 rw [Array.all_eq_true']
 intro x hx
 have hx2 : x ∈ hcells s rest at_ n := by simpa using hx
 rcases List.mem_append.1 hx2 with h | h
 · obtain ⟨y, _, rfl⟩ := List.mem_map.1 h; rfl
 · rcases List.mem_append.1 h with h | h
   · obtain ⟨y, _, rfl⟩ := List.mem_map.1 h; rfl
   · rcases List.mem_cons.1 h with rfl | h
     · rfl
     · rcases List.mem_cons.1 h with rfl | h
       · rfl
       · cases h
theorem hash_by {w : World} {G g : Nat} {D : List Nat} (h : Has w G 27 (bcells D).toArray) (hD : IsHash D) (hne : G ≠ g) : Bytes w.drew g (.slice (some ⟨G, 0, none⟩) 32 32) D :=
 ⟨_, 32, by rw [hD.1], by rw [hD.1]; exact Nat.le_refl _, hD.2, fun _ => ⟨G, 0, rfl, hne, fun i hi => by
  rw [Nat.zero_add]
  exact h.drew.cell_is (by rw [List.getElem?_toArray]; exact bcells_get _ i hi)⟩⟩
theorem fill_head {K s0 : List Wd} {s : ByteArray} {w : World} {g : Nat} {LH : List Value} (hl : LH = hcells s0 (List.replicate 64 0) 0 0) (h : Has w g 178 (tagP s 0 1 ++ (LH ++ [Value.int .i64 0])).toArray) (h8 : s0.length = 8) : HshT (tagP s 0 1) (.int .i64 0) K s0 w g [] := by
 refine ⟨List.replicate 64 0, ⟨?_, h8, by simp, fun x hx => by rw [List.eq_of_mem_replicate hx]; decide, rfl⟩, rfl, by decide⟩
 rw [hl] at h
 exact h
set_option maxRecDepth 100000 in
set_option maxHeartbeats 4000000 in
theorem tagFill_is (K s0 : List Wd) (w : World) (hT : Tabs K s0 w) (g B1 : Nat) (s : ByteArray) (hs : s.size ≤ 1000000) (hlow : 2 + 1 ≤ g) (hh : Has w g 178 (tcells (tagP s 0 1) (.int .i64 0) (List.replicate 8 0) (List.replicate 64 0) 0 0).toArray) (hb : w.cell? ⟨B1, 0, none⟩ = some (.pointer (some ⟨g, 0, none⟩))) (hne : B1 ≠ g) :
  Calls Tryz.prog 80 #[.pointer (some ⟨B1, 0, none⟩)] w fun e w' => e = .returned (.tuple #[]) ∧ FillP K s0 w g s w' := by
 obtain ⟨zk, hzk, hzs, hzn⟩ := zero_hashT
 have hB1 := World.block_lt_of_cell? w _ hb
 obtain ⟨D, hD⟩ : ∃ D, D = digest K s0 (sbytes s) := ⟨_, rfl⟩
 have hDh : IsHash D := by rw [hD]; exact digest_hash K s0 hT.len _
 have hlb : (sbytes s).length = s.size := by simp [sbytes]
 have cn := hh.cell_is (i := 0) (v := .string s) rfl
 obtain ⟨cap, C, hcv, hby⟩ := str_bytes w s
 obtain ⟨O1, hO1⟩ : ∃ o, o = Obj.cells C 5 (C.size, C.size + 1) := ⟨_, rfl⟩
 obtain ⟨O2, hO2⟩ : ∃ o, o = Obj.cells #[.slice (some ⟨w.heap.size, 0, none⟩) s.size cap] 48 := ⟨_, rfl⟩
 have hpt := parts_oneT _ _ _ hby
 rw [← hO1, ← hO2, show (w.alloc O1).heap.size = w.heap.size + 1 by simp] at hpt
 have hal : Below w.heap.size w (w.alloc O1) := (Below.refl _ _).alloc (Nat.le_refl _) _
 have hal2 : Below w.heap.size w ((w.alloc O1).alloc O2).drew := (hal.alloc hal.size O2).drew
 have hsum := sum_is K s0 ((w.alloc O1).alloc O2).drew _ [sbytes s] (hT.below hal2 hT.low) hpt (by simp [hlb]; omega) (by show 1 ≤ 1000000000; decide)
 rw [show [sbytes s].flatten = sbytes s by simp, ← hD] at hsum
 rw [hO1, hO2] at hsum hal2
 have HSUM := Lib.hid hsum
 have HAL := Lib.hid hal2
 have HDH := Lib.hid hDh
 have HD := Lib.hid hD
 have HT := Lib.hid hT
 have HHH := Lib.hid hh
 have HB := Lib.hid hb
 have SZ := Lib.hid (show (Tryz.prog.info? 27).map (·.size) = some (bcells D).toArray.size by rw [List.size_toArray, bcells_length, hDh.1]; kernel_rfl)
 have SZ2 := Lib.hid (show zk.size = (bcells D).toArray.size by rw [hzs, List.size_toArray, bcells_length, hDh.1])
 have ONE := Lib.hid (show (bcells D).toArray.all (·.oneCell') = true by rw [Array.all_eq_true']; intro x hx; exact bcells_one D x (by simpa using hx))
 have hgl := hh.lt
 clear hby hal hal2 hsum hDh hD hT hh hlb hzs hpt hO1 hO2
 unfold arr at HSUM
 go_enter Tryz.func80, Tryz.ntmps80
 go_wp2_with fail
 refine HSUM.out.mono ?_
 rintro _ w1 ⟨rfl, hb1⟩
 have hnw : Has ((w1.alloc (.cells zk 27)).setRow w1.heap.size (bcells D).toArray) w1.heap.size 27 (bcells D).toArray ∧ Below w1.heap.size w1 ((w1.alloc (.cells zk 27)).setRow w1.heap.size (bcells D).toArray) := by
  rw [World.setRow_alloc_new]
  exact ⟨Has.new _ _ _, (Below.refl _ _).alloc (Nat.le_refl _) _⟩
 have hbx := (HAL.out.trans (hb1.mono HAL.out.size))
 have hbw := hbx.trans (hnw.2.mono hbx.size)
 have HBW := Lib.hid hbw
 have HNW := Lib.hid hnw.1
 have HGL := Lib.hid hbx.size
 clear hnw hb1 hbx hbw hcv cn hb HSUM HAL
 go_upto_region 1 with (refine wpList_store_row rfl 27 (.tmp 1) (.tmp 8) rfl w1.heap.size (bcells D).toArray rfl rfl 27 zk (heap_alloc_new w1 _) SZ.out SZ2.out ONE.out ?_)
 generalize (w1.alloc (.cells zk 27)).setRow w1.heap.size (bcells D).toArray = W1 at HBW HNW ⊢
 generalize w1.heap.size = G at HNW HGL ⊢
 have HT1 := Lib.hid (HT.out.below HBW.out HT.out.low)
 have HHT := Lib.hid (HHH.out.below HBW.out HHH.out.lt)
 obtain ⟨LH, hLH⟩ : ∃ l, l = hcells s0 (List.replicate 64 0) 0 0 := ⟨_, rfl⟩
 have HLH := Lib.hid hLH
 have HLN := Lib.hid (show LH.length = 74 by rw [hLH]; exact hcells_len _ _ _ _ HT1.out.len (by simp))
 have SZH := Lib.hid (show (Tryz.prog.info? 173).map (·.size) = some LH.length by rw [HLN.out]; kernel_rfl)
 have SZHA := Lib.hid (show (Tryz.prog.info? 173).map (·.size) = some LH.toArray.size by rw [List.size_toArray, HLN.out]; kernel_rfl)
 have ONEH := Lib.hid (show LH.toArray.all (·.oneCell') = true by rw [hLH]; exact hcells_one _ _ _ _)
 have TSZ := Lib.hid (show (tcells (tagP s 0 1) (.int .i64 0) (List.replicate 8 0) (List.replicate 64 0) 0 0).toArray.size = 79 by rw [List.size_toArray, tcells, List.length_append, List.length_append, hcells_len _ _ _ _ (by simp) (by simp)]; rfl)
 have hS0 : W1.drew.cell? ⟨B1, 0, none⟩ = some (.pointer (some ⟨g, 0, none⟩)) := cell_held (S := fun _ => False) (Kept.of_below HBW.out) HB.out (fun h => h)
 clear hLH
 refine wp_region_noPanic ?_
 refine wp_region_held_drew (S := (fun v => v.cell? ⟨B1, 0, none⟩ = some (.pointer (some ⟨g, 0, none⟩)))) (by kernel_rfl) hS0 (fun hH0 => ?_)
 refine tk 0 (v := ((.pointer (some ⟨g, 0, none⟩)))) rfl (Or.inl ⟨by kernel_rfl, by intro w' hS; go_simp⟩) hH0 ?_
 simp only [Act.put, qa]
 refine wpAnyH_ready (rs := [1]) (by kernel_rfl) (by simp) ?_
 refine AllReadyH.cons rfl (fun K hK => ?_) AllReadyH.nil
 go_simp
 refine (new_is _ s0 W1.drew (HT1.out.drew)).mono ?_
 rintro _ x1 ⟨rfl, hx1⟩
 rw [← HLH.out] at hx1
 have hal1 : Kept (fun _ => False) W1 x1 := by rw [hx1]; exact ((Kept.refl _ W1).drew).alloc _
 have hz1 : Has x1 W1.heap.size 173 LH.toArray := by rw [hx1]; exact Has.new W1.drew _ _
 have hs1 : x1.cell? ⟨B1, 0, none⟩ = some (.pointer (some ⟨g, 0, none⟩)) := cell_held hal1 hS0 (fun h => h)
 have HX1 := Lib.hid (HHT.out.kept hal1 (fun h => h))
 have HAL1 := Lib.hid hal1
 clear hx1 hal1
 refine Shut.out hK _ _ hs1 (fun hH1 => ?_)
 clear hK K
 try simp only [Act.put, qa]
 refine tk 2 (v := ((.pointer (some ⟨W1.heap.size, 0, none⟩)))) rfl (Or.inl ⟨by kernel_rfl, by intro w' hS; go_simp⟩) hH1 ?_
 simp only [Act.put, qa]
 refine wpAnyH_ready (rs := [3]) (by kernel_rfl) (by simp) ?_
 refine AllReadyH.cons rfl (fun K hK => ?_) AllReadyH.nil
 refine step_load_mid rfl 173 (.tmp 11) rfl W1.heap.size 0 rfl LH _ hz1.row0 Tryz.underlying173 rfl SZH.out ?_
 refine Shut.out hK _ _ hH1 (fun hH2 => ?_)
 clear hK K
 try simp only [Act.put, qa]
 refine tk 4 (v := ((.pointer (some ⟨g, 0, none⟩)))) rfl (Or.inl ⟨by kernel_rfl, by intro w' hS; go_simp⟩) hH2 ?_
 simp only [Act.put, qa]
 refine tk 5 (v := ((.pointer (some ⟨g, 4, none⟩)))) rfl (Or.inl ⟨by kernel_rfl, by intro w' hS; go_simp⟩) hH2 ?_
 simp only [Act.put, qa]
 refine wpAnyH_ready (rs := [6]) (by kernel_rfl) (by simp) ?_
 refine AllReadyH.cons rfl (fun K hK => ?_) AllReadyH.nil
 refine step_store_mid rfl 173 (.tmp 14) (.tmp 12) rfl g 4 LH.toArray rfl rfl (HX1.out.there 4 LH.toArray.size (by rw [TSZ.out, List.size_toArray, HLN.out]; decide)) SZHA.out ONEH.out ?_
 refine Shut.out hK _ _ (cell_held (tag_row (w' := x1) rfl _ _ _ _ g x1 LH HX1.out (by simp) (by simp) HLN.out).2 hs1 hne) (fun hH3 => ?_)
 clear hK K
 try simp only [Act.put, qa]
 refine wpAnyH_done (by kernel_rfl) ?_ _
 refine NoPanic.normal ?_
 have hrow := tag_row (w' := x1) rfl _ _ _ _ g x1 LH HX1.out (by simp) (by simp) HLN.out
 have HK2 := Lib.hid ((HAL1.out.mono (S' := (· = g)) (fun _ _ h => h.elim)).trans hrow.2)
 have HT2 := Lib.hid (fill_head (K := K) (s := s) HLH.out hrow.1 HT1.out.len)
 have HB2 := Lib.hid (cell_held hrow.2 hs1 hne)
 have HD2 := Lib.hid (HNW.out.kept HK2.out (by have := HGL.out; show ¬ _ = g; omega))
 clear hrow hz1 hs1 hS0
 generalize x1.setCells g 4 LH = W2 at HK2 HT2 HB2 HD2 ⊢
 have HT2T := Lib.hid (HT1.out.kept HK2.out (fun k e => by have e' : k = g := e; omega))
 have HBY2 := Lib.hid (hash_by HD2.out HDH.out (by have := HGL.out; show G ≠ g; omega))
 go_upto_region 2 with (fail)
 have hS0 : W2.drew.cell? ⟨B1, 0, none⟩ = some (.pointer (some ⟨g, 0, none⟩)) := HB2.out
 refine wp_region_noPanic ?_
 refine wp_region_held_drew (S := (fun v => v.cell? ⟨B1, 0, none⟩ = some (.pointer (some ⟨g, 0, none⟩)))) (by kernel_rfl) hS0 (fun hH0 => ?_)
 refine tk 0 (v := ((.pointer (some ⟨g, 0, none⟩)))) rfl (Or.inl ⟨by kernel_rfl, by intro w' hS; go_simp⟩) hH0 ?_
 simp only [Act.put, qa]
 refine tk 1 (v := ((.pointer (some ⟨g, 0, none⟩)))) rfl (Or.inl ⟨by kernel_rfl, by intro w' hS; go_simp⟩) hH0 ?_
 simp only [Act.put, qa]
 refine tk 2 (v := ((.pointer (some ⟨g, 4, none⟩)))) rfl (Or.inl ⟨by kernel_rfl, by intro w' hS; go_simp⟩) hH0 ?_
 simp only [Act.put, qa]
 refine tk 3 (v := ((.slice (some ⟨G, 0, none⟩) 32 32))) rfl (Or.inl ⟨by kernel_rfl, by intro w' hS; go_simp⟩) hH0 ?_
 simp only [Act.put, qa]
 refine wpAnyH_ready (rs := [4]) (by kernel_rfl) (by simp) ?_
 refine AllReadyH.cons rfl (fun K hK => ?_) AllReadyH.nil
 go_simp
 refine (writeT_is (tagP s 0 1) (.int .i64 0) _ s0 W2.drew g [] _ D (HT2T.out.drew) HT2.out hlow HBY2.out (by rw [HDH.out.1]; decide)).mono ?_
 rintro _ W3 ⟨rfl, hw4, hk4⟩
 have hs4 : W3.cell? ⟨B1, 0, none⟩ = some (.pointer (some ⟨g, 0, none⟩)) := cell_held hk4 hS0 hne
 refine Shut.out hK _ _ hs4 (fun hH1 => ?_)
 clear hK K
 try simp only [Act.put, qa]
 refine wpAnyH_done (by kernel_rfl) ?_ _
 refine NoPanic.normal ?_
 rw [List.nil_append] at hw4
 have HT3 := Lib.hid hw4
 have HK3 := Lib.hid (HK2.out.trans hk4.undrew)
 have HB3 := Lib.hid hs4
 have HD3 := Lib.hid (HD2.out.kept hk4.undrew (by have := HGL.out; show ¬ _ = g; omega))
 clear hs4 hw4 hk4 hS0
 have HT3T := Lib.hid (HT1.out.kept HK3.out (fun k e => by have e' : k = g := e; omega))
 have HBY3 := Lib.hid (hash_by HD3.out HDH.out (by have := HGL.out; show G ≠ g; omega))
 go_upto_region 3 with (fail)
 have hS0 : W3.drew.cell? ⟨B1, 0, none⟩ = some (.pointer (some ⟨g, 0, none⟩)) := HB3.out
 refine wp_region_noPanic ?_
 refine wp_region_held_drew (S := (fun v => v.cell? ⟨B1, 0, none⟩ = some (.pointer (some ⟨g, 0, none⟩)))) (by kernel_rfl) hS0 (fun hH0 => ?_)
 refine tk 0 (v := ((.pointer (some ⟨g, 0, none⟩)))) rfl (Or.inl ⟨by kernel_rfl, by intro w' hS; go_simp⟩) hH0 ?_
 simp only [Act.put, qa]
 refine tk 1 (v := ((.pointer (some ⟨g, 0, none⟩)))) rfl (Or.inl ⟨by kernel_rfl, by intro w' hS; go_simp⟩) hH0 ?_
 simp only [Act.put, qa]
 refine tk 2 (v := ((.pointer (some ⟨g, 4, none⟩)))) rfl (Or.inl ⟨by kernel_rfl, by intro w' hS; go_simp⟩) hH0 ?_
 simp only [Act.put, qa]
 refine tk 3 (v := ((.slice (some ⟨G, 0, none⟩) 32 32))) rfl (Or.inl ⟨by kernel_rfl, by intro w' hS; go_simp⟩) hH0 ?_
 simp only [Act.put, qa]
 refine wpAnyH_ready (rs := [4]) (by kernel_rfl) (by simp) ?_
 refine AllReadyH.cons rfl (fun K hK => ?_) AllReadyH.nil
 go_simp
 refine (writeT_is (tagP s 0 1) (.int .i64 0) _ s0 W3.drew g D _ D (HT3T.out.drew) HT3.out hlow HBY3.out (by rw [HDH.out.1]; decide)).mono ?_
 rintro _ x4 ⟨rfl, hw4, hk4⟩
 have hs4 : x4.cell? ⟨B1, 0, none⟩ = some (.pointer (some ⟨g, 0, none⟩)) := cell_held hk4 hS0 hne
 refine Shut.out hK _ _ hs4 (fun hH1 => ?_)
 clear hK K
 try simp only [Act.put, qa]
 refine wpAnyH_done (by kernel_rfl) ?_ _
 refine NoPanic.normal ?_
 have HFIN := Lib.hid (show FillP K s0 w g s x4 from ⟨by rw [← HD.out]; exact hw4, (Kept.of_below HBW.out).trans (HK3.out.trans hk4.undrew)⟩)
 clear hs4 hw4 hk4 hS0
 go_wp2_with fail
 go_end0
 exact ⟨rfl, HFIN.out⟩
end Go.Proofs.YtknfbccbdiidjaaGreatDoor

