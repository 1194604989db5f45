/- The walks of token's New and Owner. -/
import Derived.Test.YtniakgoefkbkhaaDoorWs
import Derived.Test.YtniakgoefkbkhaaDoorVLb3
namespace Go.Proofs.YtniakgoefkbkhaaDoor
set_option linter.unusedVariables false
set_option linter.unusedSimpArgs false
open Go.ChangeShapes Go.WideShapes Go.ChangeAt Go.RowKit Go.Maps

def offC (mb : Nat) (n : Int) : List Value := [.map (some mb), .int .i64 n]
theorem build_off (mb : Nat) (w : World) : (Instr.build 133 #[(0, .map (some mb))]).run Tryd.prog w = .ok (.agg (offC mb 0).toArray) w := by kernel_rfl
structure OffAt (w : World) (g mb : Nat) (l : List Ent) (n : Int) : Prop where
 row : Has w g 133 (offC mb n).toArray
 map : MapIs w mb l
theorem OffAt.below {w w' : World} {g mb : Nat} {l : List Ent} {n : Int} (h : OffAt w g mb l n) (hb : Below w.heap.size w w') : OffAt w' g mb l n :=
 ⟨h.row.below hb h.row.lt, h.map.kept (Kept.of_below (S := fun _ => False) hb) (fun h => h)⟩
set_option maxRecDepth 100000 in
set_option maxHeartbeats 4000000 in
theorem tkNew_is (w : World) : Calls Tryd.prog 26 #[] w fun e w' => ∃ g mb, e = .returned (.pointer (some ⟨g, 0, none⟩)) ∧ OffAt w' g mb [] 0 ∧ w.heap.size ≤ g ∧ w.heap.size ≤ mb ∧ Below w.heap.size w w' := by
 have hb := build_off w.heap.size
 have HF := Lib.hid (show OffAt ((w.alloc (.map #[] 0)).alloc (.cells (offC w.heap.size 0).toArray 133)) (w.heap.size + 1) w.heap.size [] 0 ∧ Below w.heap.size w ((w.alloc (.map #[] 0)).alloc (.cells (offC w.heap.size 0).toArray 133)) from by
  refine ⟨⟨?_, (MapIs.new w).kept (Kept.of_below (S := fun _ => False) ((Below.refl _ _).alloc (Nat.le_refl _) _)) (fun h => h)⟩, ((Below.refl _ _).alloc (Nat.le_refl _) _).alloc (by simp) _⟩
  have := Has.new (w.alloc (.map #[] 0)) 133 (offC w.heap.size 0).toArray
  simpa using this)
 obtain ⟨LC, hLC⟩ : ∃ L, L = offC w.heap.size 0 := ⟨_, rfl⟩
 rw [← hLC] at hb HF
 have ELC := Lib.hid hLC
 clear hLC
 have hmm := @run_makeMap Tryd.prog
 go_enter Tryd.func26, Tryd.ntmps26
 go_wp2_with (refine wpList_build_run (by kernel_rfl) 133 _ rfl #[(0, .map (some w.heap.size))] (by kernel_rfl) (.agg LC.toArray) (hb _) ?_)
 go_ret
 exact ⟨_, _, rfl, HF.out.1, by omega, by omega, HF.out.2⟩
def ownS : ByteArray := { data := #[109, 111, 110, 101, 121, 101, 114, 47, 111, 119, 110, 101, 114] }
def ownerK (K s0 : List Wd) (s : List Nat) : List Nat := tagD K s0 ownS s
theorem boxes_hash (w : World) (LC : List Value) (Z : Array Value) : ∃ W1, W1 = (((w.alloc (.cells LC.toArray 39))).alloc (.cells Z 39)) ∧
  Has W1 (w.heap.size) 39 LC.toArray ∧ Has W1 (w.heap.size + 1) 39 Z ∧ Below w.heap.size w W1 := by
 refine ⟨_, rfl, (Has.new w _ _).alloc _, ?_, ((Below.refl _ _).alloc (Nat.le_refl _) _).alloc (by simp) _⟩
 have := Has.new (w.alloc (.cells LC.toArray 39)) 39 Z
 simpa using this
theorem hash_bytes {w : World} {B : Nat} {s : List Nat} (hs : IsHash s) (h : Has w B 39 (bcells s).toArray) (g : Nat) (hg : B ≠ g) : Bytes w g (.slice (some ⟨B, 0, none⟩) 32 32) s :=
 ⟨_, _, by rw [hs.1], by rw [hs.1]; exact Nat.le_refl _, hs.2, fun _ => ⟨B, 0, rfl, hg, fun i hi => h.cell_is (by rw [List.getElem?_toArray, Nat.zero_add]; exact bcells_get _ i hi)⟩⟩
set_option maxRecDepth 100000 in
set_option maxHeartbeats 4000000 in
theorem tkOwner_is (K s0 : List Wd) (w : World) (hT : Tabs K s0 w) (s : List Nat) (hs : IsHash s) : Calls Tryd.prog 54 #[arr s] w fun e w' => e = .returned (arr (ownerK K s0 s)) ∧ Below w.heap.size w w' := by
 obtain ⟨zk, hzk, hzs, hzn⟩ := zero_hashT
 obtain ⟨LC, hLC⟩ : ∃ L, L = bcells s := ⟨_, rfl⟩
 obtain ⟨D, hD⟩ : ∃ D, D = ownerK K s0 s := ⟨_, rfl⟩
 have hph : IsHash D := by rw [hD]; exact tagD_hash K s0 hT.len _ _
 unfold arr
 rw [← hLC, ← hD]
 have hlow := hT.low
 have HT := Lib.hid hT
 have HLC := Lib.hid hLC
 have HD := Lib.hid hD
 have SZ := Lib.hid (show (Tryd.prog.info? 39).map (·.size) = some (bcells D).toArray.size by rw [List.size_toArray, bcells_length, hph.1]; kernel_rfl)
 have SZ2 := Lib.hid (show zk.size = (bcells D).length by rw [hzs, bcells_length, hph.1])
 have HS := Lib.hid hs
 clear hT hLC hD hph hzs hs
 go_enter Tryd.func54, Tryd.ntmps54
 go_upto_region 1 with (fail)
 obtain ⟨W1, hW1, h1, h2, hb1⟩ := boxes_hash w LC zk
 rw [← hW1]
 clear hW1
 obtain ⟨B, hB⟩ : ∃ b, b = w.heap.size := ⟨_, rfl⟩
 rw [← hB] at h1 h2 hb1 hlow ⊢
 have hBS : B + 1 < W1.heap.size := h2.lt
 have HBQ := Lib.hid hB
 clear hB
 have HTB := Lib.hid (show ∀ v : World, Below B w v → Tabs K s0 v from fun v hv => by
   have hl2 := hlow
   rw [HBQ.out] at hv hl2
   exact HT.out.below hv hl2)
 have HBY := Lib.hid (show ∀ (v : World) (g : Nat), B < g → Has v B 39 LC.toArray → Bytes v g (.slice (some ⟨B, 0, none⟩) 32 32) s from fun v g hg hv => hash_bytes HS.out (by rw [← HLC.out]; exact hv) g (by omega))
 have hS0 : Has W1.drew B 39 LC.toArray ∧ Below B w W1.drew := ⟨h1, below_drew hb1⟩
 have hz : Has W1.drew (B + 1) 39 zk := h2
 have hBW : B + 1 < W1.drew.heap.size := hBS
 clear hb1 h1 h2 hBS
 have HDQ := Lib.hid (show tagD K s0 ownS [s].flatten = D by rw [HD.out]; unfold ownerK; simp)
 have HLN := Lib.hid (show [s].flatten.length ≤ 100000000 by simp [HS.out.1])
 refine wp_region_noPanic ?_
 refine wp_region_held_drew (S := (fun v => Has v B 39 LC.toArray ∧ Below B w v)) (by kernel_rfl) hS0 (fun hH0 => ?_)
 apply tk 1 (v := _) rfl (Or.inl ⟨by kernel_rfl, ?hv⟩) hH0 ?_
 case hv => intro w' hS; go_simp; try exact rfl
 simp only [Act.put, qa]
 refine wpAnyH_ready (rs := [0, 2]) (by kernel_rfl) (by simp) ?_
 refine AllReadyH.cons rfl (fun KK hKK => ?_) (AllReadyH.cons rfl (fun KK hKK => ?_) AllReadyH.nil)
 · go_simp
   refine (newTag_is ownS _).mono ?_
   rintro _ x0 ⟨rfl, hx0⟩
   have hnx0 : Below W1.drew.heap.size W1.drew x0 := by rw [hx0]; exact (Below.refl _ _).alloc (Nat.le_refl _) _
   have hg : Has x0 W1.drew.heap.size 188 (tag0 ownS).toArray := by rw [hx0]; exact Has.new _ _ _
   have hgb : B + 1 < W1.drew.heap.size := hBW
   obtain ⟨G, hG⟩ : ∃ g, g = W1.drew.heap.size := ⟨_, rfl⟩
   first | rw [← hG] | (have hG2 : W1.heap.size = G := hG.symm; rw [hG2]) | skip
   rw [← hG] at hg
   rw [← hG] at hgb
   clear hG
   have hsx0 : Has x0 B 39 LC.toArray ∧ Below B w x0 := ⟨hH0.1.below hnx0 hH0.1.lt, hH0.2.trans (hnx0.mono (Nat.le_of_lt (Nat.lt_of_succ_lt hBW)))⟩
   try replace hz := hz.below hnx0 hz.lt
   try replace hp := hp.below hnx0 hp.lt
   replace hBW : B + 1 < x0.heap.size := Nat.lt_of_lt_of_le hBW hnx0.size
   clear hx0
   refine Shut.out hKK _ _ hsx0 (fun hH1 => ?_)
   clear hKK KK
   try simp only [Act.put, qa]
   refine wpAnyH_ready (rs := [2]) (by kernel_rfl) (by simp) ?_
   refine AllReadyH.cons rfl (fun KK hKK => ?_) AllReadyH.nil
   refine step_buildN rfl 159 111 1 _ rfl _ 1 24 Tryd.underlying159 info_slice [.tmp 4] rfl [.slice (some ⟨B, 0, none⟩) 32 32] rfl (by simp [Value.cells]) rfl rfl (by decide) (by decide) (by decide) ?_
   try rw [show [Value.slice (some ⟨B, 0, none⟩) 32 32].flatMap (fun v => v.cells.toList) = [.slice (some ⟨B, 0, none⟩) 32 32] from rfl]
   obtain ⟨x2, hx2⟩ : ∃ y, y = x0.alloc (.cells #[.slice (some ⟨B, 0, none⟩) 32 32] 111) := ⟨_, rfl⟩
   first | rw [← hx2] | (change KK _ (x0.alloc (.cells #[.slice (some ⟨B, 0, none⟩) 32 32] 111)); rw [← hx2])
   have hnx2 : Below x0.heap.size x0 x2 := by rw [hx2]; exact (Below.refl _ _).alloc (Nat.le_refl _) _
   have hp : Has x2 x0.heap.size 111 #[.slice (some ⟨B, 0, none⟩) 32 32] := by rw [hx2]; exact Has.new _ _ _
   have hpb : B + 1 < x0.heap.size := hBW
   obtain ⟨R, hR⟩ : ∃ g, g = x0.heap.size := ⟨_, rfl⟩
   first | rw [← hR] | (have hR2 : W1.heap.size = R := hR.symm; rw [hR2]) | skip
   rw [← hR] at hp
   rw [← hR] at hpb
   clear hR
   have hsx2 : Has x2 B 39 LC.toArray ∧ Below B w x2 := ⟨hH1.1.below hnx2 hH1.1.lt, hH1.2.trans (hnx2.mono (Nat.le_of_lt (Nat.lt_of_succ_lt hBW)))⟩
   try replace hz := hz.below hnx2 hz.lt
   try replace hg := hg.below hnx2 hg.lt
   replace hBW : B + 1 < x2.heap.size := Nat.lt_of_lt_of_le hBW hnx2.size
   clear hx2
   refine Shut.out hKK _ _ hsx2 (fun hH2 => ?_)
   clear hKK KK
   try simp only [Act.put, qa]
   refine wpAnyH_ready (rs := [3]) (by kernel_rfl) (by simp) ?_
   refine AllReadyH.cons rfl (fun KK hKK => ?_) AllReadyH.nil
   go_simp
   have hp2 := hp.ne hg (by decide)
   have hby := HBY.out _ G (Nat.lt_of_succ_lt hgb) hH2.1
   have hsum := tagSum_is K s0 _ (HTB.out _ hH2.2) G ownS (by decide) (by omega) hg _ [s] (partsN_one (w := w) (hp.cell_is rfl) hby hp2) HLN.out (by simp)
   rw [HDQ.out] at hsum
   unfold arr at hsum
   refine hsum.mono ?_
   rintro _ xa ⟨rfl, hka⟩
   have hsxa : Has xa B 39 LC.toArray ∧ Below B w xa := ⟨hH2.1.kept hka (by omega), hH2.2.trans (hka.below (Nat.le_of_lt (Nat.lt_of_succ_lt hBW)) (fun j e => by have e' : j = G := e; omega))⟩
   replace hz := hz.kept hka (by omega)
   replace hBW : B + 1 < xa.heap.size := Nat.lt_of_lt_of_le hBW hka.size
   clear hsum hby hka
   refine Shut.out hKK _ _ hsxa (fun hH3 => ?_)
   clear hKK KK
   try simp only [Act.put, qa]
   refine wpAnyH_ready (rs := [4]) (by kernel_rfl) (by simp) ?_
   refine AllReadyH.cons rfl (fun KK hKK => ?_) AllReadyH.nil
   refine step_store_mid rfl 39 (.tmp 2) (.tmp 6) rfl (B + 1) 0 (bcells D).toArray rfl rfl (hz.there 0 _ (by rw [List.size_toArray, SZ2.out]; exact Nat.le_of_eq (Nat.zero_add _))) SZ.out (all_oneCell_toArray (bcells_one D)) ?_
   have hset := set_box hH3.2 hz (Nat.le_succ B) (Nat.le_of_lt (Nat.lt_of_succ_lt hBW)) SZ2.out
   obtain ⟨xb, hxb⟩ : ∃ y, y = xa.setCells (B + 1) 0 (bcells D) := ⟨_, rfl⟩
   rw [← hxb] at hset
   change KK _ (xa.setCells (B + 1) 0 (bcells D))
   rw [← hxb]
   have hsxb : Has xb B 39 LC.toArray ∧ Below B w xb := ⟨hH3.1.kept hset.2.2 (by omega), hset.1⟩
   clear hxb
   refine Shut.out hKK _ _ hsxb (fun hH4 => ?_)
   clear hKK KK
   try simp only [Act.put, qa]
   refine wpAnyH_done (by kernel_rfl) ?_ _
   refine NoPanic.normal ?_
   have HF := Lib.hid hset.2.1
   have HBF := Lib.hid hset.1
   clear hset hsxb
   go_wp2_with fail
   refine bodyPost_ret (results_cell_row rfl _ _ (B + 1) 39 (bcells D).toArray (0, 0) _ rfl HF.out Tryd.underlying39 rfl SZ.out) rfl ?_
   exact ⟨rfl, by have := HBF.out; rwa [HBQ.out] at this⟩
 · refine step_buildN rfl 159 111 1 _ rfl _ 1 24 Tryd.underlying159 info_slice [.tmp 4] rfl [.slice (some ⟨B, 0, none⟩) 32 32] rfl (by simp [Value.cells]) rfl rfl (by decide) (by decide) (by decide) ?_
   try rw [show [Value.slice (some ⟨B, 0, none⟩) 32 32].flatMap (fun v => v.cells.toList) = [.slice (some ⟨B, 0, none⟩) 32 32] from rfl]
   obtain ⟨x2, hx2⟩ : ∃ y, y = W1.drew.alloc (.cells #[.slice (some ⟨B, 0, none⟩) 32 32] 111) := ⟨_, rfl⟩
   first | rw [← hx2] | (change KK _ (W1.drew.alloc (.cells #[.slice (some ⟨B, 0, none⟩) 32 32] 111)); rw [← hx2])
   have hnx2 : Below W1.drew.heap.size W1.drew x2 := by rw [hx2]; exact (Below.refl _ _).alloc (Nat.le_refl _) _
   have hp : Has x2 W1.drew.heap.size 111 #[.slice (some ⟨B, 0, none⟩) 32 32] := by rw [hx2]; exact Has.new _ _ _
   have hpb : B + 1 < W1.drew.heap.size := hBW
   obtain ⟨R, hR⟩ : ∃ g, g = W1.drew.heap.size := ⟨_, rfl⟩
   first | rw [← hR] | (have hR2 : W1.heap.size = R := hR.symm; rw [hR2]) | skip
   rw [← hR] at hp
   rw [← hR] at hpb
   clear hR
   have hsx2 : Has x2 B 39 LC.toArray ∧ Below B w x2 := ⟨hH0.1.below hnx2 hH0.1.lt, hH0.2.trans (hnx2.mono (Nat.le_of_lt (Nat.lt_of_succ_lt hBW)))⟩
   try replace hz := hz.below hnx2 hz.lt
   try replace hg := hg.below hnx2 hg.lt
   replace hBW : B + 1 < x2.heap.size := Nat.lt_of_lt_of_le hBW hnx2.size
   clear hx2
   refine Shut.out hKK _ _ hsx2 (fun hH1 => ?_)
   clear hKK KK
   try simp only [Act.put, qa]
   refine wpAnyH_ready (rs := [0]) (by kernel_rfl) (by simp) ?_
   refine AllReadyH.cons rfl (fun KK hKK => ?_) AllReadyH.nil
   go_simp
   refine (newTag_is ownS _).mono ?_
   rintro _ x0 ⟨rfl, hx0⟩
   have hnx0 : Below x2.heap.size x2 x0 := by rw [hx0]; exact (Below.refl _ _).alloc (Nat.le_refl _) _
   have hg : Has x0 x2.heap.size 188 (tag0 ownS).toArray := by rw [hx0]; exact Has.new _ _ _
   have hgb : B + 1 < x2.heap.size := hBW
   obtain ⟨G, hG⟩ : ∃ g, g = x2.heap.size := ⟨_, rfl⟩
   first | rw [← hG] | (have hG2 : W1.heap.size = G := hG.symm; rw [hG2]) | skip
   rw [← hG] at hg
   rw [← hG] at hgb
   clear hG
   have hsx0 : Has x0 B 39 LC.toArray ∧ Below B w x0 := ⟨hH1.1.below hnx0 hH1.1.lt, hH1.2.trans (hnx0.mono (Nat.le_of_lt (Nat.lt_of_succ_lt hBW)))⟩
   try replace hz := hz.below hnx0 hz.lt
   try replace hp := hp.below hnx0 hp.lt
   replace hBW : B + 1 < x0.heap.size := Nat.lt_of_lt_of_le hBW hnx0.size
   clear hx0
   refine Shut.out hKK _ _ hsx0 (fun hH2 => ?_)
   clear hKK KK
   try simp only [Act.put, qa]
   refine wpAnyH_ready (rs := [3]) (by kernel_rfl) (by simp) ?_
   refine AllReadyH.cons rfl (fun KK hKK => ?_) AllReadyH.nil
   go_simp
   have hp2 := hp.ne hg (by decide)
   have hby := HBY.out _ G (Nat.lt_of_succ_lt hgb) hH2.1
   have hsum := tagSum_is K s0 _ (HTB.out _ hH2.2) G ownS (by decide) (by omega) hg _ [s] (partsN_one (w := w) (hp.cell_is rfl) hby hp2) HLN.out (by simp)
   rw [HDQ.out] at hsum
   unfold arr at hsum
   refine hsum.mono ?_
   rintro _ xa ⟨rfl, hka⟩
   have hsxa : Has xa B 39 LC.toArray ∧ Below B w xa := ⟨hH2.1.kept hka (by omega), hH2.2.trans (hka.below (Nat.le_of_lt (Nat.lt_of_succ_lt hBW)) (fun j e => by have e' : j = G := e; omega))⟩
   replace hz := hz.kept hka (by omega)
   replace hBW : B + 1 < xa.heap.size := Nat.lt_of_lt_of_le hBW hka.size
   clear hsum hby hka
   refine Shut.out hKK _ _ hsxa (fun hH3 => ?_)
   clear hKK KK
   try simp only [Act.put, qa]
   refine wpAnyH_ready (rs := [4]) (by kernel_rfl) (by simp) ?_
   refine AllReadyH.cons rfl (fun KK hKK => ?_) AllReadyH.nil
   refine step_store_mid rfl 39 (.tmp 2) (.tmp 6) rfl (B + 1) 0 (bcells D).toArray rfl rfl (hz.there 0 _ (by rw [List.size_toArray, SZ2.out]; exact Nat.le_of_eq (Nat.zero_add _))) SZ.out (all_oneCell_toArray (bcells_one D)) ?_
   have hset := set_box hH3.2 hz (Nat.le_succ B) (Nat.le_of_lt (Nat.lt_of_succ_lt hBW)) SZ2.out
   obtain ⟨xb, hxb⟩ : ∃ y, y = xa.setCells (B + 1) 0 (bcells D) := ⟨_, rfl⟩
   rw [← hxb] at hset
   change KK _ (xa.setCells (B + 1) 0 (bcells D))
   rw [← hxb]
   have hsxb : Has xb B 39 LC.toArray ∧ Below B w xb := ⟨hH3.1.kept hset.2.2 (by omega), hset.1⟩
   clear hxb
   refine Shut.out hKK _ _ hsxb (fun hH4 => ?_)
   clear hKK KK
   try simp only [Act.put, qa]
   refine wpAnyH_done (by kernel_rfl) ?_ _
   refine NoPanic.normal ?_
   have HF := Lib.hid hset.2.1
   have HBF := Lib.hid hset.1
   clear hset hsxb
   go_wp2_with fail
   refine bodyPost_ret (results_cell_row rfl _ _ (B + 1) 39 (bcells D).toArray (0, 0) _ rfl HF.out Tryd.underlying39 rfl SZ.out) rfl ?_
   exact ⟨rfl, by have := HBF.out; rwa [HBQ.out] at this⟩
end Go.Proofs.YtniakgoefkbkhaaDoor

