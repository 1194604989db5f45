/- The walks of commit's New, high and anchor. -/
import Derived.Test.YtknfbccbdiidjaaGreatDoorWs
import Derived.Test.YtknfbccbdiidjaaGreatDoorRFh
import Derived.Test.YtknfbccbdiidjaaGreatDoorRLb1
import Derived.Test.YtknfbccbdiidjaaGreatDoorRCo0
namespace Go.Proofs.YtknfbccbdiidjaaGreatDoor
set_option linter.unusedVariables false
set_option linter.unusedSimpArgs false
open Go.ChangeShapes Go.WideShapes Go.ChangeAt Go.RowKit Go.Maps

theorem anchorK_hash (K s0 : List Wd) (hs : s0.length = 8) (n : Nd) : IsHash (anchorK K s0 n) := tagD_hash K s0 hs _ _
theorem nd_sum_at {n : Nd} (h : IsHash n.h) : (ndV n)[32]? = some (.int .u64 (n.s : Int)) := by
 unfold ndV ncells
 rw [List.getElem?_append_right (by rw [bcells_length, h.1]; exact Nat.le_refl _), bcells_length, h.1]
 rfl
theorem nd_bytes {v : World} {B g : Nat} {n : Nd} (hn : IsHash n.h) (h : Has v B 30 (ndV n).toArray) (hg : B ≠ g) : Bytes v g (.slice (some ⟨B, 0, none⟩) 32 32) n.h :=
 ⟨_, _, by rw [hn.1], by rw [hn.1]; exact Nat.le_refl _, hn.2, fun _ => ⟨B, 0, rfl, hg, fun i hi => by
  rw [Nat.zero_add]
  refine h.cell_is ?_
  rw [List.getElem?_toArray]
  unfold ndV ncells
  rw [List.getElem?_append_left (by rw [bcells_length]; exact hi)]
  exact bcells_get _ i hi⟩⟩
theorem zero_leafA : ∃ Z : Array Value, (∀ w, (zeroValue 50).run Tryz.prog w = .ok (.agg Z) w) ∧ Z.size = 2 ∧ ¬ Z = #[] := ⟨#[.slice none 0 0, .int .u64 0], fun w => by kernel_rfl, rfl, by decide⟩
theorem build_leaf2 (B s : Nat) (w : World) : (Instr.build 50 #[(0, .slice (some ⟨B, 0, none⟩) 32 32), (1, .int .u64 (s : Int))]).run Tryz.prog w = .ok (.agg #[.slice (some ⟨B, 0, none⟩) 32 32, .int .u64 (s : Int)]) w := by kernel_rfl
theorem partsN_2 {w : World} {g pg : Nat} {v0 v1 : Value} {p0 p1 : List Nat} (h : Has w pg 48 #[v0, v1]) (h0 : Bytes w g v0 p0) (h1 : Bytes w g v1 p1) (hne : pg ≠ g) : PartsN w g (.slice (some ⟨pg, 0, none⟩) 2 2) [p0, p1] :=
 ⟨_, _, rfl, fun _ => ⟨pg, 0, rfl, hne, fun i hi => by
  match i, hi with
  | 0, _ => exact ⟨v0, h.cell_is rfl, h0⟩
  | 1, _ => exact ⟨v1, h.cell_is rfl, h1⟩⟩⟩
theorem eight_bytes {v : World} {B g : Nat} {x : Nat} (h : Has v B 165 (bcells (eight x)).toArray) (hg : B ≠ g) : Bytes v g (.slice (some ⟨B, 0, none⟩) 8 8) (eight x) :=
 ⟨_, _, by rw [eight_length], by rw [eight_length]; exact Nat.le_refl _, eight_lt' x, fun _ => ⟨B, 0, rfl, hg, fun i hi => by
  rw [Nat.zero_add]
  refine h.cell_is ?_
  rw [List.getElem?_toArray]
  exact bcells_get _ i hi⟩⟩
theorem boxes_high (w : World) (LN : List Value) (Z : Array Value) : ∃ W1, W1 = (((w.alloc (.cells LN.toArray 30))).alloc (.cells Z 50)) ∧
   Has W1 (w.heap.size) 30 LN.toArray ∧ Has W1 (w.heap.size + 1) 50 Z ∧ Below w.heap.size w W1 := by
 refine ⟨_, rfl, ?_, ?_, ?_⟩
 · have := Has.new w 30 LN.toArray
   exact (this).alloc _
 · have := Has.new (w.alloc (.cells LN.toArray 30)) 50 Z
   exact (by simpa using this : Has _ (w.heap.size + 1) _ _)
 · exact ((Below.refl _ _).alloc (Nat.le_refl _) _).alloc (by simp) _

theorem boxes_anchor (w : World) (LN : List Value) (Z Y : Array Value) : ∃ W1, W1 = (((((w.alloc (.cells LN.toArray 30))).alloc (.cells Z 27))).alloc (.cells Y 165)) ∧
   Has W1 (w.heap.size) 30 LN.toArray ∧ Has W1 (w.heap.size + 1) 27 Z ∧ Has W1 (w.heap.size + 1 + 1) 165 Y ∧ Below w.heap.size w W1 := by
 refine ⟨_, rfl, ?_, ?_, ?_, ?_⟩
 · have := Has.new w 30 LN.toArray
   exact ((this).alloc _).alloc _
 · have := Has.new (w.alloc (.cells LN.toArray 30)) 27 Z
   exact ((by simpa using this : Has _ (w.heap.size + 1) _ _)).alloc _
 · have := Has.new (((w.alloc (.cells LN.toArray 30))).alloc (.cells Z 27)) 165 Y
   exact (by simpa using this : Has _ (w.heap.size + 1 + 1) _ _)
 · exact (((Below.refl _ _).alloc (Nat.le_refl _) _).alloc (by simp) _).alloc (by simp; omega) _
set_option maxRecDepth 100000 in
set_option maxHeartbeats 4000000 in
theorem coHigh_is (w : World) (n : Nd) (hn : IsHash n.h) (hs : n.s < 18446744073709551616) : Calls Tryz.prog 47 #[.agg (ndV n).toArray] w fun e w' => ∃ v', e = .returned (leafV v' n.s) ∧ Bytes w' w'.heap.size v' n.h ∧ Below w.heap.size w w' := by
 obtain ⟨ZL, hzl, hzls, hzln⟩ := zero_leafA
 obtain ⟨LN, hLN⟩ : ∃ L, L = ndV n := ⟨_, rfl⟩
 obtain ⟨s, hse⟩ : ∃ x, x = n.s := ⟨_, rfl⟩
 rw [← hLN, ← hse]
 have ELN := Lib.hid hLN
 have ES := Lib.hid hse
 have HN := Lib.hid hn
 clear hLN hse hn hs
 go_enter Tryz.func47, Tryz.ntmps47
 go_upto_region 1 with (fail)
 obtain ⟨W1, hW1, h1, h2, hb1⟩ := boxes_high w LN ZL
 rw [← hW1]
 clear hW1
 obtain ⟨B, hB⟩ : ∃ b, b = w.heap.size := ⟨_, rfl⟩
 rw [← hB] at h1 h2 hb1 ⊢
 have HBQ := Lib.hid hB
 have hBS : B + 1 < W1.heap.size := h2.lt
 clear hB
 have HC := Lib.hid (show ∀ v : World, Has v B 30 LN.toArray → v.cell? ⟨B, 32, none⟩ = some (.int .u64 (s : Int)) from fun v hv => hv.cell_is (by rw [List.getElem?_toArray, ELN.out, ES.out]; exact nd_sum_at HN.out))
 have hS0 : Has W1.drew B 30 LN.toArray ∧ Below B w W1.drew := ⟨h1, below_drew hb1⟩
 have hz : Has W1.drew (B + 1) 50 ZL := h2
 have hBW : B + 1 < W1.drew.heap.size := hBS
 clear hb1 h1 h2 hBS
 have SZ := Lib.hid (show (Tryz.prog.info? 50).map (·.size) = some 2 by kernel_rfl)
 refine wp_region_noPanic ?_
 refine wp_region_held_drew (S := (fun v => Has v B 30 LN.toArray ∧ Below B w v)) (by kernel_rfl) hS0 (fun hH0 => ?_)
 apply tk 0 (v := _) rfl (Or.inl ⟨by kernel_rfl, ?hv⟩) hH0 ?_
 case hv => intro w' hS; have z0 := HC.out w' hS.1; go_simp; try exact rfl
 simp only [Act.put, qa]
 apply tk 1 (v := _) rfl (Or.inl ⟨by kernel_rfl, ?hv⟩) hH0 ?_
 case hv => intro w' hS; have z0 := HC.out w' hS.1; go_simp; try exact rfl
 simp only [Act.put, qa]
 apply tk 2 (v := _) rfl (Or.inl ⟨by kernel_rfl, ?hv⟩) hH0 ?_
 case hv => intro w' hS; have z0 := HC.out w' hS.1; go_simp; try exact rfl
 simp only [Act.put, qa]
 apply tk 3 (v := _) rfl (Or.inl ⟨by kernel_rfl, ?hv⟩) hH0 ?_
 case hv => intro w' hS; have z0 := HC.out w' hS.1; go_simp; try exact rfl
 simp only [Act.put, qa]
 refine tk 4 (v := (.agg #[.slice (some ⟨B, 0, none⟩) 32 32, .int .u64 (s : Int)])) rfl (yieldsIf_build (by kernel_rfl) 50 #[(0, .tmp 4), (1, .tmp 6)] rfl #[(0, .slice (some ⟨B, 0, none⟩) 32 32), (1, .int .u64 (s : Int))] (by kernel_rfl) _ (fun w' _ => build_leaf2 B s w')) hH0 ?_
 simp only [Act.put, qa]
 refine wpAnyH_ready (rs := [5]) (by kernel_rfl) (by simp) ?_
 refine AllReadyH.cons rfl (fun KK hKK => ?_) AllReadyH.nil
 refine step_store_mid rfl 50 (.tmp 2) (.tmp 7) rfl (B + 1) 0 #[.slice (some ⟨B, 0, none⟩) 32 32, .int .u64 (s : Int)] rfl rfl (hz.there 0 2 (by rw [hzls]; exact Nat.le_refl 2)) SZ.out (by simp [Value.oneCell']) ?_
 have hset := set_box (L := [.slice (some ⟨B, 0, none⟩) 32 32, .int .u64 (s : Int)]) hH0.2 hz (Nat.le_succ B) (Nat.le_of_lt (Nat.lt_of_succ_lt hBW)) hzls
 obtain ⟨xb, hxb⟩ : ∃ y, y = W1.drew.setCells (B + 1) 0 [.slice (some ⟨B, 0, none⟩) 32 32, .int .u64 (s : Int)] := ⟨_, rfl⟩
 rw [← hxb] at hset
 change KK _ (W1.drew.setCells (B + 1) 0 [.slice (some ⟨B, 0, none⟩) 32 32, .int .u64 (s : Int)])
 rw [← hxb]
 have hsxb : Has xb B 30 LN.toArray ∧ Below B w xb := ⟨hH0.1.kept hset.2.2 (by omega), hset.1⟩
 clear hxb
 refine Shut.out hKK _ _ hsxb (fun hH1 => ?_)
 clear hKK KK
 try simp only [Act.put, qa]
 refine wpAnyH_done (by kernel_rfl) ?_ _
 refine NoPanic.normal ?_
 have HF := Lib.hid hset.2.1
 have HBF := Lib.hid hsxb
 clear hset hsxb
 go_wp2_with fail
 refine bodyPost_ret (results_cell_row rfl _ _ (B + 1) 50 #[.slice (some ⟨B, 0, none⟩) 32 32, .int .u64 (s : Int)] (0, 0) _ rfl HF.out Tryz.underlying50 rfl SZ.out) rfl ?_
 exact ⟨_, rfl, nd_bytes HN.out (by rw [← ELN.out]; exact HBF.out.1) (Nat.ne_of_lt HBF.out.1.lt), by have := HBF.out.2; rwa [HBQ.out] at this⟩
set_option maxRecDepth 100000 in
set_option maxHeartbeats 4000000 in
theorem coAnchor_is (K s0 : List Wd) (w : World) (hT : Tabs K s0 w) (n : Nd) (hn : IsHash n.h) (hs : n.s < 18446744073709551616) : Calls Tryz.prog 44 #[.agg (ndV n).toArray] w fun e w' => e = .returned (arr (anchorK K s0 n)) ∧ Below w.heap.size w w' := by
 obtain ⟨Z, hz, hZ, hZs, hZn⟩ := zero_eight
 obtain ⟨zk, hzk, hzs, hzn⟩ := zero_hashT
 obtain ⟨LN, hLN⟩ : ∃ L, L = ndV n := ⟨_, rfl⟩
 obtain ⟨s, hse⟩ : ∃ x, x = n.s := ⟨_, rfl⟩
 obtain ⟨D, hD⟩ : ∃ D, D = anchorK K s0 n := ⟨_, rfl⟩
 have hph : IsHash D := by rw [hD]; exact anchorK_hash K s0 hT.len _
 rw [← hLN, ← hD]
 have ELN := Lib.hid hLN
 have ES := Lib.hid hse
 have HD := Lib.hid hD
 have HPH := Lib.hid hph
 have HN := Lib.hid hn
 have HT := Lib.hid hT
 have HZ := Lib.hid hZ
 have SZ := Lib.hid (show (Tryz.prog.info? 27).map (·.size) = some (bcells D).toArray.size by rw [List.size_toArray, bcells_length, hph.1]; kernel_rfl)
 have SZ2 := Lib.hid (show zk.size = (bcells D).length by rw [hzs, bcells_length, hph.1])
 have hlow := hT.low
 clear hT hLN hD hph hse hn hZ hZs hzs
 go_enter Tryz.func44, Tryz.ntmps44
 go_upto_region 2 with (fail)
 obtain ⟨W1, hW1, h1, h2, h3, hb1⟩ := boxes_anchor w LN zk Z
 rw [← hW1]
 clear hW1
 obtain ⟨B, hB⟩ : ∃ b, b = w.heap.size := ⟨_, rfl⟩
 rw [← hB] at h1 h2 h3 hb1 hlow ⊢
 have HBQ := Lib.hid hB
 clear hB
 have HTB := Lib.hid (show ∀ v : World, Below B w v → Tabs K s0 v from fun v hv => by
  have hl2 := hlow
  rw [HBQ.out] at hv hl2
  exact HT.out.below hv hl2)
 have HLOW := Lib.hid hlow
 have HC := Lib.hid (show ∀ v : World, Has v B 30 LN.toArray → v.cell? ⟨B, 32, none⟩ = some (.int .u64 (s : Int)) from fun v hv => hv.cell_is (by rw [List.getElem?_toArray, ELN.out, ES.out]; exact nd_sum_at HN.out))
 have HX := Lib.hid (show n.s < 18446744073709551616 from hs)
 have HH1 := Lib.hid h1
 have HH2 := Lib.hid h2
 have HH3 := Lib.hid h3
 have HB1 := Lib.hid hb1
 clear h1 h2 h3 hb1 hlow hs
 go_wp2_with fail
 go_loopw [5] (fun i wr => ∃ k : Nat, k ≤ 8 ∧ i = .int .i64 k ∧ Has wr (B + 2) 165 (splice (bcells (List.replicate 8 0)) 0 ((bcells (eight s)).take k)).toArray ∧ Has wr B 30 LN.toArray ∧ Has wr (B + 1) 27 zk ∧ Below B w wr) (fun i _ => 8 - (intOf i).toNat)
 case atStart => exact ⟨0, by omega, rfl, by rw [List.take_zero, splice_nil, ← HZ.out]; exact HH3.out, HH1.out, HH2.out, HB1.out⟩
 case round =>
  clear HH1 HH2 HH3 HB1
  obtain ⟨k, hk, rfl, hW, hN1, hZ1, hK⟩ := hrel
  have HW := Lib.hid hW
  have HN1 := Lib.hid hN1
  have HZ1 := Lib.hid hZ1
  have HKR := Lib.hid hK
  clear hW hN1 hZ1 hK
  by_cases hlt : k < 8
  · have hf := HW.out.free k
    have hc32 := HC.out wr HN1.out
    obtain ⟨v0, hv0⟩ : ∃ v, wr.cell? ⟨B + 2, k, none⟩ = some v := by
      refine ⟨_, HW.out.cell_is (by rw [List.getElem?_toArray]; exact List.getElem?_eq_getElem (by rw [splice_len _ _ _ (by rw [List.length_take, bcells_length, bcells_length, eight_length]; simp; omega)]; rw [bcells_length]; simpa using hlt))⟩
    have hset := HW.out.set (0 + k) (.int .u8 ((s / 2 ^ (8 * (7 - k)) % 256 : Nat) : Int))
    rw [List.setIfInBounds_toArray, splice_take_set _ _ _ _ _ (by rw [bcells_length, bcells_length, eight_length]; simp) (eight_get s k hlt), Nat.zero_add] at hset
    have hv : ((s : Int) / 2 ^ (56 - 8 * k) % 256) = ((s / 2 ^ (8 * (7 - k)) % 256 : Nat) : Int) := by
      rw [show 56 - 8 * k = 8 * (7 - k) by omega, show (2 : Int) ^ (8 * (7 - k)) = ((2 ^ (8 * (7 - k)) : Nat) : Int) by simp]
      rfl
    have HV := Lib.hid hv
    have HSET := Lib.hid hset
    have HFAR := Lib.hid (show ∀ u, Has (wr.setCell ⟨B + 2, k, none⟩ u) B 30 LN.toArray ∧ Has (wr.setCell ⟨B + 2, k, none⟩ u) (B + 1) 27 zk from fun u => ⟨HN1.out.far (show B ≠ B + 2 by omega) u, HZ1.out.far (show B + 1 ≠ B + 2 by omega) u⟩)
    have HGW := Lib.hid (show w.heap.size ≤ B + 2 by rw [← HBQ.out]; omega)
    clear hset hv
    go_wp2
    go_roundw
    case rel => exact ⟨k + 1, by omega, by go_num, by rw [HV.out]; exact HSET.out, (HFAR.out _).1, (HFAR.out _).2, HKR.out.setCell (show B ≤ B + 2 by omega) _⟩
    case measure => simp [intOf]; omega
  · obtain rfl : k = 8 := by omega
    have hfin : Has wr (B + 2) 165 (bcells (eight s)).toArray := by
      have h1 := HW.out
      rw [List.take_of_length_le (by rw [bcells_length, eight_length]; exact Nat.le_refl _), splice_all _ _ (by rw [bcells_length, bcells_length, eight_length]; simp)] at h1
      exact h1
    have HDQ := Lib.hid (show tagD K s0 anS [n.h, eight s].flatten = D by rw [HD.out, ES.out]; unfold anchorK; simp)
    have HLN := Lib.hid (show [n.h, eight s].flatten.length ≤ 100000000 by simp [HN.out.1, eight_length])
    go_upto_region 7 with (fail)
    obtain ⟨W2, hW2⟩ : ∃ y, y = wr := ⟨_, rfl⟩
    subst hW2
    have hS0 : Has W2.drew B 30 LN.toArray ∧ Has W2.drew (B + 2) 165 (bcells (eight s)).toArray ∧ Below B w W2.drew := ⟨HN1.out, hfin, below_drew HKR.out⟩
    have hz : Has W2.drew (B + 1) 27 zk := HZ1.out
    have hBW : B + 2 < W2.drew.heap.size := hfin.lt
    clear hfin HW HN1 HZ1 HKR HZ
    refine wp_region_noPanic ?_
    refine wp_region_held_drew (S := (fun v => Has v B 30 LN.toArray ∧ Has v (B + 2) 165 (bcells (eight s)).toArray ∧ Below B w v)) (by kernel_rfl) hS0 (fun hH0 => ?_)
    apply tk 1 (v := _) rfl (Or.inl ⟨by kernel_rfl, ?hv⟩) hH0 ?_
    case hv => intro w' hS; go_simp; try exact rfl
    simp only [Act.put, qa]
    apply tk 2 (v := _) rfl (Or.inl ⟨by kernel_rfl, ?hv⟩) hH0 ?_
    case hv => intro w' hS; go_simp; try exact rfl
    simp only [Act.put, qa]
    apply tk 3 (v := _) rfl (Or.inl ⟨by kernel_rfl, ?hv⟩) hH0 ?_
    case hv => intro w' hS; go_simp; try exact rfl
    simp only [Act.put, qa]
    refine wpAnyH_ready (rs := [0, 4]) (by kernel_rfl) (by simp) ?_
    refine AllReadyH.cons rfl (fun KK hKK => ?_) (AllReadyH.cons rfl (fun KK hKK => ?_) AllReadyH.nil)
    · go_simp
      refine (newTag_is anS _).mono ?_
      rintro _ x0 ⟨rfl, hx0⟩
      have hnx0 : Below W2.drew.heap.size W2.drew x0 := by rw [hx0]; exact (Below.refl _ _).alloc (Nat.le_refl _) _
      have hg : Has x0 W2.drew.heap.size 178 (tag0 anS).toArray := by rw [hx0]; exact Has.new _ _ _
      have hgb : B + 2 < W2.drew.heap.size := hBW
      obtain ⟨G, hG⟩ : ∃ g, g = W2.drew.heap.size := ⟨_, rfl⟩
      first | rw [← hG] | (have hG2 : W2.heap.size = G := hG.symm; rw [hG2])
      rw [← hG] at hg
      rw [← hG] at hgb
      clear hG
      have hsx0 : Has x0 B 30 LN.toArray ∧ Has x0 (B + 2) 165 (bcells (eight s)).toArray ∧ Below B w x0 := ⟨hH0.1.below hnx0 hH0.1.lt, hH0.2.1.below hnx0 hH0.2.1.lt, hH0.2.2.trans (hnx0.mono (by omega))⟩
      replace hz := hz.below hnx0 hz.lt
      try replace hp := hp.below hnx0 hp.lt
      replace hBW : B + 2 < x0.heap.size := Nat.lt_of_lt_of_le hBW hnx0.size
      clear hx0
      refine Shut.out hKK _ _ hsx0 (fun hH1 => ?_)
      clear hKK KK
      try simp only [Act.put, qa]
      refine wpAnyH_ready (rs := [4]) (by kernel_rfl) (by simp) ?_
      refine AllReadyH.cons rfl (fun KK hKK => ?_) AllReadyH.nil
      refine step_buildN rfl 121 48 2 _ rfl _ 1 24 Tryz.underlying121 info_slice [.tmp 20, .tmp 21] rfl [.slice (some ⟨B, 0, none⟩) 32 32, .slice (some ⟨B + 2, 0, none⟩) 8 8] rfl (by simp [Value.cells]) rfl rfl (by decide) (by decide) (by decide) ?_
      obtain ⟨x4, hx4⟩ : ∃ y, y = x0.alloc (.cells #[.slice (some ⟨B, 0, none⟩) 32 32, .slice (some ⟨B + 2, 0, none⟩) 8 8] 48) := ⟨_, rfl⟩
      first | rw [← hx4] | (change KK _ (x0.alloc (.cells #[.slice (some ⟨B, 0, none⟩) 32 32, .slice (some ⟨B + 2, 0, none⟩) 8 8] 48)); rw [← hx4])
      have hnx4 : Below x0.heap.size x0 x4 := by rw [hx4]; exact (Below.refl _ _).alloc (Nat.le_refl _) _
      have hp : Has x4 x0.heap.size 48 #[.slice (some ⟨B, 0, none⟩) 32 32, .slice (some ⟨B + 2, 0, none⟩) 8 8] := by rw [hx4]; exact Has.new _ _ _
      have hpb : B + 2 < x0.heap.size := hBW
      obtain ⟨R, hR⟩ : ∃ g, g = x0.heap.size := ⟨_, rfl⟩
      first | rw [← hR] | (have hR2 : W2.heap.size = R := hR.symm; rw [hR2])
      rw [← hR] at hp
      rw [← hR] at hpb
      clear hR
      have hsx4 : Has x4 B 30 LN.toArray ∧ Has x4 (B + 2) 165 (bcells (eight s)).toArray ∧ Below B w x4 := ⟨hH1.1.below hnx4 hH1.1.lt, hH1.2.1.below hnx4 hH1.2.1.lt, hH1.2.2.trans (hnx4.mono (by omega))⟩
      replace hz := hz.below hnx4 hz.lt
      try replace hg := hg.below hnx4 hg.lt
      replace hBW : B + 2 < x4.heap.size := Nat.lt_of_lt_of_le hBW hnx4.size
      clear hx4
      refine Shut.out hKK _ _ hsx4 (fun hH2 => ?_)
      clear hKK KK
      try simp only [Act.put, qa]
      refine wpAnyH_ready (rs := [5]) (by kernel_rfl) (by simp) ?_
      refine AllReadyH.cons rfl (fun KK hKK => ?_) AllReadyH.nil
      go_simp
      have hp2 := hp.ne hg (by decide)
      have hsum := tagSum_is K s0 _ (HTB.out _ hH2.2.2) G anS (by decide) (Nat.le_trans HLOW.out (by omega)) hg _ [n.h, eight s] (partsN_2 hp (nd_bytes HN.out (by rw [← ELN.out]; exact hH2.1) (by omega)) (eight_bytes hH2.2.1 (by omega)) hp2) HLN.out (by simp)
      rw [HDQ.out] at hsum
      unfold arr at hsum
      refine hsum.mono ?_
      rintro _ xa ⟨rfl, hka⟩
      have hsxa : Has xa B 30 LN.toArray ∧ Has xa (B + 2) 165 (bcells (eight s)).toArray ∧ Below B w xa := ⟨hH2.1.kept hka (by omega), hH2.2.1.kept hka (by omega), hH2.2.2.trans (hka.below (by omega) (fun j e => by have e' : j = G := e; omega))⟩
      replace hz := hz.kept hka (by omega)
      replace hBW : B + 2 < xa.heap.size := Nat.lt_of_lt_of_le hBW hka.size
      clear hsum hka
      refine Shut.out hKK _ _ hsxa (fun hH3 => ?_)
      clear hKK KK
      try simp only [Act.put, qa]
      refine wpAnyH_ready (rs := [6]) (by kernel_rfl) (by simp) ?_
      refine AllReadyH.cons rfl (fun KK hKK => ?_) AllReadyH.nil
      refine step_store_mid rfl 27 (.tmp 2) (.tmp 23) rfl (B + 1) 0 (bcells D).toArray rfl rfl (hz.there 0 _ (by rw [List.size_toArray, SZ2.out]; exact Nat.le_of_eq (Nat.zero_add _))) SZ.out (all_oneCell_toArray (bcells_one D)) ?_
      have hset := set_box hH3.2.2 hz (Nat.le_succ B) (by omega) SZ2.out
      obtain ⟨xb, hxb⟩ : ∃ y, y = xa.setCells (B + 1) 0 (bcells D) := ⟨_, rfl⟩
      rw [← hxb] at hset
      change KK _ (xa.setCells (B + 1) 0 (bcells D))
      rw [← hxb]
      have hsxb : Has xb B 30 LN.toArray ∧ Has xb (B + 2) 165 (bcells (eight s)).toArray ∧ Below B w xb := ⟨hH3.1.kept hset.2.2 (by omega), hH3.2.1.kept hset.2.2 (by omega), hset.1⟩
      clear hxb
      refine Shut.out hKK _ _ hsxb (fun hH4 => ?_)
      clear hKK KK
      try simp only [Act.put, qa]
      refine wpAnyH_done (by kernel_rfl) ?_ _
      refine NoPanic.normal ?_
      have HF := Lib.hid hset.2.1
      have HBF := Lib.hid hset.1
      clear hset hsxb
      go_wp2_with fail
      refine bodyPost_ret (results_cell_row rfl _ _ (B + 1) 27 (bcells D).toArray (0, 0) _ rfl HF.out Tryz.underlying27 rfl SZ.out) rfl ?_
      exact ⟨rfl, by have := HBF.out; rwa [HBQ.out] at this⟩
    · refine step_buildN rfl 121 48 2 _ rfl _ 1 24 Tryz.underlying121 info_slice [.tmp 20, .tmp 21] rfl [.slice (some ⟨B, 0, none⟩) 32 32, .slice (some ⟨B + 2, 0, none⟩) 8 8] rfl (by simp [Value.cells]) rfl rfl (by decide) (by decide) (by decide) ?_
      obtain ⟨x4, hx4⟩ : ∃ y, y = W2.drew.alloc (.cells #[.slice (some ⟨B, 0, none⟩) 32 32, .slice (some ⟨B + 2, 0, none⟩) 8 8] 48) := ⟨_, rfl⟩
      first | rw [← hx4] | (change KK _ (W2.drew.alloc (.cells #[.slice (some ⟨B, 0, none⟩) 32 32, .slice (some ⟨B + 2, 0, none⟩) 8 8] 48)); rw [← hx4])
      have hnx4 : Below W2.drew.heap.size W2.drew x4 := by rw [hx4]; exact (Below.refl _ _).alloc (Nat.le_refl _) _
      have hp : Has x4 W2.drew.heap.size 48 #[.slice (some ⟨B, 0, none⟩) 32 32, .slice (some ⟨B + 2, 0, none⟩) 8 8] := by rw [hx4]; exact Has.new _ _ _
      have hpb : B + 2 < W2.drew.heap.size := hBW
      obtain ⟨R, hR⟩ : ∃ g, g = W2.drew.heap.size := ⟨_, rfl⟩
      first | rw [← hR] | (have hR2 : W2.heap.size = R := hR.symm; rw [hR2])
      rw [← hR] at hp
      rw [← hR] at hpb
      clear hR
      have hsx4 : Has x4 B 30 LN.toArray ∧ Has x4 (B + 2) 165 (bcells (eight s)).toArray ∧ Below B w x4 := ⟨hH0.1.below hnx4 hH0.1.lt, hH0.2.1.below hnx4 hH0.2.1.lt, hH0.2.2.trans (hnx4.mono (by omega))⟩
      replace hz := hz.below hnx4 hz.lt
      try replace hg := hg.below hnx4 hg.lt
      replace hBW : B + 2 < x4.heap.size := Nat.lt_of_lt_of_le hBW hnx4.size
      clear hx4
      refine Shut.out hKK _ _ hsx4 (fun hH1 => ?_)
      clear hKK KK
      try simp only [Act.put, qa]
      refine wpAnyH_ready (rs := [0]) (by kernel_rfl) (by simp) ?_
      refine AllReadyH.cons rfl (fun KK hKK => ?_) AllReadyH.nil
      go_simp
      refine (newTag_is anS _).mono ?_
      rintro _ x0 ⟨rfl, hx0⟩
      have hnx0 : Below x4.heap.size x4 x0 := by rw [hx0]; exact (Below.refl _ _).alloc (Nat.le_refl _) _
      have hg : Has x0 x4.heap.size 178 (tag0 anS).toArray := by rw [hx0]; exact Has.new _ _ _
      have hgb : B + 2 < x4.heap.size := hBW
      obtain ⟨G, hG⟩ : ∃ g, g = x4.heap.size := ⟨_, rfl⟩
      first | rw [← hG] | (have hG2 : W2.heap.size = G := hG.symm; rw [hG2])
      rw [← hG] at hg
      rw [← hG] at hgb
      clear hG
      have hsx0 : Has x0 B 30 LN.toArray ∧ Has x0 (B + 2) 165 (bcells (eight s)).toArray ∧ Below B w x0 := ⟨hH1.1.below hnx0 hH1.1.lt, hH1.2.1.below hnx0 hH1.2.1.lt, hH1.2.2.trans (hnx0.mono (by omega))⟩
      replace hz := hz.below hnx0 hz.lt
      try replace hp := hp.below hnx0 hp.lt
      replace hBW : B + 2 < x0.heap.size := Nat.lt_of_lt_of_le hBW hnx0.size
      clear hx0
      refine Shut.out hKK _ _ hsx0 (fun hH2 => ?_)
      clear hKK KK
      try simp only [Act.put, qa]
      refine wpAnyH_ready (rs := [5]) (by kernel_rfl) (by simp) ?_
      refine AllReadyH.cons rfl (fun KK hKK => ?_) AllReadyH.nil
      go_simp
      have hp2 := hp.ne hg (by decide)
      have hsum := tagSum_is K s0 _ (HTB.out _ hH2.2.2) G anS (by decide) (Nat.le_trans HLOW.out (by omega)) hg _ [n.h, eight s] (partsN_2 hp (nd_bytes HN.out (by rw [← ELN.out]; exact hH2.1) (by omega)) (eight_bytes hH2.2.1 (by omega)) hp2) HLN.out (by simp)
      rw [HDQ.out] at hsum
      unfold arr at hsum
      refine hsum.mono ?_
      rintro _ xa ⟨rfl, hka⟩
      have hsxa : Has xa B 30 LN.toArray ∧ Has xa (B + 2) 165 (bcells (eight s)).toArray ∧ Below B w xa := ⟨hH2.1.kept hka (by omega), hH2.2.1.kept hka (by omega), hH2.2.2.trans (hka.below (by omega) (fun j e => by have e' : j = G := e; omega))⟩
      replace hz := hz.kept hka (by omega)
      replace hBW : B + 2 < xa.heap.size := Nat.lt_of_lt_of_le hBW hka.size
      clear hsum hka
      refine Shut.out hKK _ _ hsxa (fun hH3 => ?_)
      clear hKK KK
      try simp only [Act.put, qa]
      refine wpAnyH_ready (rs := [6]) (by kernel_rfl) (by simp) ?_
      refine AllReadyH.cons rfl (fun KK hKK => ?_) AllReadyH.nil
      refine step_store_mid rfl 27 (.tmp 2) (.tmp 23) rfl (B + 1) 0 (bcells D).toArray rfl rfl (hz.there 0 _ (by rw [List.size_toArray, SZ2.out]; exact Nat.le_of_eq (Nat.zero_add _))) SZ.out (all_oneCell_toArray (bcells_one D)) ?_
      have hset := set_box hH3.2.2 hz (Nat.le_succ B) (by omega) SZ2.out
      obtain ⟨xb, hxb⟩ : ∃ y, y = xa.setCells (B + 1) 0 (bcells D) := ⟨_, rfl⟩
      rw [← hxb] at hset
      change KK _ (xa.setCells (B + 1) 0 (bcells D))
      rw [← hxb]
      have hsxb : Has xb B 30 LN.toArray ∧ Has xb (B + 2) 165 (bcells (eight s)).toArray ∧ Below B w xb := ⟨hH3.1.kept hset.2.2 (by omega), hH3.2.1.kept hset.2.2 (by omega), hset.1⟩
      clear hxb
      refine Shut.out hKK _ _ hsxb (fun hH4 => ?_)
      clear hKK KK
      try simp only [Act.put, qa]
      refine wpAnyH_done (by kernel_rfl) ?_ _
      refine NoPanic.normal ?_
      have HF := Lib.hid hset.2.1
      have HBF := Lib.hid hset.1
      clear hset hsxb
      go_wp2_with fail
      refine bodyPost_ret (results_cell_row rfl _ _ (B + 1) 27 (bcells D).toArray (0, 0) _ rfl HF.out Tryz.underlying27 rfl SZ.out) rfl ?_
      exact ⟨rfl, by have := HBF.out; rwa [HBQ.out] at this⟩
end Go.Proofs.YtknfbccbdiidjaaGreatDoor
/- A commit in memory; an empty one. -/
namespace Go.Proofs.YtknfbccbdiidjaaGreatDoor
set_option linter.unusedVariables false
set_option linter.unusedSimpArgs false
open Go.ChangeShapes Go.WideShapes Go.ChangeAt Go.RowKit Go.Maps

def entP (e : List Nat × Nat) : Ent := (e.1, .pointer (some ⟨e.2, 0, none⟩))
def entL (K s0 : List Wd) (l : LeafT) : Ent := (keyK K s0 l, .agg l.cells.toArray)
structure CmAt (K s0 : List Wd) (S : Nat → Prop) (w : World) (g : Nat) (ls : List LeafT) (m0 m1 : Nat) (E : List (List Nat × Nat)) (Z : Nat → Nat → Prop) : Prop where
 obj : Has w g 101 #[.map (some m0), .map (some m1), .int .u64 (amS ls : Int)]
 map0 : MapIs w m0 (E.map entP)
 map1 : MapIs w m1 (ls.map (entL K s0))
 ids : E.map (·.1) = idsOf ls
 trees : ∀ e ∈ E, Tr K s0 (Z e.2) w e.2 (lowT K s0 ls e.1)
 zone : ∀ e ∈ E, ∀ k, Z e.2 k → k < w.heap.size ∧ S k ∧ k ≠ g ∧ k ≠ m0 ∧ k ≠ m1
 apart : ∀ e ∈ E, ∀ e' ∈ E, e.2 ≠ e'.2 → ∀ k, Z e.2 k → ¬ Z e'.2 k
 gs : (E.map (·.2)).Nodup
 low : ∀ e ∈ E, 2 + 1 ≤ e.2
 inS : S g ∧ S m0 ∧ S m1
 ne : m0 ≠ m1
 fine : Fine K s0 ls
def Cm (K s0 : List Wd) (S : Nat → Prop) (w : World) (g : Nat) (ls : List LeafT) : Prop := ∃ m0 m1 E Z, CmAt K s0 S w g ls m0 m1 E Z
theorem map_has_ne {w : World} {b : Nat} {l : List Ent} (h : MapIs w b l) {j : Nat} {t : TypeId} {cs : Array Value} (hh : Has w j t cs) : j ≠ b := fun e => by
 obtain ⟨es, clock, hm, _⟩ := h
 unfold Has at hh
 rw [e, hm] at hh
 cases hh
variable {K s0 : List Wd} {S S' T : Nat → Prop} {w w' : World} {g m0 m1 : Nat} {ls : List LeafT} {E : List (List Nat × Nat)} {Z : Nat → Nat → Prop}
theorem CmAt.gm (h : CmAt K s0 S w g ls m0 m1 E Z) : g ≠ m0 ∧ g ≠ m1 := ⟨map_has_ne h.map0 h.obj, map_has_ne h.map1 h.obj⟩
theorem CmAt.kept (h : CmAt K s0 S w g ls m0 m1 E Z) (hk : Kept T w w') (hs : ∀ k, k < w.heap.size → S k → ¬ T k) : CmAt K s0 S w' g ls m0 m1 E Z :=
 ⟨h.obj.kept hk (hs _ h.obj.lt h.inS.1), h.map0.kept hk (hs _ h.map0.lt h.inS.2.1), h.map1.kept hk (hs _ h.map1.lt h.inS.2.2), h.ids, fun e he => (h.trees e he).kept hk (fun k hl hz => hs k hl (h.zone e he k hz).2.1), fun e he k hz => ⟨Nat.lt_of_lt_of_le (h.zone e he k hz).1 hk.size, (h.zone e he k hz).2⟩, h.apart, h.gs, h.low, h.inS, h.ne, h.fine⟩
theorem CmAt.quiet (h : CmAt K s0 S w g ls m0 m1 E Z) (hb : Below w.heap.size w w') : CmAt K s0 S w' g ls m0 m1 E Z := h.kept (Kept.of_below (S := fun _ => False) hb) (fun _ _ _ e => e)
theorem CmAt.zoneS (h : CmAt K s0 S w g ls m0 m1 E Z) (hs : ∀ k, k < w.heap.size → S k → S' k) : CmAt K s0 S' w g ls m0 m1 E Z :=
 ⟨h.obj, h.map0, h.map1, h.ids, h.trees, fun e he k hz => ⟨(h.zone e he k hz).1, hs k (h.zone e he k hz).1 (h.zone e he k hz).2.1, (h.zone e he k hz).2.2⟩, h.apart, h.gs, h.low, ⟨hs _ h.obj.lt h.inS.1, hs _ h.map0.lt h.inS.2.1, hs _ h.map1.lt h.inS.2.2⟩, h.ne, h.fine⟩
theorem Cm.kept (h : Cm K s0 S w g ls) (hk : Kept T w w') (hs : ∀ k, k < w.heap.size → S k → ¬ T k) : Cm K s0 S w' g ls := by
 obtain ⟨m0, m1, E, Z, h⟩ := h
 exact ⟨m0, m1, E, Z, h.kept hk hs⟩
theorem Cm.quiet (h : Cm K s0 S w g ls) (hb : Below w.heap.size w w') : Cm K s0 S w' g ls := h.kept (Kept.of_below (S := fun _ => False) hb) (fun _ _ _ e => e)
theorem Cm.zoneS (h : Cm K s0 S w g ls) (hs : ∀ k, k < w.heap.size → S k → S' k) : Cm K s0 S' w g ls := by
 obtain ⟨m0, m1, E, Z, h⟩ := h
 exact ⟨m0, m1, E, Z, h.zoneS hs⟩
theorem Cm.lt (h : Cm K s0 S w g ls) : g < w.heap.size := by
 obtain ⟨m0, m1, E, Z, h⟩ := h
 exact h.obj.lt
theorem Cm.fine (h : Cm K s0 S w g ls) : Fine K s0 ls := by
 obtain ⟨m0, m1, E, Z, h⟩ := h
 exact CmAt.fine h
theorem CmAt.cells (h : CmAt K s0 S w g ls m0 m1 E Z) : w.cell? ⟨g, 0, none⟩ = some (.map (some m0)) ∧ w.cell? ⟨g, 1, none⟩ = some (.map (some m1)) ∧ w.cell? ⟨g, 2, none⟩ = some (.int .u64 (amS ls : Int)) := ⟨h.obj.cell_is rfl, h.obj.cell_is rfl, h.obj.cell_is rfl⟩
set_option maxRecDepth 100000 in
theorem build_commit (a b : Nat) (w : World) : (Instr.build 101 #[(0, .map (some a)), (1, .map (some b))]).run Tryz.prog w = .ok (.agg #[.map (some a), .map (some b), .int .u64 0]) w := by kernel_rfl
set_option maxRecDepth 100000 in
set_option maxHeartbeats 1000000 in
theorem coNew_is (K s0 : List Wd) (S : Nat → Prop) (w : World) (hn : ∀ k, w.heap.size ≤ k → S k) : Calls Tryz.prog 10 #[] w fun e w' => ∃ g, e = .returned (.pointer (some ⟨g, 0, none⟩)) ∧ Cm K s0 S w' g [] ∧ Below w.heap.size w w' ∧ w.heap.size ≤ g := by
 have hs1 : (w.alloc (.map #[] 0)).heap.size = w.heap.size + 1 := by simp
 have hs2 : ((w.alloc (.map #[] 0)).alloc (.map #[] 0)).heap.size = w.heap.size + 1 + 1 := by simp
 obtain ⟨W3, hW3⟩ : ∃ y, y = ((w.alloc (.map #[] 0)).alloc (.map #[] 0)).alloc (.cells #[.map (some w.heap.size), .map (some (w.heap.size + 1)), .int .u64 0] 101) := ⟨_, rfl⟩
 have hm0 : MapIs W3 w.heap.size [] := by
  rw [hW3]
  exact (MapIs.new w).kept (S := fun _ => False) (((Kept.refl _ _).alloc _).alloc _) (fun h => h)
 have hm1 : MapIs W3 (w.heap.size + 1) [] := by
  have := MapIs.new (w.alloc (.map #[] 0))
  rw [hs1] at this
  rw [hW3]
  exact this.kept (S := fun _ => False) ((Kept.refl _ _).alloc _) (fun h => h)
 have hob : Has W3 (w.heap.size + 1 + 1) 101 #[.map (some w.heap.size), .map (some (w.heap.size + 1)), .int .u64 0] := by
  have := Has.new ((w.alloc (.map #[] 0)).alloc (.map #[] 0)) 101 #[.map (some w.heap.size), .map (some (w.heap.size + 1)), .int .u64 0]
  rw [hs2] at this
  rw [hW3]
  exact this
 have hbel : Below w.heap.size w W3 := by
  rw [hW3]
  exact (((Below.refl _ _).alloc (Nat.le_refl _) _).alloc (by rw [hs1]; omega) _).alloc (by rw [hs2]; omega) _
 have hcm : Cm K s0 S W3 (w.heap.size + 1 + 1) [] := ⟨w.heap.size, w.heap.size + 1, [], fun _ _ => False, hob, hm0, hm1, rfl, fun e he => (by cases he), fun e he => (by cases he), fun e he => (by cases he), List.nodup_nil, fun e he => (by cases he), ⟨hn _ (by omega), hn _ (Nat.le_refl _), hn _ (by omega)⟩, by omega, fine_nil⟩
 have HFIN := Lib.hid (And.intro hcm hbel)
 have EW := Lib.hid hW3
 have hmm := @run_makeMap Tryz.prog
 have hbd := build_commit w.heap.size (w.heap.size + 1)
 clear hm0 hm1 hob hbel hcm hW3 hs1 hs2 hn
 go_enter Tryz.func10, Tryz.ntmps10
 go_wp2
 go_ret
 have hf := HFIN.out
 rw [EW.out] at hf
 exact ⟨_, rfl, hf.1, hf.2, by omega⟩
end Go.Proofs.YtknfbccbdiidjaaGreatDoor
