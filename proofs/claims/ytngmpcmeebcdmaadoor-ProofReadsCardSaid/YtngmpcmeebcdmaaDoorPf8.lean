/- The walk of the head of the proofs' laws. -/
import Derived.Test.YtngmpcmeebcdmaaDoorPf6
import Derived.Test.YtngmpcmeebcdmaaDoorPf5
import Derived.Lib.SlBytesConst
namespace Go.Proofs.YtngmpcmeebcdmaaDoor
set_option linter.unusedVariables false
set_option linter.unusedSimpArgs false
open Go.ChangeShapes Go.WideShapes Go.ChangeAt Go.RowKit Go.Maps

set_option maxRecDepth 100000 in
set_option maxHeartbeats 8000000 in
theorem headP_is (K s0 : List Wd) (w : World) (hT : Tabs K s0 w) : Calls Tryd.prog 26 #[] w fun e w' => e = .returned (.bool true) ∧ Below w.heap.size w w' := by
  have hlow := hT.low
  obtain ⟨Zp, hzp, hZps, hZpn, hZp⟩ := zero_proof
  obtain ⟨LK5, hLK5⟩ : ∃ L, L = (bcells K5).toArray := ⟨_, rfl⟩
  obtain ⟨LK6, hLK6⟩ : ∃ L, L = (bcells K6).toArray := ⟨_, rfl⟩
  have HB5 := Lib.hid k5_lit
  have HB6 := Lib.hid k6_lit
  rw [← hLK5] at HB5
  rw [← hLK6] at HB6
  have ELK5 := Lib.hid hLK5
  have ELK6 := Lib.hid hLK6
  have HT := Lib.hid hT
  have EZPS := Lib.hid hZps
  have SZP := Lib.hid (show ∀ (bb : List Nat), IsHash bb → ∀ (a : Option Addr) (n c : Nat), (Tryd.prog.info? 56).map (·.size) = some (pcells bb a n c).toArray.size ∧ Zp.size = (pcells bb a n c).toArray.size from fun bb hb a n c => by rw [List.size_toArray, pcells_len hb, hZps]; exact ⟨by kernel_rfl, rfl⟩)
  clear hT hLK5 hLK6 hZps hZp
  go_enter Tryd.func26, Tryd.ntmps26
  go_wp2_with fail
  refine (newT_is K s0 (fun k => w.heap.size ≤ k) w (fun _ h => h)).mono ?_
  rintro _ w1 ⟨g, rfl, htr, hb1, hg⟩
  have hcv : (convert 29 29 (.slice (some ⟨w1.heap.size, 0, none⟩) 1 1)).run Tryd.prog (w1.alloc (.cells #[.int .u8 97] 5)) = .ok (.slice (some ⟨w1.heap.size, 0, none⟩) 1 1) (w1.alloc (.cells #[.int .u8 97] 5 (1, 2))) := Lib.run_convert_bytes_const w1 29 5 #[.int .u8 97] 1 1 Tryd.underlying29 Tryd.underlying5
  have HTR := Lib.hid htr
  have HB1 := Lib.hid hb1
  have HG := Lib.hid hg
  clear htr hb1 hg
  go_upto_region 3 with (fail)
  have hW2 : ∃ W2, W2 = (w1.alloc (.cells #[.int .u8 97] 5 (1, 2))).alloc (.cells #[.slice (some ⟨w1.heap.size, 0, none⟩) 1 1, .int .u64 7] 32) := ⟨_, rfl⟩
  obtain ⟨W2, hW2⟩ := hW2
  rw [← hW2]
  have hz2 : W2.heap.size = w1.heap.size + 2 := by rw [hW2]; simp
  have hb12 : Below w1.heap.size w1 W2 := by rw [hW2]; exact ((Below.refl _ _).alloc (Nat.le_refl _) _).alloc (by simp) _
  have hlf2 : Has W2 (w1.heap.size + 1) 32 #[.slice (some ⟨w1.heap.size, 0, none⟩) 1 1, .int .u64 7] := by
    rw [hW2]
    have := Has.new (w1.alloc (.cells #[.int .u8 97] 5 (1, 2))) 32 #[.slice (some ⟨w1.heap.size, 0, none⟩) 1 1, .int .u64 7]
    simpa using this
  have hbox : W2.cell? ⟨w1.heap.size, 0, none⟩ = some (.int .u8 97) := by
    have h1 : (w1.alloc (.cells #[.int .u8 97] 5 (1, 2))).cell? ⟨w1.heap.size, 0, none⟩ = some (.int .u8 97) := by
      unfold World.cell?
      rw [heap_alloc_new]; rfl
    rw [hW2]
    exact cell_held (S := fun _ => False) (Kept.of_below ((Below.refl _ _).alloc (Nat.le_refl _) _)) h1 (fun e => e)
  have hby : ∀ W, W.cell? ⟨w1.heap.size, 0, none⟩ = some (.int .u8 97) → w1.heap.size < W.heap.size → Bytes W W.heap.size (.slice (some ⟨w1.heap.size, 0, none⟩) [97].length 1) [97] := fun W hc hl =>
    ⟨_, _, rfl, Nat.le_refl _, by decide, fun _ => ⟨w1.heap.size, 0, rfl, by omega, fun i hi => by
      obtain rfl : i = 0 := by simpa using hi
      exact hc⟩⟩
  have htr2 : Tr K s0 (fun j => w.heap.size ≤ j ∧ ¬ (w1.heap.size ≤ j ∧ j < w1.heap.size + 2)) W2 g [] := (HTR.out.zone (S' := fun j => w.heap.size ≤ j ∧ ¬ (w1.heap.size ≤ j ∧ j < w1.heap.size + 2)) (fun j h1 h2 => ⟨h2, fun e => by omega⟩)).quiet hb12
  have hput := tr_put htr2 HT.out.len (fun k h => ⟨by have := HB1.out.size; omega, fun e => by omega⟩) l5 k5_is (.slice (some ⟨w1.heap.size, 0, none⟩) 1 1) (hby W2 hbox (by omega)) (by decide) (by decide)
  rw [l5_put, l5_new] at hput
  unfold arr leafV at hput
  change Calls Tryd.prog 18 #[.pointer (some ⟨g, 0, none⟩), .agg (bcells K5).toArray, .agg #[.slice (some ⟨w1.heap.size, 0, none⟩) 1 1, .int .u64 7]] _ _ at hput
  rw [← ELK5.out] at hput
  have HPUT := Lib.hid hput
  have HLF2 := Lib.hid hlf2
  have HBOX := Lib.hid hbox
  have HBY := Lib.hid hby
  have HW2 := Lib.hid (HB1.out.trans (hb12.mono HB1.out.size))
  have SZF := Lib.hid (show (Tryd.prog.info? 32).map (·.size) = some (#[Value.slice (some ⟨w1.heap.size, 0, none⟩) 1 1, .int .u64 7] : Array Value).size by kernel_rfl)
  clear htr2 hput hlf2 hbox hby hW2 hb12 hcv
  go_wp2_with (first
    | (refine wpList_build_run (by kernel_rfl) 28 _ rfl #[(0, .int .u8 5)] (by kernel_rfl) (.agg LK5) (HB5.out _) ?_)
    | (refine wpList_load_row rfl 32 (.tmp 2) rfl (w1.heap.size + 1) rfl 32 #[.slice (some ⟨w1.heap.size, 0, none⟩) 1 1, .int .u64 7] (0, 0) _ HLF2.out Tryd.underlying32 rfl SZF.out ?_))
  refine HPUT.out.mono ?_
  rintro _ w3 ⟨rfl, htr3, hk3⟩
  have hk3' : Below w.heap.size w w3 := HW2.out.trans (hk3.below HW2.out.size (fun j e => e.1))
  have hlf3 := HLF2.out.kept hk3 (fun e => e.2 ⟨by omega, by omega⟩)
  have hbox3 := cell_held hk3 HBOX.out (fun e => e.2 ⟨Nat.le_refl _, by show w1.heap.size < _; omega⟩)
  have hz3 : w1.heap.size + 2 ≤ w3.heap.size := by have := hk3.size; omega
  obtain ⟨Z2, hZ2⟩ : ∃ Z2 : Nat → Prop, Z2 = fun j => (w.heap.size ≤ j ∧ ¬ (w1.heap.size ≤ j ∧ j < w1.heap.size + 2)) ∧ j < w3.heap.size := ⟨_, rfl⟩
  have hz2a : ∀ j, Z2 j → w.heap.size ≤ j ∧ ¬ j = w1.heap.size ∧ ¬ j = w1.heap.size + 1 ∧ j < w3.heap.size := fun j e => by
    rw [hZ2] at e
    exact ⟨e.1.1, fun h => e.1.2 ⟨by omega, by omega⟩, fun h => e.1.2 ⟨by omega, by omega⟩, e.2⟩
  have htr3' : Tr K s0 Z2 w3 g [l5] := htr3.zone (fun j h1 h2 => by rw [hZ2]; exact ⟨h2, h1⟩)
  have hlo : 2 + 1 ≤ g := Nat.le_trans hlow HG.out
  have hmk := mkProof_is K s0 Z2 w3 (HT.out.below hk3' hlow) g [l5] htr3' hlo K5 k5_is
  unfold arr at hmk
  rw [← ELK5.out] at hmk
  have HMK := Lib.hid hmk
  have HBE3 := Lib.hid hk3'
  have HLF3 := Lib.hid hlf3
  have HBOX3 := Lib.hid hbox3
  have HZ2 := Lib.hid hz2a
  have HZ3 := Lib.hid hz3
  clear htr3 hk3 hk3' hlf3 hbox3 hZ2 hz2a htr3' hmk HPUT HLF2 HBOX HW2 HTR HB1 hz2 hz3
  go_wp2_with (refine wpList_build_run (by kernel_rfl) 28 _ rfl #[(0, .int .u8 5)] (by kernel_rfl) (.agg LK5) (HB5.out _) ?_)
  refine HMK.out.mono ?_
  rintro _ w4 ⟨bp, ap, np, cp, rfl, hmd⟩
  have hn0 : np = 0 := by rw [← hmd.nodes.len, nodes5]; rfl
  subst hn0
  have hall : ∀ h, h < 256 → bareB bp h = true := fun h hh => by rw [hmd.bits h hh]; exact bareF_own K s0 l5 h
  have hnwp : Has ((w4.alloc (.cells Zp 56)).setRow w4.heap.size (pcells bp ap 0 cp).toArray) w4.heap.size 56 (pcells bp ap 0 cp).toArray ∧ Below w4.heap.size w4 ((w4.alloc (.cells Zp 56)).setRow w4.heap.size (pcells bp ap 0 cp).toArray) ∧ ((w4.alloc (.cells Zp 56)).setRow w4.heap.size (pcells bp ap 0 cp).toArray).heap.size = w4.heap.size + 1 := by
    rw [World.setRow_alloc_new]
    exact ⟨Has.new _ _ _, (Below.refl _ _).alloc (Nat.le_refl _) _, by simp⟩
  have HNP := Lib.hid hnwp
  have HMD := Lib.hid hmd
  have HALL := Lib.hid hall
  have HSP := Lib.hid (SZP.out bp hmd.hash ap 0 cp)
  clear hnwp hmd hall HMK
  go_upto_region 6 with (refine wpList_store_row rfl 56 (.tmp 3) (.tmp 16) rfl w4.heap.size (pcells bp ap 0 cp).toArray rfl rfl 56 Zp (heap_alloc_new w4 _) HSP.out.1 HSP.out.2 (pcells_one _ _ _ _) ?_)
  generalize (w4.alloc (.cells Zp 56)).setRow w4.heap.size (pcells bp ap 0 cp).toArray = W5 at HNP ⊢
  have hk35 : Kept Z2 w3 W5 := HMD.out.kept.step (S' := fun _ => False) (Kept.of_below HNP.out.2.1) (fun j e => e.elim)
  have hbe5 : Below w.heap.size w W5 := HBE3.out.trans (hk35.below HBE3.out.size (fun j e => (HZ2.out j e).1))
  have hmk := mkProof_is K s0 Z2 W5 (HT.out.below hbe5 hlow) g [l5] (HMD.out.tr.quiet HNP.out.2.1) hlo K6 k6_is
  unfold arr at hmk
  rw [← ELK6.out] at hmk
  have HMK := Lib.hid hmk
  have HBE5 := Lib.hid hbe5
  have HK35 := Lib.hid hk35
  clear hmk hbe5 hk35
  go_wp2_with (refine wpList_build_run (by kernel_rfl) 28 _ rfl #[(0, .int .u8 6)] (by kernel_rfl) (.agg LK6) (HB6.out _) ?_)
  refine HMK.out.mono ?_
  rintro _ w6 ⟨bq, aq, nq, cq, rfl, hmd6⟩
  have hn1 : nq = 1 := by rw [← hmd6.nodes.len, nodes6]
  subst hn1
  have hnwq : Has ((w6.alloc (.cells Zp 56)).setRow w6.heap.size (pcells bq aq 1 cq).toArray) w6.heap.size 56 (pcells bq aq 1 cq).toArray ∧ Below w6.heap.size w6 ((w6.alloc (.cells Zp 56)).setRow w6.heap.size (pcells bq aq 1 cq).toArray) := by
    rw [World.setRow_alloc_new]
    exact ⟨Has.new _ _ _, (Below.refl _ _).alloc (Nat.le_refl _) _⟩
  have HNQ := Lib.hid hnwq
  have HMD6 := Lib.hid hmd6
  have HSQ := Lib.hid (SZP.out bq hmd6.hash aq 1 cq)
  clear hnwq hmd6 HMK
  go_upto_region 7 with (refine wpList_store_row rfl 56 (.tmp 4) (.tmp 19) rfl w6.heap.size (pcells bq aq 1 cq).toArray rfl rfl 56 Zp (heap_alloc_new w6 _) HSQ.out.1 HSQ.out.2 (pcells_one _ _ _ _) ?_)
  generalize (w6.alloc (.cells Zp 56)).setRow w6.heap.size (pcells bq aq 1 cq).toArray = W7 at HNQ ⊢
  have hk57 : Kept Z2 W5 W7 := HMD6.out.kept.step (S' := fun _ => False) (Kept.of_below HNQ.out.2) (fun j e => e.elim)
  have hk37 : Kept Z2 w3 W7 := HK35.out.trans hk57
  have hbe7 : Below w.heap.size w W7 := HBE3.out.trans (hk37.below HBE3.out.size (fun j e => (HZ2.out j e).1))
  have hp7 := HNP.out.1.kept hk57 (fun e => by have := (HZ2.out _ e).2.2.2; have := HMD.out.kept.size; omega)
  have hlf7 := HLF3.out.kept hk37 (fun e => (HZ2.out _ e).2.2.1 rfl)
  have hbox7 := cell_held hk37 HBOX3.out (fun e => (HZ2.out _ e).2.1 rfl)
  have htr7 : Tr K s0 Z2 W7 g [l5] := HMD6.out.tr.quiet HNQ.out.2
  have hq7 := HNQ.out.1
  obtain ⟨LP, hLP⟩ : ∃ L, L = pcells bp ap 0 cp := ⟨_, rfl⟩
  obtain ⟨LQ, hLQ⟩ : ∃ L, L = pcells bq aq 1 cq := ⟨_, rfl⟩
  obtain ⟨LF, hLF⟩ : ∃ L : List Value, L = [.slice (some ⟨w1.heap.size, 0, none⟩) 1 1, .int .u64 7] := ⟨_, rfl⟩
  obtain ⟨L0, hL0⟩ : ∃ L : Array Value, L = #[.slice none 0 0, .int .u64 0] := ⟨_, rfl⟩
  obtain ⟨R, hR⟩ : ∃ R, R = partNd K s0 256 [l5] := ⟨_, rfl⟩
  obtain ⟨LR, hLR⟩ : ∃ L, L = (ndV R).toArray := ⟨_, rfl⟩
  have hRh : IsHash R.h := by rw [hR]; exact part_hash K s0 HT.out.len _ _
  obtain ⟨HS, hHS⟩ : ∃ HS : World → Prop, HS = fun v => Kept Z2 W7 v ∧ Tr K s0 Z2 v g [l5] := ⟨_, rfl⟩
  have hbeV : ∀ v, HS v → Below w.heap.size w v := fun v h => by rw [hHS] at h; exact hbe7.trans (h.1.below hbe7.size (fun j e => (HZ2.out j e).1))
  have hstep : ∀ v v', HS v → Below v.heap.size v v' → HS v' := fun v v' h hb => by
    rw [hHS] at h ⊢
    exact ⟨h.1.step (S' := fun _ => False) (Kept.of_below hb) (fun j e => e.elim), h.2.quiet hb⟩
  have hroot : ∀ v, HS v → Calls Tryd.prog 37 #[.pointer (some ⟨g, 0, none⟩)] v fun e w' => e = .returned (.agg LR) ∧ HS w' := fun v h => by
    have hbv := hbeV v h
    rw [hHS] at h ⊢
    have := tr_root h.2 (HT.out.below hbv hlow) hlo
    rw [hLR, hR]
    exact this.mono fun e w' ⟨h1, h2, h3⟩ => ⟨h1, h.1.trans h3, h2⟩
  have hbytes : ∀ v, HS v → Bytes v v.heap.size (.slice (some ⟨w1.heap.size, 0, none⟩) [97].length 1) [97] := fun v h => by
    rw [hHS] at h
    exact HBY.out v (cell_held h.1 hbox7 (fun e => (HZ2.out _ e).2.1 rfl)) (by have h1 := h.1.size; have h2 := hk37.size; have h3 := HZ3.out; omega)
  have hnodesQ : ∀ v, HS v → NodesAt v aq 1 (nodesF K s0 (besF K s0 [l5] K6) 256) := fun v h => by
    rw [hHS] at h
    refine (HMD6.out.nodes.below HNQ.out.2).kept h.1 (fun A hA e => ?_)
    have h1 := HMD6.out.new (by decide) A hA
    have h2 := (HZ2.out _ e).2.2.2
    have h3 := HK35.out.size
    omega
  have hkey5 : pfRoot K s0 (bareB bp) K5 [] (leafNd K s0 [97] 7) = .ok R := by
    have := pf_tree (K := K) (s0 := s0) one_keyed (by decide) k5_is (bare := bareB bp) HMD.out.bits
    rw [nodes5] at this
    rw [hR]; exact this
  have hkey6 : pfRoot K s0 (bareB bq) K6 (nodesF K s0 (besF K s0 [l5] K6) 256) (leafNd K s0 [] 0) = .ok R := by
    have := pf_tree (K := K) (s0 := s0) one_keyed (by decide) k6_is (bare := bareB bq) HMD6.out.bits
    rw [hR]; exact this
  have hkey0 := pf_bare K s0 bp K5 HALL.out
  have hc1 : ∀ v, HS v → Calls Tryd.prog 31 #[.agg LP.toArray, .agg LR, .agg LK5, .agg LF.toArray] v fun e w' => e = .returned (.int .i64 0) ∧ HS w' := fun v h => by
    have := check_is K s0 v (HT.out.below (hbeV v h) hlow) bp HMD.out.hash ap 0 cp [] (nodes_nil v ap) (by decide) R hRh K5 k5_is (some ⟨w1.heap.size, 0, none⟩) [97] 1 7 (hbytes v h) (by decide) (by decide) (.ok R) hkey5.symm
    unfold arr leafV at this
    rw [chk_ok, if_pos (ndSame_iff.2 rfl)] at this
    rw [hLP, hLR, ELK5.out, hLF]
    exact this.mono fun e w' ⟨h1, h2⟩ => ⟨h1, hstep v w' h h2⟩
  have hc2 : ∀ v, HS v → Calls Tryd.prog 31 #[.agg LQ.toArray, .agg LR, .agg LK6, .agg L0] v fun e w' => e = .returned (.int .i64 0) ∧ HS w' := fun v h => by
    have := check_is K s0 v (HT.out.below (hbeV v h) hlow) bq HMD6.out.hash aq 1 cq _ (hnodesQ v h) (by decide) R hRh K6 k6_is none [] 0 0 (nil_bytes _ _) (by decide) (by decide) (.ok R) hkey6.symm
    unfold arr leafV at this
    rw [chk_ok, if_pos (ndSame_iff.2 rfl)] at this
    rw [hLQ, hLR, ELK6.out, hL0]
    exact this.mono fun e w' ⟨h1, h2⟩ => ⟨h1, hstep v w' h h2⟩
  have hc3 : ∀ v, HS v → Calls Tryd.prog 31 #[.agg LP.toArray, .agg LR, .agg LK5, .agg L0] v fun e w' => e = .returned (.int .i64 30) ∧ HS w' := fun v h => by
    have := check_is K s0 v (HT.out.below (hbeV v h) hlow) bp HMD.out.hash ap 0 cp [] (nodes_nil v ap) (by decide) R hRh K5 k5_is none [] 0 0 (nil_bytes _ _) (by decide) (by decide) (.ok (emptyNd K s0 256)) hkey0.symm
    unfold arr leafV at this
    rw [chk_ok, if_neg (fun e => by
      have h1 := congrArg Nd.s (ndSame_iff.1 e)
      rw [empty_sum, hR, part_one K s0 256 [l5] rfl] at h1
      exact absurd h1 (by decide))] at this
    rw [hLP, hLR, ELK5.out, hL0]
    exact this.mono fun e w' ⟨h1, h2⟩ => ⟨h1, hstep v w' h h2⟩
  have hS0 : HS W7.drew := by rw [hHS]; exact ⟨(Kept.refl _ _).drew, htr7.quiet (Below.refl _ _).drew⟩
  have hrp : ∀ v, HS v → v.rangeAt w4.heap.size 0 LP := fun v h => by
    rw [hHS] at h
    rw [hLP]
    exact (hp7.kept h.1 (fun e => by have := (HZ2.out _ e).2.2.2; have := HMD.out.kept.size; omega)).row0
  have hrq : ∀ v, HS v → v.rangeAt w6.heap.size 0 LQ := fun v h => by
    rw [hHS] at h
    rw [hLQ]
    exact (hq7.kept h.1 (fun e => by have := (HZ2.out _ e).2.2.2; have := HK35.out.size; have := HMD6.out.kept.size; omega)).row0
  have hrf : ∀ v, HS v → v.rangeAt (w1.heap.size + 1) 0 LF := fun v h => by
    rw [hHS] at h
    have := (hlf7.kept h.1 (fun e => (HZ2.out _ e).2.2.1 rfl))
    rw [hLF]
    exact Has.row0 (L := [.slice (some ⟨w1.heap.size, 0, none⟩) 1 1, .int .u64 7]) this
  have hx1 : ∀ v, HS v → v.cell? ⟨w4.heap.size, 32, none⟩ = some (.slice ap 0 cp) := fun v h => by
    have := hrp v h 32 _ (by rw [hLP]; exact pcells_row HMD.out.hash ap 0 cp)
    exact this
  have hx2 : ∀ v, HS v → v.cell? ⟨w4.heap.size, 0, none⟩ = some (.int .u8 255) := fun v h => by
    have := hrp v h 0 _ (by rw [hLP]; exact pcells_byte HMD.out.hash ap 0 cp 0 (by decide))
    rw [byte_all HMD.out.hash HALL.out] at this
    exact this
  have hx3 : ∀ v, HS v → v.cell? ⟨w6.heap.size, 32, none⟩ = some (.slice aq 1 cq) := fun v h => by
    have := hrq v h 32 _ (by rw [hLQ]; exact pcells_row HMD6.out.hash aq 1 cq)
    exact this
  have EL0 := Lib.hid hL0
  have HROOT := Lib.hid hroot
  have HCH1 := Lib.hid hc1
  have HCH2 := Lib.hid hc2
  have HCH3 := Lib.hid hc3
  have HRP := Lib.hid hrp
  have HRQ := Lib.hid hrq
  have HRF := Lib.hid hrf
  have HC1 := Lib.hid hx1
  have HC2 := Lib.hid hx2
  have HC3 := Lib.hid hx3
  have HBEV := Lib.hid hbeV
  have SZP1 := Lib.hid (show (Tryd.prog.info? 56).map (·.size) = some LP.length by rw [hLP, pcells_len HMD.out.hash]; kernel_rfl)
  have SZQ := Lib.hid (show (Tryd.prog.info? 56).map (·.size) = some LQ.length by rw [hLQ, pcells_len HMD6.out.hash]; kernel_rfl)
  have SZF1 := Lib.hid (show (Tryd.prog.info? 32).map (·.size) = some LF.length by rw [hLF]; kernel_rfl)
  obtain ⟨Bp, hBp⟩ : ∃ b, b = w4.heap.size := ⟨_, rfl⟩
  obtain ⟨Bq, hBq⟩ : ∃ b, b = w6.heap.size := ⟨_, rfl⟩
  obtain ⟨B2, hB2⟩ : ∃ b, b = w1.heap.size + 1 := ⟨_, rfl⟩
  rw [← hBp] at HRP HC1 HC2 ⊢
  rw [← hBq] at HRQ HC3 ⊢
  rw [← hB2] at HRF ⊢
  clear hBp hBq hB2 hroot hc1 hc2 hc3 hrp hrq hrf hx1 hx2 hx3 hbeV hstep hbytes hnodesQ hkey5 hkey6 hkey0 hHS hR hLR hRh hLP hLQ hLF hL0 htr7 hq7 hbox7 hlf7 hp7 hbe7 hk37 hk57 HSP HSQ HNP HNQ HMD HMD6 HALL HK35 HBE5 HBE3 HLF3 HBOX3 HZ2 HZ3 HBY HT EZPS SZP SZF HB5 HB6 HG
  refine wp_region_noPanic ?_
  refine wp_region_held_drew (S := HS) (by kernel_rfl) hS0 (fun hH0 => ?_)
  refine wpAnyH_take (i := 0) (v := ((.pointer (some ⟨Bp, 32, none⟩)))) rfl (by kernel_rfl) (by kernel_rfl) (by kernel_rfl) (fun _ _ _ h => h) (Or.inl ⟨by kernel_rfl, by intro w' hS; have q1 := HC1.out w' hS; have q2 := HC2.out w' hS; have q3 := HC3.out w' hS; go_simp⟩) hH0 ?_
  simp only [Act.put, List.getElem_toArray, List.getElem_cons_zero, List.getElem_cons_succ, List.setIfInBounds_toArray, List.set_cons_zero, List.set_cons_succ]
  refine wpAnyH_take (i := 1) (v := ((.slice ap 0 cp))) rfl (by kernel_rfl) (by kernel_rfl) (by kernel_rfl) (fun _ _ _ h => h) (Or.inl ⟨by kernel_rfl, by intro w' hS; have q1 := HC1.out w' hS; have q2 := HC2.out w' hS; have q3 := HC3.out w' hS; go_simp⟩) hH0 ?_
  simp only [Act.put, List.getElem_toArray, List.getElem_cons_zero, List.getElem_cons_succ, List.setIfInBounds_toArray, List.set_cons_zero, List.set_cons_succ]
  refine wpAnyH_take (i := 2) (v := ((.int .i64 0))) rfl (by kernel_rfl) (by kernel_rfl) (by kernel_rfl) (fun _ _ _ h => h) (Or.inl ⟨by kernel_rfl, by intro w' hS; have q1 := HC1.out w' hS; have q2 := HC2.out w' hS; have q3 := HC3.out w' hS; go_simp⟩) hH0 ?_
  simp only [Act.put, List.getElem_toArray, List.getElem_cons_zero, List.getElem_cons_succ, List.setIfInBounds_toArray, List.set_cons_zero, List.set_cons_succ]
  refine wpAnyH_take (i := 3) (v := ((.bool true))) rfl (by kernel_rfl) (by kernel_rfl) (by kernel_rfl) (fun _ _ _ h => h) (Or.inl ⟨by kernel_rfl, by intro w' hS; have q1 := HC1.out w' hS; have q2 := HC2.out w' hS; have q3 := HC3.out w' hS; go_simp⟩) hH0 ?_
  simp only [Act.put, List.getElem_toArray, List.getElem_cons_zero, List.getElem_cons_succ, List.setIfInBounds_toArray, List.set_cons_zero, List.set_cons_succ]
  refine wpAnyH_take (i := 4) (v := ((.bool true))) rfl (by kernel_rfl) (by kernel_rfl) (by kernel_rfl) (fun _ _ _ h => h) (Or.inl ⟨by kernel_rfl, by intro w' hS; have q1 := HC1.out w' hS; have q2 := HC2.out w' hS; have q3 := HC3.out w' hS; go_simp⟩) hH0 ?_
  simp only [Act.put, List.getElem_toArray, List.getElem_cons_zero, List.getElem_cons_succ, List.setIfInBounds_toArray, List.set_cons_zero, List.set_cons_succ]
  refine wpAnyH_take (i := 5) (v := ((.pointer (some ⟨Bp, 0, none⟩)))) rfl (by kernel_rfl) (by kernel_rfl) (by kernel_rfl) (fun _ _ _ h => h) (Or.inl ⟨by kernel_rfl, by intro w' hS; have q1 := HC1.out w' hS; have q2 := HC2.out w' hS; have q3 := HC3.out w' hS; go_simp⟩) hH0 ?_
  simp only [Act.put, List.getElem_toArray, List.getElem_cons_zero, List.getElem_cons_succ, List.setIfInBounds_toArray, List.set_cons_zero, List.set_cons_succ]
  refine wpAnyH_take (i := 6) (v := ((.pointer (some ⟨Bp, 0, none⟩)))) rfl (by kernel_rfl) (by kernel_rfl) (by kernel_rfl) (fun _ _ _ h => h) (Or.inl ⟨by kernel_rfl, by intro w' hS; have q1 := HC1.out w' hS; have q2 := HC2.out w' hS; have q3 := HC3.out w' hS; go_simp⟩) hH0 ?_
  simp only [Act.put, List.getElem_toArray, List.getElem_cons_zero, List.getElem_cons_succ, List.setIfInBounds_toArray, List.set_cons_zero, List.set_cons_succ]
  refine wpAnyH_take (i := 7) (v := ((.int .u8 255))) rfl (by kernel_rfl) (by kernel_rfl) (by kernel_rfl) (fun _ _ _ h => h) (Or.inl ⟨by kernel_rfl, by intro w' hS; have q1 := HC1.out w' hS; have q2 := HC2.out w' hS; have q3 := HC3.out w' hS; go_simp⟩) hH0 ?_
  simp only [Act.put, List.getElem_toArray, List.getElem_cons_zero, List.getElem_cons_succ, List.setIfInBounds_toArray, List.set_cons_zero, List.set_cons_succ]
  refine wpAnyH_take (i := 8) (v := ((.bool true))) rfl (by kernel_rfl) (by kernel_rfl) (by kernel_rfl) (fun _ _ _ h => h) (Or.inl ⟨by kernel_rfl, by intro w' hS; have q1 := HC1.out w' hS; have q2 := HC2.out w' hS; have q3 := HC3.out w' hS; go_simp⟩) hH0 ?_
  simp only [Act.put, List.getElem_toArray, List.getElem_cons_zero, List.getElem_cons_succ, List.setIfInBounds_toArray, List.set_cons_zero, List.set_cons_succ]
  refine wpAnyH_take (i := 9) (v := ((.bool true))) rfl (by kernel_rfl) (by kernel_rfl) (by kernel_rfl) (fun _ _ _ h => h) (Or.inl ⟨by kernel_rfl, by intro w' hS; have q1 := HC1.out w' hS; have q2 := HC2.out w' hS; have q3 := HC3.out w' hS; go_simp⟩) hH0 ?_
  simp only [Act.put, List.getElem_toArray, List.getElem_cons_zero, List.getElem_cons_succ, List.setIfInBounds_toArray, List.set_cons_zero, List.set_cons_succ]
  refine wpAnyH_take (i := 10) (v := ((.bool true))) rfl (by kernel_rfl) (by kernel_rfl) (by kernel_rfl) (fun _ _ _ h => h) (Or.inl ⟨by kernel_rfl, by intro w' hS; have q1 := HC1.out w' hS; have q2 := HC2.out w' hS; have q3 := HC3.out w' hS; go_simp⟩) hH0 ?_
  simp only [Act.put, List.getElem_toArray, List.getElem_cons_zero, List.getElem_cons_succ, List.setIfInBounds_toArray, List.set_cons_zero, List.set_cons_succ]
  refine wpAnyH_take (i := 11) (v := ((.pointer (some ⟨Bq, 32, none⟩)))) rfl (by kernel_rfl) (by kernel_rfl) (by kernel_rfl) (fun _ _ _ h => h) (Or.inl ⟨by kernel_rfl, by intro w' hS; have q1 := HC1.out w' hS; have q2 := HC2.out w' hS; have q3 := HC3.out w' hS; go_simp⟩) hH0 ?_
  simp only [Act.put, List.getElem_toArray, List.getElem_cons_zero, List.getElem_cons_succ, List.setIfInBounds_toArray, List.set_cons_zero, List.set_cons_succ]
  refine wpAnyH_take (i := 12) (v := ((.slice aq 1 cq))) rfl (by kernel_rfl) (by kernel_rfl) (by kernel_rfl) (fun _ _ _ h => h) (Or.inl ⟨by kernel_rfl, by intro w' hS; have q1 := HC1.out w' hS; have q2 := HC2.out w' hS; have q3 := HC3.out w' hS; go_simp⟩) hH0 ?_
  simp only [Act.put, List.getElem_toArray, List.getElem_cons_zero, List.getElem_cons_succ, List.setIfInBounds_toArray, List.set_cons_zero, List.set_cons_succ]
  refine wpAnyH_take (i := 13) (v := ((.int .i64 1))) rfl (by kernel_rfl) (by kernel_rfl) (by kernel_rfl) (fun _ _ _ h => h) (Or.inl ⟨by kernel_rfl, by intro w' hS; have q1 := HC1.out w' hS; have q2 := HC2.out w' hS; have q3 := HC3.out w' hS; go_simp⟩) hH0 ?_
  simp only [Act.put, List.getElem_toArray, List.getElem_cons_zero, List.getElem_cons_succ, List.setIfInBounds_toArray, List.set_cons_zero, List.set_cons_succ]
  refine wpAnyH_take (i := 14) (v := ((.bool true))) rfl (by kernel_rfl) (by kernel_rfl) (by kernel_rfl) (fun _ _ _ h => h) (Or.inl ⟨by kernel_rfl, by intro w' hS; have q1 := HC1.out w' hS; have q2 := HC2.out w' hS; have q3 := HC3.out w' hS; go_simp⟩) hH0 ?_
  simp only [Act.put, List.getElem_toArray, List.getElem_cons_zero, List.getElem_cons_succ, List.setIfInBounds_toArray, List.set_cons_zero, List.set_cons_succ]
  refine wpAnyH_take (i := 15) (v := ((.bool true))) rfl (by kernel_rfl) (by kernel_rfl) (by kernel_rfl) (fun _ _ _ h => h) (Or.inl ⟨by kernel_rfl, by intro w' hS; have q1 := HC1.out w' hS; have q2 := HC2.out w' hS; have q3 := HC3.out w' hS; go_simp⟩) hH0 ?_
  simp only [Act.put, List.getElem_toArray, List.getElem_cons_zero, List.getElem_cons_succ, List.setIfInBounds_toArray, List.set_cons_zero, List.set_cons_succ]
  refine wpAnyH_take (i := 16) (v := ((.bool true))) rfl (by kernel_rfl) (by kernel_rfl) (by kernel_rfl) (fun _ _ _ h => h) (Or.inl ⟨by kernel_rfl, by intro w' hS; have q1 := HC1.out w' hS; have q2 := HC2.out w' hS; have q3 := HC3.out w' hS; go_simp⟩) hH0 ?_
  simp only [Act.put, List.getElem_toArray, List.getElem_cons_zero, List.getElem_cons_succ, List.setIfInBounds_toArray, List.set_cons_zero, List.set_cons_succ]
  refine wpAnyH_take (i := 17) (v := (.agg LP.toArray)) rfl (by kernel_rfl) (by kernel_rfl) (by kernel_rfl) (fun _ _ _ h => h) (yieldsIf_load_mid (by kernel_rfl) 56 (.tmp 3) rfl Bp 0 rfl LP _ (fun w' h => HRP.out _ h) Tryd.underlying56 rfl SZP1.out) hH0 ?_
  simp only [Act.put, List.getElem_toArray, List.getElem_cons_zero, List.getElem_cons_succ, List.setIfInBounds_toArray, List.set_cons_zero, List.set_cons_succ]
  refine wpAnyH_take (i := 18) (v := ((.pointer (some ⟨g, 0, none⟩)))) rfl (by kernel_rfl) (by kernel_rfl) (by kernel_rfl) (fun _ _ _ h => h) (Or.inl ⟨by kernel_rfl, by intro w' hS; have q1 := HC1.out w' hS; have q2 := HC2.out w' hS; have q3 := HC3.out w' hS; go_simp⟩) hH0 ?_
  simp only [Act.put, List.getElem_toArray, List.getElem_cons_zero, List.getElem_cons_succ, List.setIfInBounds_toArray, List.set_cons_zero, List.set_cons_succ]
  refine wpAnyH_take (i := 20) (v := ((.agg LK5))) rfl (by kernel_rfl) (by kernel_rfl) (by kernel_rfl) (fun _ _ _ h => h) (Or.inl ⟨by kernel_rfl, by intro w' hS; have q1 := HC1.out w' hS; have q2 := HC2.out w' hS; have q3 := HC3.out w' hS; go_simp; (rw [ELK5.out]; try rfl)⟩) hH0 ?_
  simp only [Act.put, List.getElem_toArray, List.getElem_cons_zero, List.getElem_cons_succ, List.setIfInBounds_toArray, List.set_cons_zero, List.set_cons_succ]
  refine wpAnyH_take (i := 21) (v := (.agg LF.toArray)) rfl (by kernel_rfl) (by kernel_rfl) (by kernel_rfl) (fun _ _ _ h => h) (yieldsIf_load_mid (by kernel_rfl) 32 (.tmp 2) rfl B2 0 rfl LF _ (fun w' h => HRF.out _ h) Tryd.underlying32 rfl SZF1.out) hH0 ?_
  simp only [Act.put, List.getElem_toArray, List.getElem_cons_zero, List.getElem_cons_succ, List.setIfInBounds_toArray, List.set_cons_zero, List.set_cons_succ]
  refine wpAnyH_ready (rs := [19]) (by kernel_rfl) (by simp) ?_
  refine AllReadyH.cons rfl (fun K hK => ?_) AllReadyH.nil
  go_simp
  refine (HROOT.out _ hH0).mono ?_
  rintro _ x19 ⟨rfl, hx19⟩
  refine Shut.out hK _ _ hx19 (fun hH1 => ?_)
  clear hK K
  try simp only [Act.put, List.getElem_toArray, List.getElem_cons_zero, List.getElem_cons_succ, List.setIfInBounds_toArray, List.set_cons_zero, List.set_cons_succ]
  refine wpAnyH_ready (rs := [22]) (by kernel_rfl) (by simp) ?_
  refine AllReadyH.cons rfl (fun K hK => ?_) AllReadyH.nil
  go_simp
  refine (HCH1.out _ hH1).mono ?_
  rintro _ x22 ⟨rfl, hx22⟩
  refine Shut.out hK _ _ hx22 (fun hH2 => ?_)
  clear hK K
  try simp only [Act.put, List.getElem_toArray, List.getElem_cons_zero, List.getElem_cons_succ, List.setIfInBounds_toArray, List.set_cons_zero, List.set_cons_succ]
  refine wpAnyH_take (i := 23) (v := ((.bool true))) rfl (by kernel_rfl) (by kernel_rfl) (by kernel_rfl) (fun _ _ _ h => h) (Or.inl ⟨by kernel_rfl, by intro w' hS; have q1 := HC1.out w' hS; have q2 := HC2.out w' hS; have q3 := HC3.out w' hS; go_simp⟩) hH2 ?_
  simp only [Act.put, List.getElem_toArray, List.getElem_cons_zero, List.getElem_cons_succ, List.setIfInBounds_toArray, List.set_cons_zero, List.set_cons_succ]
  refine wpAnyH_take (i := 24) (v := ((.bool true))) rfl (by kernel_rfl) (by kernel_rfl) (by kernel_rfl) (fun _ _ _ h => h) (Or.inl ⟨by kernel_rfl, by intro w' hS; have q1 := HC1.out w' hS; have q2 := HC2.out w' hS; have q3 := HC3.out w' hS; go_simp⟩) hH2 ?_
  simp only [Act.put, List.getElem_toArray, List.getElem_cons_zero, List.getElem_cons_succ, List.setIfInBounds_toArray, List.set_cons_zero, List.set_cons_succ]
  refine wpAnyH_take (i := 25) (v := ((.bool true))) rfl (by kernel_rfl) (by kernel_rfl) (by kernel_rfl) (fun _ _ _ h => h) (Or.inl ⟨by kernel_rfl, by intro w' hS; have q1 := HC1.out w' hS; have q2 := HC2.out w' hS; have q3 := HC3.out w' hS; go_simp⟩) hH2 ?_
  simp only [Act.put, List.getElem_toArray, List.getElem_cons_zero, List.getElem_cons_succ, List.setIfInBounds_toArray, List.set_cons_zero, List.set_cons_succ]
  refine wpAnyH_take (i := 26) (v := (.agg LQ.toArray)) rfl (by kernel_rfl) (by kernel_rfl) (by kernel_rfl) (fun _ _ _ h => h) (yieldsIf_load_mid (by kernel_rfl) 56 (.tmp 4) rfl Bq 0 rfl LQ _ (fun w' h => HRQ.out _ h) Tryd.underlying56 rfl SZQ.out) hH2 ?_
  simp only [Act.put, List.getElem_toArray, List.getElem_cons_zero, List.getElem_cons_succ, List.setIfInBounds_toArray, List.set_cons_zero, List.set_cons_succ]
  refine wpAnyH_take (i := 27) (v := ((.pointer (some ⟨g, 0, none⟩)))) rfl (by kernel_rfl) (by kernel_rfl) (by kernel_rfl) (fun _ _ _ h => h) (Or.inl ⟨by kernel_rfl, by intro w' hS; have q1 := HC1.out w' hS; have q2 := HC2.out w' hS; have q3 := HC3.out w' hS; go_simp⟩) hH2 ?_
  simp only [Act.put, List.getElem_toArray, List.getElem_cons_zero, List.getElem_cons_succ, List.setIfInBounds_toArray, List.set_cons_zero, List.set_cons_succ]
  refine wpAnyH_take (i := 29) (v := ((.agg LK6))) rfl (by kernel_rfl) (by kernel_rfl) (by kernel_rfl) (fun _ _ _ h => h) (Or.inl ⟨by kernel_rfl, by intro w' hS; have q1 := HC1.out w' hS; have q2 := HC2.out w' hS; have q3 := HC3.out w' hS; go_simp; (rw [ELK6.out]; try rfl)⟩) hH2 ?_
  simp only [Act.put, List.getElem_toArray, List.getElem_cons_zero, List.getElem_cons_succ, List.setIfInBounds_toArray, List.set_cons_zero, List.set_cons_succ]
  refine wpAnyH_take (i := 30) (v := ((.agg L0))) rfl (by kernel_rfl) (by kernel_rfl) (by kernel_rfl) (fun _ _ _ h => h) (Or.inl ⟨by kernel_rfl, by intro w' hS; have q1 := HC1.out w' hS; have q2 := HC2.out w' hS; have q3 := HC3.out w' hS; go_simp; (rw [EL0.out]; try rfl)⟩) hH2 ?_
  simp only [Act.put, List.getElem_toArray, List.getElem_cons_zero, List.getElem_cons_succ, List.setIfInBounds_toArray, List.set_cons_zero, List.set_cons_succ]
  refine wpAnyH_ready (rs := [28]) (by kernel_rfl) (by simp) ?_
  refine AllReadyH.cons rfl (fun K hK => ?_) AllReadyH.nil
  go_simp
  refine (HROOT.out _ hH2).mono ?_
  rintro _ x28 ⟨rfl, hx28⟩
  refine Shut.out hK _ _ hx28 (fun hH3 => ?_)
  clear hK K
  try simp only [Act.put, List.getElem_toArray, List.getElem_cons_zero, List.getElem_cons_succ, List.setIfInBounds_toArray, List.set_cons_zero, List.set_cons_succ]
  refine wpAnyH_ready (rs := [31]) (by kernel_rfl) (by simp) ?_
  refine AllReadyH.cons rfl (fun K hK => ?_) AllReadyH.nil
  go_simp
  refine (HCH2.out _ hH3).mono ?_
  rintro _ x31 ⟨rfl, hx31⟩
  refine Shut.out hK _ _ hx31 (fun hH4 => ?_)
  clear hK K
  try simp only [Act.put, List.getElem_toArray, List.getElem_cons_zero, List.getElem_cons_succ, List.setIfInBounds_toArray, List.set_cons_zero, List.set_cons_succ]
  refine wpAnyH_take (i := 32) (v := ((.bool true))) rfl (by kernel_rfl) (by kernel_rfl) (by kernel_rfl) (fun _ _ _ h => h) (Or.inl ⟨by kernel_rfl, by intro w' hS; have q1 := HC1.out w' hS; have q2 := HC2.out w' hS; have q3 := HC3.out w' hS; go_simp⟩) hH4 ?_
  simp only [Act.put, List.getElem_toArray, List.getElem_cons_zero, List.getElem_cons_succ, List.setIfInBounds_toArray, List.set_cons_zero, List.set_cons_succ]
  refine wpAnyH_take (i := 33) (v := ((.bool true))) rfl (by kernel_rfl) (by kernel_rfl) (by kernel_rfl) (fun _ _ _ h => h) (Or.inl ⟨by kernel_rfl, by intro w' hS; have q1 := HC1.out w' hS; have q2 := HC2.out w' hS; have q3 := HC3.out w' hS; go_simp⟩) hH4 ?_
  simp only [Act.put, List.getElem_toArray, List.getElem_cons_zero, List.getElem_cons_succ, List.setIfInBounds_toArray, List.set_cons_zero, List.set_cons_succ]
  refine wpAnyH_take (i := 34) (v := ((.bool true))) rfl (by kernel_rfl) (by kernel_rfl) (by kernel_rfl) (fun _ _ _ h => h) (Or.inl ⟨by kernel_rfl, by intro w' hS; have q1 := HC1.out w' hS; have q2 := HC2.out w' hS; have q3 := HC3.out w' hS; go_simp⟩) hH4 ?_
  simp only [Act.put, List.getElem_toArray, List.getElem_cons_zero, List.getElem_cons_succ, List.setIfInBounds_toArray, List.set_cons_zero, List.set_cons_succ]
  refine wpAnyH_take (i := 35) (v := (.agg LP.toArray)) rfl (by kernel_rfl) (by kernel_rfl) (by kernel_rfl) (fun _ _ _ h => h) (yieldsIf_load_mid (by kernel_rfl) 56 (.tmp 3) rfl Bp 0 rfl LP _ (fun w' h => HRP.out _ h) Tryd.underlying56 rfl SZP1.out) hH4 ?_
  simp only [Act.put, List.getElem_toArray, List.getElem_cons_zero, List.getElem_cons_succ, List.setIfInBounds_toArray, List.set_cons_zero, List.set_cons_succ]
  refine wpAnyH_take (i := 36) (v := ((.pointer (some ⟨g, 0, none⟩)))) rfl (by kernel_rfl) (by kernel_rfl) (by kernel_rfl) (fun _ _ _ h => h) (Or.inl ⟨by kernel_rfl, by intro w' hS; have q1 := HC1.out w' hS; have q2 := HC2.out w' hS; have q3 := HC3.out w' hS; go_simp⟩) hH4 ?_
  simp only [Act.put, List.getElem_toArray, List.getElem_cons_zero, List.getElem_cons_succ, List.setIfInBounds_toArray, List.set_cons_zero, List.set_cons_succ]
  refine wpAnyH_take (i := 38) (v := ((.agg LK5))) rfl (by kernel_rfl) (by kernel_rfl) (by kernel_rfl) (fun _ _ _ h => h) (Or.inl ⟨by kernel_rfl, by intro w' hS; have q1 := HC1.out w' hS; have q2 := HC2.out w' hS; have q3 := HC3.out w' hS; go_simp; (rw [ELK5.out]; try rfl)⟩) hH4 ?_
  simp only [Act.put, List.getElem_toArray, List.getElem_cons_zero, List.getElem_cons_succ, List.setIfInBounds_toArray, List.set_cons_zero, List.set_cons_succ]
  refine wpAnyH_take (i := 39) (v := ((.agg L0))) rfl (by kernel_rfl) (by kernel_rfl) (by kernel_rfl) (fun _ _ _ h => h) (Or.inl ⟨by kernel_rfl, by intro w' hS; have q1 := HC1.out w' hS; have q2 := HC2.out w' hS; have q3 := HC3.out w' hS; go_simp; (rw [EL0.out]; try rfl)⟩) hH4 ?_
  simp only [Act.put, List.getElem_toArray, List.getElem_cons_zero, List.getElem_cons_succ, List.setIfInBounds_toArray, List.set_cons_zero, List.set_cons_succ]
  refine wpAnyH_ready (rs := [37]) (by kernel_rfl) (by simp) ?_
  refine AllReadyH.cons rfl (fun K hK => ?_) AllReadyH.nil
  go_simp
  refine (HROOT.out _ hH4).mono ?_
  rintro _ x37 ⟨rfl, hx37⟩
  refine Shut.out hK _ _ hx37 (fun hH5 => ?_)
  clear hK K
  try simp only [Act.put, List.getElem_toArray, List.getElem_cons_zero, List.getElem_cons_succ, List.setIfInBounds_toArray, List.set_cons_zero, List.set_cons_succ]
  refine wpAnyH_ready (rs := [40]) (by kernel_rfl) (by simp) ?_
  refine AllReadyH.cons rfl (fun K hK => ?_) AllReadyH.nil
  go_simp
  refine (HCH3.out _ hH5).mono ?_
  rintro _ x40 ⟨rfl, hx40⟩
  refine Shut.out hK _ _ hx40 (fun hH6 => ?_)
  clear hK K
  try simp only [Act.put, List.getElem_toArray, List.getElem_cons_zero, List.getElem_cons_succ, List.setIfInBounds_toArray, List.set_cons_zero, List.set_cons_succ]
  refine wpAnyH_take (i := 41) (v := ((.bool true))) rfl (by kernel_rfl) (by kernel_rfl) (by kernel_rfl) (fun _ _ _ h => h) (Or.inl ⟨by kernel_rfl, by intro w' hS; have q1 := HC1.out w' hS; have q2 := HC2.out w' hS; have q3 := HC3.out w' hS; go_simp⟩) hH6 ?_
  simp only [Act.put, List.getElem_toArray, List.getElem_cons_zero, List.getElem_cons_succ, List.setIfInBounds_toArray, List.set_cons_zero, List.set_cons_succ]
  refine wpAnyH_take (i := 42) (v := ((.bool true))) rfl (by kernel_rfl) (by kernel_rfl) (by kernel_rfl) (fun _ _ _ h => h) (Or.inl ⟨by kernel_rfl, by intro w' hS; have q1 := HC1.out w' hS; have q2 := HC2.out w' hS; have q3 := HC3.out w' hS; go_simp⟩) hH6 ?_
  simp only [Act.put, List.getElem_toArray, List.getElem_cons_zero, List.getElem_cons_succ, List.setIfInBounds_toArray, List.set_cons_zero, List.set_cons_succ]
  refine wpAnyH_take (i := 43) (v := ((.bool true))) rfl (by kernel_rfl) (by kernel_rfl) (by kernel_rfl) (fun _ _ _ h => h) (Or.inl ⟨by kernel_rfl, by intro w' hS; have q1 := HC1.out w' hS; have q2 := HC2.out w' hS; have q3 := HC3.out w' hS; go_simp⟩) hH6 ?_
  simp only [Act.put, List.getElem_toArray, List.getElem_cons_zero, List.getElem_cons_succ, List.setIfInBounds_toArray, List.set_cons_zero, List.set_cons_succ]
  refine wpAnyH_done (by kernel_rfl) ?_ _
  refine NoPanic.normal ?_
  have HFB := Lib.hid (HBEV.out _ hx40)
  clear hx19 hx22 hx28 hx31 hx37 hx40 hS0
  go_wp2_with fail
  go_ret
  exact ⟨rfl, HFB.out⟩
end Go.Proofs.YtngmpcmeebcdmaaDoor
