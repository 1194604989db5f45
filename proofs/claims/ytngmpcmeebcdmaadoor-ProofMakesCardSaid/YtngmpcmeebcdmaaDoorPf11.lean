/- The walk of ProofMakes. -/
import Derived.Test.YtngmpcmeebcdmaaDoorPf10
namespace Go.Proofs.YtngmpcmeebcdmaaDoor
set_option linter.unusedVariables false
set_option linter.unusedSimpArgs false
open Go.ChangeShapes Go.WideShapes Go.ChangeAt Go.RowKit Go.Maps

set_option maxRecDepth 100000 in
set_option maxHeartbeats 8000000 in
theorem makes_walk (K s0 : List Wd) (w : World) (hT : Tabs K s0 w) (A : Option Addr) (N c : Nat) (ps : List PutT) (hps : PutsAt w A N ps) (key : List Nat) (hkey : IsHash key) :
    Calls Tryd.prog 6 #[.slice A N c, arr key] w fun e w' => e = .returned (.bool true) ∧ Below w.heap.size w w' := by
  obtain ⟨Z, hz, hZs, hZn, -⟩ := zero_node
  obtain ⟨Zp, hzp, hZps, hZpn, -⟩ := zero_proof
  have hlow := hT.low
  have hfew := hps.few
  obtain ⟨CK, hCK⟩ : ∃ L, L = bcells key := ⟨_, rfl⟩
  have lk : CK.length = 32 := by rw [hCK, bcells_length, hkey.1]
  have SZK := Lib.hid (show (Tryd.prog.info? 28).map (·.size) = some CK.toArray.size by rw [List.size_toArray, lk]; kernel_rfl)
  have SZKL := Lib.hid (show (Tryd.prog.info? 28).map (·.size) = some CK.length by rw [lk]; kernel_rfl)
  have SZN := Lib.hid (show ∀ x : Nd, IsHash x.h → (Tryd.prog.info? 58).map (·.size) = some (ndV x).toArray.size from fun x hx => by rw [List.size_toArray, ndV_len hx]; kernel_rfl)
  have SZL := Lib.hid (show ∀ x : Nd, IsHash x.h → (Tryd.prog.info? 58).map (·.size) = some (ndV x).length from fun x hx => by rw [ndV_len hx]; kernel_rfl)
  have HZN := Lib.hid (show ∀ x : Nd, IsHash x.h → Z.size = (ndV x).toArray.size from fun x hx => by rw [hZs, List.size_toArray, ndV_len hx])
  have HNN := Lib.hid (show ∀ x y : Nd, IsHash x.h → IsHash y.h → (ndV x).toArray.size = (ndV y).toArray.size from fun x y hx hy => by rw [List.size_toArray, List.size_toArray, ndV_len hx, ndV_len hy])
  have SZP := Lib.hid (show ∀ (bb : List Nat), IsHash bb → ∀ (a : Option Addr) (n c : Nat), (Tryd.prog.info? 56).map (·.size) = some (pcells bb a n c).toArray.size ∧ Zp.size = (pcells bb a n c).toArray.size ∧ (Tryd.prog.info? 56).map (·.size) = some (pcells bb a n c).length from fun bb hb a n c => by rw [List.size_toArray, pcells_len hb, hZps]; exact ⟨by kernel_rfl, rfl, by kernel_rfl⟩)
  have HEH := Lib.hid (show ∀ h, IsHash (emptyNd K s0 h).h from fun h => empty_hash K s0 hT.len h)
  have hh3 := Has.new w 28 CK.toArray
  have hb1 := (Below.refl w.heap.size w).alloc (Nat.le_refl _) (.cells CK.toArray 28)
  have HT := Lib.hid hT
  have HPS := Lib.hid hps
  have HKEY := Lib.hid hkey
  have ECK := Lib.hid hCK
  unfold arr
  rw [← hCK]
  clear hT hps hkey hCK lk hZs hZps
  go_enter Tryd.func6, Tryd.ntmps6
  go_upto_region 1 with (fail)
  generalize w.alloc (.cells CK.toArray 28) = W1 at hh3 hb1 ⊢
  obtain ⟨B3, hB3⟩ : ∃ b, b = w.heap.size := ⟨_, rfl⟩
  rw [← hB3] at hh3
  rw [← hB3]
  have HB1 := Lib.hid hb1
  have HH3 := Lib.hid hh3
  clear hb1 hh3 hB3
  go_wp2_with fail
  refine (headP_is K s0 W1 (HT.out.below HB1.out hlow)).mono ?_
  rintro _ w2 ⟨rfl, hb2⟩
  have HB2 := Lib.hid (HB1.out.trans (hb2.mono HB1.out.size))
  have HK2 := Lib.hid (HH3.out.below hb2 HH3.out.lt)
  clear hb2 HH3
  by_cases h40 : 40 < N
  · have h40' : (40 : Int) < (N : Int) := by omega
    go_wp2
    go_ret
    exact ⟨rfl, HB2.out⟩
  have h40' : ¬ (40 : Int) < (N : Int) := by omega
  go_wp2_with fail
  refine (plant_is K s0 HT.out.len w2 A N c ps (HPS.out.below HB2.out)).mono ?_
  rintro _ w3 ⟨g, T, rfl, htr, hb3, hg⟩
  have hk3 := HK2.out.below hb3 HK2.out.lt
  have hk3lt := HK2.out.lt
  obtain ⟨Z3, hZ3⟩ : ∃ Z3 : Nat → Prop, Z3 = fun j => w2.heap.size ≤ j ∧ j < w3.heap.size := ⟨_, rfl⟩
  rw [← hZ3] at htr
  have hz3 : ∀ j, Z3 j → w2.heap.size ≤ j ∧ j < w3.heap.size := fun j h => by rw [hZ3] at h; exact h
  have hbe3 : Below w.heap.size w w3 := HB2.out.trans (hb3.mono HB2.out.size)
  have hlo : 2 + 1 ≤ g := by have := HB2.out.size; omega
  have HTR3 := Lib.hid htr
  have HBE3 := Lib.hid hbe3
  have HK3 := Lib.hid hk3
  have HZ3 := Lib.hid hz3
  have HKLT := Lib.hid hk3lt
  have HPL := Lib.hid (show w2.heap.size ≤ w3.heap.size ∧ w.heap.size ≤ w2.heap.size from ⟨hb3.size, HB2.out.size⟩)
  clear htr hb3 hg hk3 hk3lt hZ3 hz3 hbe3 HB2 HK2 HB1 HPS h40 h40'
  have hget := tr_get HTR3.out key HKEY.out
  unfold arr at hget
  obtain ⟨ws, hws⟩ : ∃ x, x = wasS T key := ⟨_, rfl⟩
  obtain ⟨kn, hkn⟩ : ∃ x, x = (findT T key).isSome := ⟨_, rfl⟩
  rw [← ECK.out, ← hws, ← hkn] at hget
  have HGET := Lib.hid hget
  have EWS := Lib.hid hws
  clear hget hws hkn
  go_wp2_with (refine wpList_load_row rfl 28 (.tmp 3) rfl B3 rfl 28 CK.toArray (0, 0) _ HK3.out Tryd.underlying28 rfl SZK.out ?_)
  refine HGET.out.mono ?_
  rintro _ w4 ⟨v', rfl, hrow, hb4⟩
  obtain ⟨av, cv, hv', -⟩ := id hrow
  obtain ⟨nv, hnv⟩ : ∃ x, x = (valT T key).length := ⟨_, rfl⟩
  rw [← hnv] at hv'
  subst hv'
  unfold leafV
  have hnw : Below w3.heap.size w3 ((w4.alloc (.cells #[.slice none 0 0, .int .u64 0] 32)).setRow w4.heap.size #[.slice av nv cv, .int .u64 (ws : Int)]) ∧
      Has ((w4.alloc (.cells #[.slice none 0 0, .int .u64 0] 32)).setRow w4.heap.size #[.slice av nv cv, .int .u64 (ws : Int)]) w4.heap.size 32 #[.slice av nv cv, .int .u64 (ws : Int)] ∧
      RowB (fun j => w3.heap.size ≤ j ∧ j < w4.heap.size) ((w4.alloc (.cells #[.slice none 0 0, .int .u64 0] 32)).setRow w4.heap.size #[.slice av nv cv, .int .u64 (ws : Int)]) (.slice av nv cv) (valT T key) := by
    rw [World.setRow_alloc_new]
    exact ⟨hb4.alloc hb4.size _, Has.new w4 _ _, (hrow.zone (S' := fun j => w3.heap.size ≤ j ∧ j < w4.heap.size) (fun j h1 h2 => ⟨h2, h1⟩)).kept (Z := fun _ => False) ((Kept.refl _ _).alloc _) (fun _ _ _ h => h)⟩
  have hg6 : w3.heap.size ≤ w4.heap.size := hb4.size
  have SZ2 := Lib.hid (show (Tryd.prog.info? 32).map (·.size) = some (#[Value.slice av nv cv, .int .u64 (ws : Int)] : Array Value).size by kernel_rfl)
  have ONE2 := Lib.hid (show (#[Value.slice av nv cv, .int .u64 (ws : Int)] : Array Value).all (·.oneCell') = true by kernel_rfl)
  have HNW := Lib.hid hnw
  have ENV := Lib.hid hnv
  have HG6 := Lib.hid hg6
  clear hrow hb4 hnv hnw hg6 HGET
  go_upto_region 7 with (refine wpList_store_row rfl 32 (.tmp 6) (.tmp 25) rfl w4.heap.size #[.slice av nv cv, .int .u64 (ws : Int)] rfl rfl 32 #[.slice none 0 0, .int .u64 0] (heap_alloc_new w4 _) SZ2.out rfl ONE2.out ?_)
  generalize (w4.alloc (.cells #[.slice none 0 0, .int .u64 0] 32)).setRow w4.heap.size #[.slice av nv cv, .int .u64 (ws : Int)] = W5 at HNW ⊢
  generalize w4.heap.size = B6 at HNW HG6 ⊢
  have hbe5 : Below w.heap.size w W5 := HBE3.out.trans (HNW.out.1.mono HBE3.out.size)
  have hmk := make_is K s0 Z3 W5 (HT.out.below hbe5 hlow) g T (HTR3.out.quiet HNW.out.1) hlo key HKEY.out
  unfold arr at hmk
  rw [← ECK.out] at hmk
  have HMK := Lib.hid hmk
  have HBE5 := Lib.hid hbe5
  have HK5 := Lib.hid (HK3.out.below HNW.out.1 HK3.out.lt)
  clear hmk hbe5
  go_wp2_with (refine wpList_load_row rfl 28 (.tmp 3) rfl B3 rfl 28 CK.toArray (0, 0) _ HK5.out Tryd.underlying28 rfl SZK.out ?_)
  refine HMK.out.mono ?_
  rintro _ w6 ⟨bp, ap, np, cp, rfl, hmd⟩
  have hnwp : Has ((w6.alloc (.cells Zp 56)).setRow w6.heap.size (pcells bp ap np cp).toArray) w6.heap.size 56 (pcells bp ap np cp).toArray ∧ Below w6.heap.size w6 ((w6.alloc (.cells Zp 56)).setRow w6.heap.size (pcells bp ap np cp).toArray) := by
    rw [World.setRow_alloc_new]
    exact ⟨Has.new _ _ _, (Below.refl _ _).alloc (Nat.le_refl _) _⟩
  have HNP := Lib.hid hnwp
  have HMD := Lib.hid hmd
  have HSP := Lib.hid (SZP.out bp hmd.hash ap np cp)
  clear hnwp hmd HMK HK3
  go_upto_region 8 with (refine wpList_store_row rfl 56 (.tmp 8) (.tmp 29) rfl w6.heap.size (pcells bp ap np cp).toArray rfl rfl 56 Zp (heap_alloc_new w6 _) HSP.out.1 HSP.out.2.1 (pcells_one _ _ _ _) ?_)
  generalize (w6.alloc (.cells Zp 56)).setRow w6.heap.size (pcells bp ap np cp).toArray = W7 at HNP ⊢
  have hk57 : Kept Z3 W5 W7 := HMD.out.kept.step (S' := fun _ => False) (Kept.of_below HNP.out.2) (fun j e => e.elim)
  have hbe7 : Below w.heap.size w W7 := HBE5.out.trans (hk57.below HBE5.out.size (fun j e => by have := (HZ3.out j e).1; have := HPL.out; omega))
  have HK57 := Lib.hid hk57
  have HBE7 := Lib.hid hbe7
  clear hk57 hbe7
  go_wp2_with fail
  refine (empty_in K s0 _ (HT.out.below HBE7.out hlow) 0 (by decide)).mono ?_
  rintro _ w8 ⟨rfl, hb8⟩
  have hnwe : Has ((w8.alloc (.cells Z 58)).setRow w8.heap.size (ndV (emptyNd K s0 0)).toArray) w8.heap.size 58 (ndV (emptyNd K s0 0)).toArray ∧ Below W7.heap.size W7 ((w8.alloc (.cells Z 58)).setRow w8.heap.size (ndV (emptyNd K s0 0)).toArray) := by
    rw [World.setRow_alloc_new]
    exact ⟨Has.new _ _ _, hb8.alloc hb8.size _⟩
  have hb8s := hb8.size
  have HNE := Lib.hid hnwe
  have HB8S := Lib.hid hb8s
  clear hb8 hnwe hb8s
  go_upto_region 10 with (refine wpList_store_row rfl 58 (.tmp 10) (.tmp 30) rfl w8.heap.size (ndV (emptyNd K s0 0)).toArray rfl rfl 58 Z (heap_alloc_new w8 _) (SZN.out _ (HEH.out 0)) (HZN.out _ (HEH.out 0)) (ndV_one _) ?_)
  generalize (w8.alloc (.cells Z 58)).setRow w8.heap.size (ndV (emptyNd K s0 0)).toArray = W9 at HNE ⊢
  have hk59 : Kept Z3 W5 W9 := HK57.out.step (S' := fun _ => False) (Kept.of_below HNE.out.2) (fun j e => e.elim)
  have hbe9 : Below w.heap.size w W9 := HBE7.out.trans (HNE.out.2.mono HBE7.out.size)
  have htr9 : Tr K s0 Z3 W9 g T := (HMD.out.tr.quiet HNP.out.2).quiet HNE.out.2
  have hkb9 := HK5.out.kept hk59 (fun e => by have := (HZ3.out _ e).1; have := HKLT.out; omega)
  have hbs := tr_beside htr9 (HT.out.below hbe9 hlow) hlo key HKEY.out
  unfold arr at hbs
  rw [← ECK.out] at hbs
  have HBS := Lib.hid hbs
  have HKB9 := Lib.hid hkb9
  have HK59 := Lib.hid hk59
  have HBE9 := Lib.hid hbe9
  clear hk59 hbe9 htr9 hkb9 hbs
  go_wp2_with (refine wpList_load_row rfl 28 (.tmp 3) rfl B3 rfl 28 CK.toArray (0, 0) _ HKB9.out Tryd.underlying28 rfl SZK.out ?_)
  refine HBS.out.mono ?_
  rintro _ w10 ⟨B, rfl, hBle, hout, htr10, hk10⟩
  obtain ⟨f, hf⟩ : ∃ f, f = besF K s0 T key := ⟨_, rfl⟩
  change OutAt w10 B 0 (besF K s0 T key) at hout
  rw [← hf] at hout
  have hkZ : Kept Z3 W5 w10 := HK59.out.trans hk10
  have hfh : ∀ h, IsHash (f h).h := fun h => by rw [hf]; exact part_hash K s0 HT.out.len _ _
  have hpl := HPL.out
  have hzz : ∀ j, Z3 j → j < w3.heap.size := fun j e => (HZ3.out j e).2
  have he10 := HNE.out.1.kept hk10 (fun e => by have := hzz _ e; have := HB8S.out; have := HNP.out.2.size; have := HMD.out.kept.size; have := HNW.out.1.size; omega)
  have hp10 := (HNP.out.1.below HNE.out.2 HNP.out.1.lt).kept hk10 (fun e => by have := hzz _ e; have := HMD.out.kept.size; have := HNW.out.1.size; omega)
  have hkb10 := HKB9.out.kept hk10 (fun e => by have := (HZ3.out _ e).1; have := HKLT.out; omega)
  have hlf10 := HNW.out.2.1.kept hkZ (fun e => by have := hzz _ e; have := HG6.out; omega)
  have hro10 := HNW.out.2.2.kept hkZ (fun j _ h e => by have := hzz _ e; have := h.1; omega)
  have hbe10 : Below w.heap.size w w10 := HBE9.out.trans (hk10.below HBE9.out.size (fun j e => by have := (HZ3.out j e).1; omega))
  have hno10 : NodesAt w10 ap np (nodesF K s0 f 256) := by
    rw [hf]
    have hn9 := (HMD.out.nodes.below HNP.out.2).below HNE.out.2
    refine ⟨hn9.len, hn9.hash, hn9.fits, fun hn => ?_⟩
    obtain ⟨b, o, e1, e2, e3⟩ := hn9.at_ hn
    have h1 := HMD.out.new hn _ e1
    refine ⟨b, o, e1, by have := hk10.size; omega, fun i x hx => rangeAt_kept (e3 i x hx) hk10 (fun e => ?_)⟩
    have h2 := hzz _ e
    have h3 := HNW.out.1.size
    have h4 : W5.heap.size ≤ b := h1
    omega
  have HOUT := Lib.hid hout
  have HTR10 := Lib.hid htr10
  have HE10 := Lib.hid he10
  have HP10 := Lib.hid hp10
  have HKB10 := Lib.hid hkb10
  have HLF10 := Lib.hid hlf10
  have HRO10 := Lib.hid hro10
  have HBE10 := Lib.hid hbe10
  have HNO10 := Lib.hid hno10
  have HFH := Lib.hid hfh
  have EF := Lib.hid hf
  have HBH := Lib.hid (show ∀ h, h < 256 → bareB bp h = bareF K s0 f h by rw [hf]; exact HMD.out.bits)
  have HPH := Lib.hid HMD.out.hash
  have HPLB := Lib.hid (show w3.heap.size ≤ w8.heap.size ∧ w6.heap.size < w8.heap.size ∧ B3 < w2.heap.size ∧ w8.heap.size < B ∧ B6 < w6.heap.size ∧ w3.heap.size ≤ B6 by
    have h1 := HMD.out.kept.size; have h2 := HNW.out.1.size; have h3 := HB8S.out; have h4 := HNP.out.2.size; have h5 := HNP.out.1.lt; have h6 := HNE.out.1.lt; have h7 := HNW.out.2.1.lt; have h8 := HG6.out; have h9 := HKLT.out
    omega)
  have HAP := Lib.hid (show 0 < np → ∀ A, ap = some A → w3.heap.size ≤ A.block ∧ A.block < w6.heap.size from fun hn A hA => by
    obtain ⟨b, o, e1, e2, -⟩ := HMD.out.nodes.at_ hn
    have h1 := HMD.out.new hn A hA
    have h2 := HNW.out.1.size
    rw [hA] at e1
    injection e1 with e1
    rw [e1] at h1 ⊢
    exact ⟨by omega, e2⟩)
  have HNPT := Lib.hid (show np ≤ 256 from by have h1 := HMD.out.nodes.len; have h2 := nodesF_len (K := K) (s0 := s0) (f := besF K s0 T key) 256; omega)
  have HNPE := Lib.hid (show (nodesF K s0 f 256).length = np by rw [hf]; exact HMD.out.nodes.len)
  clear hBle hout htr10 hk10 hf hkZ hfh hpl hzz he10 hp10 hkb10 hlf10 hro10 hbe10 hno10 HBS HKB9 HK59 HBE9 HNE HNP HNW HMD HK57 HBE7 HK5 HBE5 HB8S HBE3 HTR3
  generalize w8.heap.size = B10 at HE10 HPLB ⊢
  generalize w6.heap.size = B8 at HP10 HPLB HAP ⊢
  go_wp2_with fail
  go_loopw [9, 35] (fun nv iv wr => ∃ k : Nat, iv = .int .i64 (k : Int) ∧ k ≤ 256 ∧ nv = .int .i64 (((nodesF K s0 f k).length : Nat) : Int) ∧ Kept (fun j => j = B10) w10 wr ∧ Has wr B10 58 (ndV (emptyNd K s0 k)).toArray) (fun _ iv _ => 256 - (intOf iv).toNat)
  case atStart => exact ⟨0, rfl, Nat.zero_le _, rfl, Kept.refl _ _, HE10.out⟩
  case round =>
    clear HE10
    obtain ⟨k, rfl, hk, rfl, hkr, her⟩ := hrel
    have HKR := Lib.hid hkr
    have HER := Lib.hid her
    clear hkr her
    obtain ⟨cnt, hcnt⟩ : ∃ x, x = (nodesF K s0 f k).length := ⟨_, rfl⟩
    rw [← hcnt]
    have hcl : cnt ≤ 256 := by have := nodesF_len (K := K) (s0 := s0) (f := f) k; omega
    by_cases hlt : k < 256
    · as_aux_lemma =>
        have hlt' : (k : Int) < 256 := by omega
        have hat := at_node B 256 256 k hlt
        have hpb := HPLB.out
        have hrg := (HOUT.out.kept HKR.out (by show ¬ B = B10; omega)).range k (Nat.zero_le _) hlt
        have HRG := Lib.hid hrg
        have HFK := Lib.hid (HFH.out k)
        have HCNT := Lib.hid hcnt
        have hnw : Kept (fun j => j = B10) w10 ((wr.alloc (.cells Z 58)).setRow wr.heap.size (ndV (f k)).toArray) ∧ Has ((wr.alloc (.cells Z 58)).setRow wr.heap.size (ndV (f k)).toArray) B10 58 (ndV (emptyNd K s0 k)).toArray ∧ Has ((wr.alloc (.cells Z 58)).setRow wr.heap.size (ndV (f k)).toArray) wr.heap.size 58 (ndV (f k)).toArray := by
          rw [World.setRow_alloc_new]
          exact ⟨HKR.out.alloc _, HER.out.alloc _, Has.new _ _ _⟩
        have HN5 := Lib.hid hnw
        clear hrg hcnt hnw hpb
        go_upto_region 13 with (first
          | (refine wpList_load_mid rfl 58 (.tmp 38) rfl B (k * 33) rfl (ndV (f k)) _ HRG.out Tryd.underlying58 rfl (SZL.out _ HFK.out) ?_)
          | (refine wpList_store_row rfl 58 (.tmp 12) (.tmp 39) rfl wr.heap.size (ndV (f k)).toArray rfl rfl 58 Z (heap_alloc_new wr _) (SZN.out _ HFK.out) (HZN.out _ HFK.out) (ndV_one _) ?_))
        generalize (wr.alloc (.cells Z 58)).setRow wr.heap.size (ndV (f k)).toArray = W12 at HN5 ⊢
        generalize wr.heap.size = G12 at HN5 ⊢
        obtain ⟨x, hx⟩ : ∃ x, x = bp.getD (k / 8) 0 := ⟨_, rfl⟩
        have hpb := HPLB.out
        have hk8 := (HP10.out.kept HN5.out.1 (by show ¬ B8 = B10; omega)).cell_is (i := k / 8) (by rw [List.getElem?_toArray]; exact pcells_byte HPH.out ap np cp (k / 8) (by omega))
        rw [← hx] at hk8
        have hx8 : x < 256 := by rw [hx]; exact HPH.out.byte _ (by omega)
        obtain ⟨bt, hbt⟩ : ∃ b, b = bareF K s0 f k := ⟨_, rfl⟩
        have hbn := bare_num bp k
        rw [HBH.out k hlt, ← hx, ← hbt] at hbn
        have hcmp := nd_any (f k) (emptyNd K s0 k) HFK.out (HEH.out k)
        change ∀ w, (Op.equalIn 10000 58 (.agg (ndV (f k)).toArray) (.agg (ndV (emptyNd K s0 k)).toArray)).run Tryd.prog w = .ok (bareF K s0 f k) w at hcmp
        rw [← hbt] at hcmp
        have hns := nodesF_succ (K := K) (s0 := s0) (f := f) k
        rw [← hbt] at hns
        have HNT := Lib.hid (show bt = true → (nodesF K s0 f (k + 1)).length = cnt from fun e => by rw [hns, if_pos e, List.append_nil, HCNT.out])
        have HNF := Lib.hid (show bt = false → (nodesF K s0 f (k + 1)).length = cnt + 1 from fun e => by rw [hns, if_neg (by rw [e]; decide), List.length_append, HCNT.out]; rfl)
        have HBN := Lib.hid hbn
        have HCMP := Lib.hid hcmp
        clear hns hbt hx hbn hcmp hpb
        go_upto_region 14 with (fail)
        rw [HBN.out]
        clear HBN
        have hcmp := HCMP.out
        have hbr := br_empty K s0
        have HBRE := Lib.hid (show ∀ W, Below W12.heap.size W12 W → Calls Tryd.prog 36 #[.agg (ndV (emptyNd K s0 k)).toArray, .agg (ndV (emptyNd K s0 k)).toArray] W fun e w' => e = .returned (.tuple #[.agg (ndV (emptyNd K s0 (k + 1))).toArray, .int .i64 0]) ∧ Below W.heap.size W w' from fun W hW => hbr W k (HT.out.below ((HBE10.out.trans (HN5.out.1.below HBE10.out.size (fun j e => by have e' : j = B10 := e; have := HPLB.out; have := HPL.out; omega))).trans (hW.mono (by have := HBE10.out.size; have := HN5.out.1.size; omega))) hlow))
        have HFIN := Lib.hid (show ∀ wz, Below W12.heap.size W12 wz → Has wz B10 58 (ndV (emptyNd K s0 k)).toArray ∧ Kept (fun j => j = B10) w10 (wz.setRow B10 (ndV (emptyNd K s0 (k + 1))).toArray) ∧ Has (wz.setRow B10 (ndV (emptyNd K s0 (k + 1))).toArray) B10 58 (ndV (emptyNd K s0 (k + 1))).toArray from fun wz hz => by
          have h1 := HN5.out.2.1.below hz HN5.out.2.1.lt
          exact ⟨h1, (HN5.out.1.step (Kept.of_below (S := fun _ => False) hz) (fun j e => e.elim)).trans (kept_setRow (g := B10) wz _), h1.setRow⟩)
        clear hbr HCMP
        have hcl' : (cnt : Int) + 1 ≤ 257 := by omega
        cases bt with
        | true =>
          go_wp2_with (first
            | (refine wpList_load_row rfl 58 (.tmp 12) rfl G12 rfl 58 (ndV (f k)).toArray (0, 0) _ HN5.out.2.2 Tryd.underlying58 rfl (SZN.out _ HFK.out) ?_)
            | (refine wpList_load_row rfl 58 (.tmp 10) rfl B10 rfl 58 (ndV (emptyNd K s0 k)).toArray (0, 0) _ HN5.out.2.1 Tryd.underlying58 rfl (SZN.out _ (HEH.out k)) ?_))
          refine (HBRE.out _ (Below.refl _ _)).mono ?_
          rintro _ wz ⟨rfl, hbz⟩
          have HF := Lib.hid (HFIN.out wz hbz)
          clear hbz
          go_wp2_with (refine wpList_store_row rfl 58 (.tmp 10) (.tmp 60) rfl B10 (ndV (emptyNd K s0 (k + 1))).toArray rfl rfl 58 (ndV (emptyNd K s0 k)).toArray HF.out.1 (SZN.out _ (HEH.out (k + 1))) (HNN.out _ _ (HEH.out k) (HEH.out (k + 1))) (ndV_one _) ?_)
          go_roundw
          case rel => exact ⟨k + 1, by go_num, by omega, by rw [HNT.out (by first | rfl | trivial)], HF.out.2⟩
          case measure => simp [intOf]; omega
        | false =>
          go_wp2_with (first
            | (refine wpList_load_row rfl 58 (.tmp 12) rfl G12 rfl 58 (ndV (f k)).toArray (0, 0) _ HN5.out.2.2 Tryd.underlying58 rfl (SZN.out _ HFK.out) ?_)
            | (refine wpList_load_row rfl 58 (.tmp 10) rfl B10 rfl 58 (ndV (emptyNd K s0 k)).toArray (0, 0) _ HN5.out.2.1 Tryd.underlying58 rfl (SZN.out _ (HEH.out k)) ?_))
          refine (HBRE.out _ (Below.refl _ _)).mono ?_
          rintro _ wz ⟨rfl, hbz⟩
          have HF := Lib.hid (HFIN.out wz hbz)
          clear hbz
          go_wp2_with (refine wpList_store_row rfl 58 (.tmp 10) (.tmp 60) rfl B10 (ndV (emptyNd K s0 (k + 1))).toArray rfl rfl 58 (ndV (emptyNd K s0 k)).toArray HF.out.1 (SZN.out _ (HEH.out (k + 1))) (HNN.out _ _ (HEH.out k) (HEH.out (k + 1))) (ndV_one _) ?_)
          go_roundw
          case rel => exact ⟨k + 1, by go_num, by omega, by rw [HNF.out (by first | rfl | trivial)]; go_num, HF.out.2⟩
          case measure => simp [intOf]; omega
    · obtain rfl : k = 256 := by omega
      rw [HNPE.out] at hcnt
      subst hcnt
      have hlt' : ¬ ((256 : Nat) : Int) < 256 := by omega
      go_upto_region 20 with (fail)
      obtain ⟨LP, hLP⟩ : ∃ L, L = pcells bp ap cnt cp := ⟨_, rfl⟩
      obtain ⟨LF, hLF⟩ : ∃ L : List Value, L = [.slice av nv cv, .int .u64 (ws : Int)] := ⟨_, rfl⟩
      obtain ⟨R, hR⟩ : ∃ R, R = partNd K s0 256 T := ⟨_, rfl⟩
      obtain ⟨LR, hLR⟩ : ∃ L, L = (ndV R).toArray := ⟨_, rfl⟩
      have hRh : IsHash R.h := by rw [hR]; exact part_hash K s0 HT.out.len _ _
      have hpb := HPLB.out
      have hpl := HPL.out
      obtain ⟨HS, hHS⟩ : ∃ HS : World → Prop, HS = fun v => Kept (fun j => Z3 j ∨ j = B10) w10 v ∧ Tr K s0 Z3 v g T := ⟨_, rfl⟩
      have hzb : ∀ j, (Z3 j ∨ j = B10) → w.heap.size ≤ j := fun j e => by
        rcases e with e | e
        · have := (HZ3.out j e).1; omega
        · omega
      have hbeV : ∀ v, HS v → Below w.heap.size w v := fun v h => by rw [hHS] at h; exact HBE10.out.trans (h.1.below HBE10.out.size hzb)
      have hstep : ∀ v v', HS v → Below v.heap.size v v' → HS v' := fun v v' h hb => by
        rw [hHS] at h ⊢
        exact ⟨h.1.step (S' := fun _ => False) (Kept.of_below hb) (fun j e => e.elim), h.2.quiet hb⟩
      have hroot : ∀ v, HS v → Calls Tryd.prog 37 #[.pointer (some ⟨g, 0, none⟩)] v fun e w' => e = .returned (.agg LR) ∧ HS w' := fun v h => by
        have hbv := hbeV v h
        rw [hHS] at h ⊢
        have := tr_root h.2 (HT.out.below hbv hlow) hlo
        rw [hLR, hR]
        exact this.mono fun e w' ⟨h1, h2, h3⟩ => ⟨h1, h.1.step h3 (fun j e => .inl (.inl e)), h2⟩
      have hz : ∀ j, ¬ (Z3 j ∨ j = B10) ∨ (w2.heap.size ≤ j ∧ j < w3.heap.size) ∨ j = B10 := fun j => by
        by_cases e : Z3 j
        · exact .inr (.inl (HZ3.out j e))
        · by_cases e2 : j = B10
          · exact .inr (.inr e2)
          · exact .inl (fun h => h.elim e e2)
      have hbytes : ∀ v, HS v → Bytes v v.heap.size (.slice av (valT T key).length cv) (valT T key) := fun v h => by
        rw [hHS] at h
        have h1 := HRO10.out
        rw [ENV.out] at h1
        exact (h1.kept h.1 (fun j _ h2 e => by
          rcases e with e | e
          · have := (HZ3.out j e).2; have := h2.1; omega
          · have := h2.2; omega)).bytes (Nat.le_refl _)
      have hnodes : ∀ v, HS v → NodesAt v ap cnt (nodesF K s0 f 256) := fun v h => by
        rw [hHS] at h
        have hn9 := HNO10.out
        refine ⟨hn9.len, hn9.hash, hn9.fits, fun hn => ?_⟩
        obtain ⟨b, o, e1, e2, e3⟩ := hn9.at_ hn
        have h1 := HAP.out hn _ e1
        have h3 : w3.heap.size ≤ b ∧ b < B8 := h1
        refine ⟨b, o, e1, by have := h.1.size; omega, fun i x hx => rangeAt_kept (e3 i x hx) h.1 (fun e => ?_)⟩
        rcases e with e | e
        · have := (HZ3.out b e).2; omega
        · omega
      have hkey : pfRoot K s0 (bareB bp) key (nodesF K s0 f 256) (leafNd K s0 (valT T key) ws) = .ok R := by
        rw [EF.out, EWS.out, hR]
        exact pf_tree HTR10.out.keyed HTR10.out.sum HKEY.out (fun h hh => by rw [HBH.out h hh, EF.out])
      have hsv : (valT T key).length ≤ 65536 := by
        unfold valT
        cases hf : findT T key with
        | none => exact Nat.zero_le _
        | some o => exact HTR10.out.short o (find_key hf).2
      have hws : ws < 18446744073709551616 := by rw [EWS.out]; exact Nat.lt_of_le_of_lt (was_le T key) HTR10.out.sum
      have hchk : ∀ v, HS v → Calls Tryd.prog 31 #[.agg LP.toArray, .agg LR, .agg CK.toArray, .agg LF.toArray] v fun e w' => e = .returned (.int .i64 0) ∧ HS w' := fun v h => by
        have := check_is K s0 v (HT.out.below (hbeV v h) hlow) bp HPH.out ap cnt cp _ (hnodes v h) (by have := HNPT.out; omega) R hRh key HKEY.out av (valT T key) cv ws (hbytes v h) (by omega) hws (.ok R) hkey.symm
        unfold arr leafV at this
        rw [chk_ok, if_pos (ndSame_iff.2 rfl), ← ENV.out] at this
        rw [hLP, hLR, ECK.out, hLF]
        exact this.mono fun e w' ⟨h1, h2⟩ => ⟨h1, hstep v w' h h2⟩
      have hS0 : HS wr.drew := by
        rw [hHS]
        have hk1 : Kept (fun j => Z3 j ∨ j = B10) w10 wr := HKR.out.mono (fun _ _ e => .inr e)
        exact ⟨hk1.drew, (HTR10.out.kept HKR.out (fun j _ h2 e => by have := (HZ3.out j h2).2; have e' : j = B10 := e; omega)).quiet (Below.refl _ _).drew⟩
      have hrp : ∀ v, HS v → v.rangeAt B8 0 LP := fun v h => by
        rw [hHS] at h
        rw [hLP]
        exact (HP10.out.kept h.1 (fun e => e.elim (fun e => by have := (HZ3.out _ e).2; omega) (fun e => by omega))).row0
      have hrk : ∀ v, HS v → v.rangeAt B3 0 CK := fun v h => by
        rw [hHS] at h
        exact (HKB10.out.kept h.1 (fun e => e.elim (fun e => by have := (HZ3.out _ e).1; omega) (fun e => by omega))).row0
      have hrf : ∀ v, HS v → v.rangeAt B6 0 LF := fun v h => by
        rw [hHS] at h
        rw [hLF]
        exact Has.row0 (L := [.slice av nv cv, .int .u64 (ws : Int)]) (HLF10.out.kept h.1 (fun e => e.elim (fun e => by have := (HZ3.out _ e).2; omega) (fun e => by omega)))
      have hx1 : ∀ v, HS v → v.cell? ⟨B8, 32, none⟩ = some (.slice ap cnt cp) := fun v h => by
        have := hrp v h 32 _ (by rw [hLP]; exact pcells_row HPH.out ap cnt cp)
        exact this
      have HROOT := Lib.hid hroot
      have HCHK := Lib.hid hchk
      have HRP := Lib.hid hrp
      have HRK := Lib.hid hrk
      have HRF := Lib.hid hrf
      have HC1 := Lib.hid hx1
      have HBEV := Lib.hid hbeV
      have SZPL := Lib.hid (show (Tryd.prog.info? 56).map (·.size) = some LP.length by rw [hLP]; exact HSP.out.2.2)
      have SZFL := Lib.hid (show (Tryd.prog.info? 32).map (·.size) = some LF.length by rw [hLF]; kernel_rfl)
      clear hLP hLF hR hLR hRh hpb hpl hHS hzb hbeV hstep hroot hz hbytes hnodes hkey hsv hws hchk hrp hrk hrf hx1 hlt HOUT HTR10 HP10 HKB10 HLF10 HRO10 HBE10 HNO10 HFH EF HBH HPH HPLB HAP HNPT HNPE HKR HER
      refine wp_region_noPanic ?_
      refine wp_region_held_drew (S := HS) (by kernel_rfl) hS0 (fun hH0 => ?_)
      refine wpAnyH_take (i := 0) (v := (.agg LP.toArray)) rfl (by kernel_rfl) (by kernel_rfl) (by kernel_rfl) (fun _ _ _ h => h) (yieldsIf_load_mid (by kernel_rfl) 56 (.tmp 8) rfl B8 0 rfl LP _ (fun w' h => HRP.out _ h) Tryd.underlying56 rfl SZPL.out) hH0 ?_
      simp only [Act.put, List.getElem_toArray, List.getElem_cons_zero, List.getElem_cons_succ, List.setIfInBounds_toArray, List.set_cons_zero, List.set_cons_succ]
      refine wpAnyH_take (i := 1) (v := ((.pointer (some ⟨g, 0, none⟩)))) rfl (by kernel_rfl) (by kernel_rfl) (by kernel_rfl) (fun _ _ _ h => h) (Or.inl ⟨by kernel_rfl, by intro w' hS; have q1 := HC1.out w' hS; go_simp⟩) hH0 ?_
      simp only [Act.put, List.getElem_toArray, List.getElem_cons_zero, List.getElem_cons_succ, List.setIfInBounds_toArray, List.set_cons_zero, List.set_cons_succ]
      refine wpAnyH_take (i := 3) (v := (.agg CK.toArray)) rfl (by kernel_rfl) (by kernel_rfl) (by kernel_rfl) (fun _ _ _ h => h) (yieldsIf_load_mid (by kernel_rfl) 28 (.tmp 3) rfl B3 0 rfl CK _ (fun w' h => HRK.out _ h) Tryd.underlying28 rfl SZKL.out) hH0 ?_
      simp only [Act.put, List.getElem_toArray, List.getElem_cons_zero, List.getElem_cons_succ, List.setIfInBounds_toArray, List.set_cons_zero, List.set_cons_succ]
      refine wpAnyH_take (i := 4) (v := (.agg LF.toArray)) rfl (by kernel_rfl) (by kernel_rfl) (by kernel_rfl) (fun _ _ _ h => h) (yieldsIf_load_mid (by kernel_rfl) 32 (.tmp 6) rfl B6 0 rfl LF _ (fun w' h => HRF.out _ h) Tryd.underlying32 rfl SZFL.out) hH0 ?_
      simp only [Act.put, List.getElem_toArray, List.getElem_cons_zero, List.getElem_cons_succ, List.setIfInBounds_toArray, List.set_cons_zero, List.set_cons_succ]
      refine wpAnyH_ready (rs := [2]) (by kernel_rfl) (by simp) ?_
      refine AllReadyH.cons rfl (fun K hK => ?_) AllReadyH.nil
      go_simp
      refine (HROOT.out _ hH0).mono ?_
      rintro _ x2 ⟨rfl, hx2⟩
      refine Shut.out hK _ _ hx2 (fun hH1 => ?_)
      clear hK K
      try simp only [Act.put, List.getElem_toArray, List.getElem_cons_zero, List.getElem_cons_succ, List.setIfInBounds_toArray, List.set_cons_zero, List.set_cons_succ]
      refine wpAnyH_ready (rs := [5]) (by kernel_rfl) (by simp) ?_
      refine AllReadyH.cons rfl (fun K hK => ?_) AllReadyH.nil
      go_simp
      refine (HCHK.out _ hH1).mono ?_
      rintro _ x5 ⟨rfl, hx5⟩
      refine Shut.out hK _ _ hx5 (fun hH2 => ?_)
      clear hK K
      try simp only [Act.put, List.getElem_toArray, List.getElem_cons_zero, List.getElem_cons_succ, List.setIfInBounds_toArray, List.set_cons_zero, List.set_cons_succ]
      refine wpAnyH_take (i := 6) (v := ((.bool true))) rfl (by kernel_rfl) (by kernel_rfl) (by kernel_rfl) (fun _ _ _ h => h) (Or.inl ⟨by kernel_rfl, by intro w' hS; have q1 := HC1.out w' hS; go_simp⟩) hH2 ?_
      simp only [Act.put, List.getElem_toArray, List.getElem_cons_zero, List.getElem_cons_succ, List.setIfInBounds_toArray, List.set_cons_zero, List.set_cons_succ]
      refine wpAnyH_take (i := 7) (v := ((.bool true))) rfl (by kernel_rfl) (by kernel_rfl) (by kernel_rfl) (fun _ _ _ h => h) (Or.inl ⟨by kernel_rfl, by intro w' hS; have q1 := HC1.out w' hS; go_simp⟩) hH2 ?_
      simp only [Act.put, List.getElem_toArray, List.getElem_cons_zero, List.getElem_cons_succ, List.setIfInBounds_toArray, List.set_cons_zero, List.set_cons_succ]
      refine wpAnyH_take (i := 8) (v := ((.pointer (some ⟨B8, 32, none⟩)))) rfl (by kernel_rfl) (by kernel_rfl) (by kernel_rfl) (fun _ _ _ h => h) (Or.inl ⟨by kernel_rfl, by intro w' hS; have q1 := HC1.out w' hS; go_simp⟩) hH2 ?_
      simp only [Act.put, List.getElem_toArray, List.getElem_cons_zero, List.getElem_cons_succ, List.setIfInBounds_toArray, List.set_cons_zero, List.set_cons_succ]
      refine wpAnyH_take (i := 9) (v := ((.slice ap cnt cp))) rfl (by kernel_rfl) (by kernel_rfl) (by kernel_rfl) (fun _ _ _ h => h) (Or.inl ⟨by kernel_rfl, by intro w' hS; have q1 := HC1.out w' hS; go_simp⟩) hH2 ?_
      simp only [Act.put, List.getElem_toArray, List.getElem_cons_zero, List.getElem_cons_succ, List.setIfInBounds_toArray, List.set_cons_zero, List.set_cons_succ]
      refine wpAnyH_take (i := 10) (v := ((.int .i64 (cnt : Int)))) rfl (by kernel_rfl) (by kernel_rfl) (by kernel_rfl) (fun _ _ _ h => h) (Or.inl ⟨by kernel_rfl, by intro w' hS; have q1 := HC1.out w' hS; go_simp⟩) hH2 ?_
      simp only [Act.put, List.getElem_toArray, List.getElem_cons_zero, List.getElem_cons_succ, List.setIfInBounds_toArray, List.set_cons_zero, List.set_cons_succ]
      refine wpAnyH_take (i := 11) (v := ((.int .i64 (cnt : Int)))) rfl (by kernel_rfl) (by kernel_rfl) (by kernel_rfl) (fun _ _ _ h => h) (Or.inl ⟨by kernel_rfl, by intro w' hS; have q1 := HC1.out w' hS; go_simp⟩) hH2 ?_
      simp only [Act.put, List.getElem_toArray, List.getElem_cons_zero, List.getElem_cons_succ, List.setIfInBounds_toArray, List.set_cons_zero, List.set_cons_succ]
      refine wpAnyH_take (i := 12) (v := ((.bool true))) rfl (by kernel_rfl) (by kernel_rfl) (by kernel_rfl) (fun _ _ _ h => h) (Or.inl ⟨by kernel_rfl, by intro w' hS; have q1 := HC1.out w' hS; go_simp⟩) hH2 ?_
      simp only [Act.put, List.getElem_toArray, List.getElem_cons_zero, List.getElem_cons_succ, List.setIfInBounds_toArray, List.set_cons_zero, List.set_cons_succ]
      refine wpAnyH_take (i := 13) (v := ((.bool true))) rfl (by kernel_rfl) (by kernel_rfl) (by kernel_rfl) (fun _ _ _ h => h) (Or.inl ⟨by kernel_rfl, by intro w' hS; have q1 := HC1.out w' hS; go_simp⟩) hH2 ?_
      simp only [Act.put, List.getElem_toArray, List.getElem_cons_zero, List.getElem_cons_succ, List.setIfInBounds_toArray, List.set_cons_zero, List.set_cons_succ]
      refine wpAnyH_take (i := 14) (v := ((.bool true))) rfl (by kernel_rfl) (by kernel_rfl) (by kernel_rfl) (fun _ _ _ h => h) (Or.inl ⟨by kernel_rfl, by intro w' hS; have q1 := HC1.out w' hS; go_simp⟩) hH2 ?_
      simp only [Act.put, List.getElem_toArray, List.getElem_cons_zero, List.getElem_cons_succ, List.setIfInBounds_toArray, List.set_cons_zero, List.set_cons_succ]
      refine wpAnyH_done (by kernel_rfl) ?_ _
      refine NoPanic.normal ?_
      have HFB := Lib.hid (HBEV.out _ hx5)
      clear hx2 hx5 hS0
      go_wp2_with fail
      go_ret
      exact ⟨rfl, HFB.out⟩
end Go.Proofs.YtngmpcmeebcdmaaDoor
