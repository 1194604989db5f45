/- Way: the proof that a leaf is one of all that came of one transfer; Of: whether it is. -/
import Derived.Test.YtniakgoefkbkhaaGreatDoorWs
import Derived.Test.YtniakgoefkbkhaaGreatDoorWLf4
import Derived.Test.YtniakgoefkbkhaaGreatDoorWSha7
import Derived.LaidMore
import Derived.Stop.Joined
import Derived.Test.YtniakgoefkbkhaaGreatDoorWRef1
namespace Go.Proofs.YtniakgoefkbkhaaGreatDoor
set_option linter.unusedVariables false
set_option linter.unusedSimpArgs false
open Go.ChangeShapes Go.WideShapes Go.ChangeAt Go.RowKit Go.Maps

theorem zero_proofB : ∃ Z : Array Value, (∀ w, (zeroValue 107).run Tryz.prog w = .ok (.agg Z) w) ∧ (∀ w, (Instr.build 107 #[]).run Tryz.prog w = .ok (.agg Z) w) ∧ Z.size = 33 ∧ ¬ Z = #[] ∧ Z = (pcells (List.replicate 32 0) none 0 0).toArray := by
 have hs : (pcells (List.replicate 32 0) none 0 0).toArray.size = 33 := by kernel_rfl
 exact ⟨_, fun w => by kernel_rfl, fun w => by kernel_rfl, hs, fun e => (by rw [e] at hs; cases hs), rfl⟩
def zProof : Value := .agg (pcells (List.replicate 32 0) none 0 0).toArray
structure ProofOf (K s0 : List Wd) (T : List Lf) (key : List Nat) (bb : List Nat) (a : Option Addr) (n : Nat) (w : World) : Prop where
 hash : IsHash bb
 bits : ∀ h, h < 256 → bareB bb h = bareF K s0 (besF K s0 T key) h
 nodes : NodesAt w a n (nodesF K s0 (besF K s0 T key) 256)
def WayP (K s0 : List Wd) (w : World) (n : Nat) (m : Int) (R : Except Int (List Lf)) (e : Ending) (w' : World) : Prop :=
 Below w.heap.size w w' ∧ match R with
  | .error x => e = .returned (.tuple #[zProof, .int .i64 x])
  | .ok T => ((m < 0 ∨ (n : Int) ≤ m) ∧ e = .returned (.tuple #[zProof, .int .i64 5])) ∨ ((0 ≤ m ∧ m < (n : Int)) ∧ ∃ bb a n' c', e = .returned (.tuple #[.agg (pcells bb a n' c').toArray, .int .i64 0]) ∧ ProofOf K s0 T (placeK K s0 m.toNat) bb a n' w' ∧ (0 < n' → ∀ A, a = some A → w.heap.size ≤ A.block) ∧ n' ≤ c')
set_option maxRecDepth 100000 in
set_option maxHeartbeats 4000000 in
theorem lfWay_is (K s0 : List Wd) (w : World) (hT : Tabs K s0 w) (A : Option Addr) (n c : Nat) (ls : List LeafT) (hls : RowsAt LeafT.cells 99 w A n ls) (hok : ∀ l ∈ ls, l.ok) (hn : n ≤ 256) (m : Int) (hm1 : -9223372036854775808 ≤ m) (hm2 : m ≤ 9223372036854775807) :
  Calls Tryz.prog 37 #[.slice A n c, .int .i64 m] w (WayP K s0 w n m (tlAt K s0 ls n)) := by
 obtain ⟨Z, hz, hb, hzs, hzn, hZ⟩ := zero_proofB
 have hlow := hT.low
 have HT := Lib.hid hT
 have EZ := Lib.hid hZ
 have SZZ := Lib.hid (show (Tryz.prog.info? 107).map (·.size) = some Z.size by rw [hzs]; kernel_rfl)
 have HOZ := Lib.hid (show Z.all (·.oneCell') = true by rw [hZ]; exact pcells_one _ _ _ _)
 clear hZ hT
 go_enter Tryz.func37, Tryz.ntmps37
 go_wp2_with fail
 have h1 := Has.new w 107 Z
 have hb1 : Below w.heap.size w (w.alloc (.cells Z 107)) := (Below.refl _ _).alloc (Nat.le_refl _) _
 obtain ⟨W1, hW1⟩ : ∃ W, W = w.alloc (.cells Z 107) := ⟨_, rfl⟩
 rw [← hW1] at h1 hb1 ⊢
 have hcall := lfTree_is K s0 W1 (HT.out.below hb1 hlow) A n c ls (hls.below hb1) hok hn
 have HB1 := Lib.hid hb1
 have H1 := Lib.hid h1
 obtain ⟨G, hG⟩ : ∃ g, g = w.heap.size := ⟨_, rfl⟩
 rw [← hG] at H1 ⊢
 have HG := Lib.hid hG
 obtain ⟨R, hR⟩ : ∃ R, R = tlAt K s0 ls n := ⟨_, rfl⟩
 rw [← hR] at hcall
 have HRQ := Lib.hid hR
 have hne : ∀ x, R = .error x → ¬ x = 0 := fun x e h0 => by rw [e, h0] at hR; exact tlAt_nz hR.symm
 have HNE := Lib.hid hne
 clear hW1 h1 hb1 hG hR hls hok hne
 refine hcall.mono ?_
 rintro _ w2 ⟨hb2, hm⟩
 have h2 := H1.out.below hb2 H1.out.lt
 have hq2 := HB1.out.trans (hb2.mono HB1.out.size)
 have hset : Has (w2.setRow G Z) G 107 Z ∧ Below w.heap.size w (w2.setRow G Z) := by
  have hk := kept_setRow (g := G) w2 Z
  exact ⟨h2.setRow, hq2.trans (hk.below hq2.size (fun j e => by have e' : j = G := e; have := HG.out; omega))⟩
 have HSET := Lib.hid hset
 have H2 := Lib.hid h2
 have HQ2 := Lib.hid hq2
 have HB2 := Lib.hid hb2
 clear hset h2 hq2 hb2 hcall
 cases R with
 | error x =>
  dsimp only at hm
  subst hm
  have hx2 : (x != 0) = true := by rw [bne_iff_ne]; exact HNE.out x rfl
  go_wp2_with (refine wpList_store_row rfl 107 (.tmp 4) (.tmp 15) rfl G Z rfl rfl 107 Z H2.out SZZ.out rfl HOZ.out ?_)
  refine bodyPost_ret (results_cell_tmp rfl _ _ G 107 Z (0, 0) _ rfl rfl HSET.out.1 Tryz.underlying107 SZZ.out) rfl ?_
  refine ⟨HSET.out.2, ?_⟩
  rw [← HRQ.out, EZ.out]
  exact rfl
 | ok T =>
  dsimp only at hm
  obtain ⟨g, rfl, htr, hg⟩ := hm
  have HTR := Lib.hid htr
  have HGG := Lib.hid hg
  clear htr hg
  by_cases hm0 : m < 0
  · have HM := Lib.hid hm0
    have hm0' : decide (m < 0) = true := decide_eq_true hm0
    go_upto_region 5 with (fail)
    go_wp2_with (refine wpList_store_row rfl 107 (.tmp 4) (.tmp 25) rfl G Z rfl rfl 107 Z H2.out SZZ.out rfl HOZ.out ?_)
    refine bodyPost_ret (results_cell_tmp rfl _ _ G 107 Z (0, 0) _ rfl rfl HSET.out.1 Tryz.underlying107 SZZ.out) rfl ?_
    refine ⟨HSET.out.2, ?_⟩
    rw [← HRQ.out]
    exact .inl ⟨.inl HM.out, by rw [EZ.out]; exact rfl⟩
  · by_cases hmn : (n : Int) ≤ m
    · have HM := Lib.hid hmn
      go_upto_region 5 with (fail)
      go_wp2_with (refine wpList_store_row rfl 107 (.tmp 4) (.tmp 25) rfl G Z rfl rfl 107 Z H2.out SZZ.out rfl HOZ.out ?_)
      refine bodyPost_ret (results_cell_tmp rfl _ _ G 107 Z (0, 0) _ rfl rfl HSET.out.1 Tryz.underlying107 SZZ.out) rfl ?_
      refine ⟨HSET.out.2, ?_⟩
      rw [← HRQ.out]
      exact .inl ⟨.inr HM.out, by rw [EZ.out]; exact rfl⟩
    · have HM := Lib.hid (show 0 ≤ m ∧ m < (n : Int) by omega)
      obtain ⟨q, hq⟩ : ∃ q : Nat, m = (q : Int) := ⟨m.toNat, by omega⟩
      subst hq
      have hq256 : q < 256 := by omega
      have hpl : ∀ v, Tabs K s0 v → Calls Tryz.prog 51 #[.int .i64 (q : Int)] v fun e w' => e = .returned (arr (placeK K s0 q)) ∧ Below v.heap.size v w' := fun v hv => place_is K s0 v hv q hq256
      have HPL := Lib.hid hpl
      have HT2 := Lib.hid (HT.out.below HQ2.out hlow)
      have HPH := Lib.hid (tagD_hash K s0 HT.out.len plS [q])
      clear hpl hq256
      go_upto_region 6 with (fail)
      go_wp2_with fail
      refine (HPL.out w2 HT2.out).mono ?_
      rintro _ w3 ⟨rfl, hb3⟩
      have hmk := mkProof_is K s0 (fun j => W1.heap.size ≤ j) w3 (HT2.out.below hb3 HT2.out.low) g T (HTR.out.quiet hb3) (by have := HGG.out; have := HB1.out.size; omega) (placeK K s0 q) HPH.out
      have H3 := Lib.hid (H2.out.below hb3 H2.out.lt)
      have HQ3 := Lib.hid (HQ2.out.trans (hb3.mono HQ2.out.size))
      have HLT := Lib.hid (show G < W1.heap.size by exact H1.out.lt)
      have HSW := Lib.hid (Nat.le_trans HB2.out.size hb3.size)
      clear hb3
      unfold arr
      unfold arr at hmk
      go_wp2_with fail
      refine hmk.mono ?_
      rintro _ w4 ⟨bb, a, n', c', rfl, hmade⟩
      have h4 := H3.out.kept hmade.kept (fun e => by have e' : W1.heap.size ≤ G := e; have := HLT.out; omega)
      have hq4 := HQ3.out.trans (hmade.kept.below HQ3.out.size (fun j e => by have e' : W1.heap.size ≤ j := e; have := HB1.out.size; omega))
      have hk := kept_setRow (g := G) w4 (pcells bb a n' c').toArray
      have HSR := Lib.hid (show Has (w4.setRow G (pcells bb a n' c').toArray) G 107 (pcells bb a n' c').toArray from h4.setRow)
      have HNA := Lib.hid (show 0 < n' → ∀ A, a = some A → W1.heap.size ≤ A.block from fun h A e => Nat.le_trans HSW.out (hmade.new h A e))
      have HFIN := Lib.hid (show Below w.heap.size w (w4.setRow G (pcells bb a n' c').toArray) ∧ ProofOf K s0 T (placeK K s0 q) bb a n' (w4.setRow G (pcells bb a n' c').toArray) ∧ (0 < n' → ∀ A, a = some A → w.heap.size ≤ A.block) from
       ⟨hq4.trans (hk.below hq4.size (fun j e => by have e' : j = G := e; have := HG.out; omega)), ⟨hmade.hash, hmade.bits, by
        rcases Nat.eq_zero_or_pos n' with h0 | h0
        · have hl := hmade.nodes.len
          subst h0
          rw [List.eq_nil_of_length_eq_zero hl]
          exact nodes_nil _ _
        · exact hmade.nodes.kept hk (fun A e e2 => by have e' : A.block = G := e2; have := HNA.out h0 A e; have := HLT.out; omega)⟩, fun h A e => Nat.le_trans HB1.out.size (HNA.out h A e)⟩)
      have HCAP := Lib.hid hmade.cap
      have H4 := Lib.hid h4
      have SZP := Lib.hid (show (Tryz.prog.info? 107).map (·.size) = some (pcells bb a n' c').toArray.size by rw [List.size_toArray, pcells_len hmade.hash]; kernel_rfl)
      have HZP := Lib.hid (show Z.size = (pcells bb a n' c').toArray.size by rw [hzs, List.size_toArray, pcells_len hmade.hash])
      clear h4 hq4 hk hmade hmk
      go_wp2_with (refine wpList_store_row rfl 107 (.tmp 4) (.tmp 29) rfl G (pcells bb a n' c').toArray rfl rfl 107 Z H4.out SZP.out HZP.out (pcells_one _ _ _ _) ?_)
      refine bodyPost_ret (results_cell_tmp rfl _ _ G 107 (pcells bb a n' c').toArray (0, 0) _ rfl rfl HSR.out Tryz.underlying107 SZP.out) rfl ?_
      refine ⟨HFIN.out.1, ?_⟩
      rw [← HRQ.out]
      exact .inr ⟨HM.out, bb, a, n', c', rfl, HFIN.out.2.1, HFIN.out.2.2, HCAP.out⟩
def ofE (K s0 : List Wd) (l : LeafT) (bb : List Nat) (xs : List Nd) : Int :=
 if leafBad l = true then 1 else ((chkE (pfRoot K s0 (bareB bb) (placeK K s0 l.pl.toNat) xs (leafNd K s0 (l.id ++ l.ow) l.am)) l.sp : Nat) : Int)
theorem boxes_of (w : World) (LC LP : List Value) : ∃ W1, W1 = (((w.alloc (.cells LC.toArray 41))).alloc (.cells LP.toArray 107)) ∧
   Has W1 (w.heap.size) 41 LC.toArray ∧ Has W1 (w.heap.size + 1) 107 LP.toArray ∧ Below w.heap.size w W1 := by
 refine ⟨_, rfl, ?_, ?_, ?_⟩
 · have := Has.new w 41 LC.toArray
   exact (this).alloc _
 · have := Has.new (w.alloc (.cells LC.toArray 41)) 107 LP.toArray
   exact (by simpa using this : Has _ (w.heap.size + 1) _ _)
 · exact ((Below.refl _ _).alloc (Nat.le_refl _) _).alloc (by simp) _
theorem leaf_split {w : World} {G : Nat} {l : LeafT} (hl : l.ok) (h : Has w G 41 l.cells.toArray) : w.rangeAt G 66 (ndV l.sp) := fun j u hu => by
 refine h.cell_is ?_
 rw [List.getElem?_toArray, LeafT.at_sp hl]
 exact hu
set_option maxRecDepth 100000 in
set_option maxHeartbeats 1000000 in
theorem lfOf_is (K s0 : List Wd) (w : World) (hT : Tabs K s0 w) (l : LeafT) (h : l.ok) (bb : List Nat) (hbb : IsHash bb) (a : Option Addr) (n c : Nat) (xs : List Nd) (hxs : NodesAt w a n xs) (hn : n ≤ 1000000) :
  Calls Tryz.prog 38 #[.agg l.cells.toArray, .agg (pcells bb a n c).toArray] w fun e w' => e = .returned (.int .i64 (ofE K s0 l bb xs)) ∧ Below w.heap.size w w' := by
 have hlow := hT.low
 obtain ⟨LC, hLC⟩ : ∃ L, L = l.cells := ⟨_, rfl⟩
 obtain ⟨LP, hLP⟩ : ∃ L, L = pcells bb a n c := ⟨_, rfl⟩
 have HCH := Lib.hid (show ∀ v, Calls Tryz.prog 19 #[.agg LC.toArray] v fun e w' => e = .returned (.int .i64 (leafE l)) ∧ w' = v.alloc (.cells LC.toArray 41) from fun v => by rw [hLC]; exact leafCheck_is v l h)
 have SZL := Lib.hid (show (Tryz.prog.info? 41).map (·.size) = some LC.toArray.size by rw [List.size_toArray, hLC, LeafT.len h]; kernel_rfl)
 have SZLL := Lib.hid (show (Tryz.prog.info? 41).map (·.size) = some LC.length by rw [hLC, LeafT.len h]; kernel_rfl)
 have SZPL := Lib.hid (show (Tryz.prog.info? 107).map (·.size) = some LP.length by rw [hLP, pcells_len hbb]; kernel_rfl)
 have SZN := Lib.hid (show (Tryz.prog.info? 39).map (·.size) = some (ndV l.sp).length by rw [ndV_len h.sp]; kernel_rfl)
 obtain ⟨W1, hW1, h1, h2, hb1⟩ := boxes_of w LC LP
 have hs65 : ∀ v : World, Has v w.heap.size 41 LC.toArray → v.cell? ⟨w.heap.size, 65, none⟩ = some (.int .i64 l.pl) := fun v hv => hv.cell_is (by rw [List.getElem?_toArray, hLC]; exact LeafT.at_pl h)
 have hs66 : ∀ v : World, Has v w.heap.size 41 LC.toArray → v.rangeAt w.heap.size 66 (ndV l.sp) := fun v hv => leaf_split h (by rw [← hLC]; exact hv)
 have HPT := Lib.hid (show ∀ v : World, Calls Tryz.prog 52 #[.agg LC.toArray] v fun e w' => ∃ a c, e = .returned (leafV (.slice a 64 c) l.am) ∧ Bytes w' w'.heap.size (.slice a 64 c) (l.id ++ l.ow) ∧ Below v.heap.size v w' from fun v => by rw [hLC]; exact lfPart_is v l h)
 obtain ⟨R, hR⟩ : ∃ R, R = pfRoot K s0 (bareB bb) (placeK K s0 l.pl.toNat) xs (leafNd K s0 (l.id ++ l.ow) l.am) := ⟨_, rfl⟩
 have hl64 : (l.id ++ l.ow).length = 64 := by rw [List.length_append, h.id.1, h.ow.1]
 have HCK := Lib.hid (show ∀ (v : World) (av : Option Addr) (cv : Nat), Below w.heap.size w v → Bytes v v.heap.size (.slice av 64 cv) (l.id ++ l.ow) → Calls Tryz.prog 65 #[.agg LP.toArray, .agg (ndV l.sp).toArray, arr (placeK K s0 l.pl.toNat), leafV (.slice av 64 cv) l.am] v fun e w' => e = .returned (.int .i64 (chkE R l.sp : Nat)) ∧ Below v.heap.size v w' from fun v av cv hb hy => by
  rw [hLP]
  have := check_is K s0 v (hT.below hb hlow) bb hbb a n c xs (hxs.below hb) hn l.sp h.sp (placeK K s0 l.pl.toNat) (tagD_hash K s0 hT.len plS _) av (l.id ++ l.ow) cv l.am (by rw [hl64]; exact hy) (by omega) h.am R hR
  rw [hl64] at this
  exact this)
 have HPL := Lib.hid (show ∀ v, leafBad l = false → Tabs K s0 v → Calls Tryz.prog 51 #[.int .i64 l.pl] v fun e w' => e = .returned (arr (placeK K s0 l.pl.toNat)) ∧ Below v.heap.size v w' from fun v hv ht => by
  have hv' := of_decide_eq_false hv
  have e : ((l.pl.toNat : Nat) : Int) = l.pl := Int.toNat_of_nonneg (by omega)
  have := place_is K s0 v ht l.pl.toNat (by omega)
  rw [e] at this
  exact this)
 obtain ⟨e, he⟩ : ∃ e, e = leafE l := ⟨_, rfl⟩
 obtain ⟨pl, hpl⟩ : ∃ p, p = l.pl := ⟨_, rfl⟩
 rw [← he] at HCH
 rw [← hpl] at hs65
 have HS65 := Lib.hid hs65
 have HS66 := Lib.hid hs66
 have HT := Lib.hid hT
 have HB1 := Lib.hid hb1
 have H1 := Lib.hid h1
 have H2 := Lib.hid h2
 have HE := Lib.hid he
 have EPL := Lib.hid hpl
 have HR := Lib.hid (show ofE K s0 l bb xs = if leafBad l = true then 1 else ((chkE R l.sp : Nat) : Int) by rw [hR]; rfl)
 rw [← hLC, ← hLP]
 have HW1 := Lib.hid hW1
 clear hT hb1 h1 h2 he hpl hs65 hs66 hLC hLP hxs hbb hR hl64 hW1 hlow
 go_enter Tryz.func38, Tryz.ntmps38
 go_upto_region 1 with (fail)
 rw [← HW1.out]
 obtain ⟨G, hG⟩ : ∃ g, g = w.heap.size := ⟨_, rfl⟩
 rw [← hG] at H1 H2 HS65 HS66 ⊢
 have HG := Lib.hid hG
 clear hG HW1
 go_wp2_with (refine wpList_load_row rfl 41 (.tmp 2) rfl G rfl 41 LC.toArray (0, 0) _ H1.out Tryz.underlying41 rfl SZL.out ?_)
 refine (HCH.out _).mono ?_
 rintro _ w2 ⟨rfl, hw2⟩
 have hb2 : Below W1.heap.size W1 w2 := by rw [hw2]; exact (Below.refl _ _).alloc (Nat.le_refl _) _
 have H12 := Lib.hid (H1.out.below hb2 H1.out.lt)
 have H22 := Lib.hid (H2.out.below hb2 H2.out.lt)
 have HB2 := Lib.hid (HB1.out.trans (hb2.mono HB1.out.size))
 clear hw2 hb2 H1 H2 HB1
 cases hbad : leafBad l with
 | true =>
  have he1 : e = 1 := by rw [HE.out, leafE, if_pos hbad]
  subst he1
  have HFR := Lib.hid (show ofE K s0 l bb xs = 1 by rw [HR.out, if_pos hbad])
  clear hbad
  go_wp2_with fail
  go_ret
  exact ⟨ret_int HFR.out.symm, HB2.out⟩
 | false =>
  have he1 : e = 0 := by rw [HE.out, leafE, hbad]; rfl
  subst he1
  have HFR := Lib.hid (show ofE K s0 l bb xs = ((chkE R l.sp : Nat) : Int) by rw [HR.out, hbad]; rfl)
  have HPL2 := Lib.hid (fun v => HPL.out v hbad)
  clear hbad HPL
  obtain ⟨r, hr⟩ : ∃ r : Int, r = ((chkE R l.sp : Nat) : Int) := ⟨_, rfl⟩
  rw [← hr] at HFR HCK
  clear hr
  obtain ⟨PK, hPK⟩ : ∃ k, k = placeK K s0 l.pl.toNat := ⟨_, rfl⟩
  rw [← hPK] at HCK
  rw [← hPK, ← EPL.out] at HPL2
  clear hPK
  obtain ⟨LN, hLN⟩ : ∃ L, L = ndV l.sp := ⟨_, rfl⟩
  rw [← hLN] at HCK SZN HS66
  clear hLN
  unfold arr leafV at HCK
  go_upto_region 4 with (fail)
  have hS0 : Has w2 G 41 LC.toArray ∧ Has w2 (G + 1) 107 LP.toArray := ⟨H12.out, H22.out⟩
  have hq0 : Below w.heap.size w w2 := HB2.out
  refine wp_region_noPanic ?_
  refine wp_region_held_drew (S := (fun v => Has v G 41 LC.toArray ∧ Has v (G + 1) 107 LP.toArray)) (by kernel_rfl) hS0 (fun hH0 => ?_)
  refine tk 0 (v := (.agg LP.toArray)) rfl (yieldsIf_load_mid (by kernel_rfl) 107 (.tmp 3) rfl (G + 1) 0 rfl LP _ (fun w' h => h.2.row0) Tryz.underlying107 rfl SZPL.out) hH0 ?_
  simp only [Act.put, qa]
  refine tk 1 (v := ((.pointer (some ⟨G, 66, none⟩)))) rfl (Or.inl ⟨by kernel_rfl, by intro w' hS; have z0 := (fun v (hv : Has v G 41 LC.toArray ∧ Has v (G + 1) 107 LP.toArray) => HS65.out v hv.1) w' hS; go_simp⟩) hH0 ?_
  simp only [Act.put, qa]
  refine tk 2 (v := (.agg LN.toArray)) rfl (yieldsIf_load_mid (by kernel_rfl) 39 (.tmp 12) rfl G 66 rfl LN _ (fun w' h => (HS66.out w' h.1)) Tryz.underlying39 rfl SZN.out) hH0 ?_
  simp only [Act.put, qa]
  refine tk 3 (v := ((.pointer (some ⟨G, 65, none⟩)))) rfl (Or.inl ⟨by kernel_rfl, by intro w' hS; have z0 := (fun v (hv : Has v G 41 LC.toArray ∧ Has v (G + 1) 107 LP.toArray) => HS65.out v hv.1) w' hS; go_simp⟩) hH0 ?_
  simp only [Act.put, qa]
  refine tk 4 (v := ((.int .i64 pl))) rfl (Or.inl ⟨by kernel_rfl, by intro w' hS; have z0 := (fun v (hv : Has v G 41 LC.toArray ∧ Has v (G + 1) 107 LP.toArray) => HS65.out v hv.1) w' hS; go_simp⟩) hH0 ?_
  simp only [Act.put, qa]
  refine tk 6 (v := (.agg LC.toArray)) rfl (yieldsIf_load_mid (by kernel_rfl) 41 (.tmp 2) rfl G 0 rfl LC _ (fun w' h => h.1.row0) Tryz.underlying41 rfl SZLL.out) hH0 ?_
  simp only [Act.put, qa]
  refine wpAnyH_ready (rs := [5]) (by kernel_rfl) (by simp) ?_
  refine AllReadyH.cons rfl (fun KK hKK => ?_) AllReadyH.nil
  go_simp
  refine (HPL2.out _ (HT.out.below (below_drew hq0) HT.out.low)).mono ?_
  rintro _ x2 ⟨rfl, hx2⟩
  unfold arr
  replace hx2 := below_undrew hx2
  have hs2 : Has x2 G 41 LC.toArray ∧ Has x2 (G + 1) 107 LP.toArray := ⟨hS0.1.below hx2 hS0.1.lt, hS0.2.below hx2 hS0.2.lt⟩
  have hq2 := hq0.trans (hx2.mono hq0.size)
  clear hx2
  refine Shut.out hKK _ _ hs2 (fun hH1 => ?_)
  clear hKK KK
  try simp only [Act.put, qa]
  refine wpAnyH_ready (rs := [7]) (by kernel_rfl) (by simp) ?_
  refine AllReadyH.cons rfl (fun KK hKK => ?_) AllReadyH.nil
  go_simp
  refine (HPT.out _).mono ?_
  rintro _ x4 ⟨a4, c4, rfl, hy4, hx4⟩
  unfold leafV
  have hs4 : Has x4 G 41 LC.toArray ∧ Has x4 (G + 1) 107 LP.toArray := ⟨hs2.1.below hx4 hs2.1.lt, hs2.2.below hx4 hs2.2.lt⟩
  have hq4 := hq2.trans (hx4.mono hq2.size)
  clear hx4
  refine Shut.out hKK _ _ hs4 (fun hH2 => ?_)
  clear hKK KK
  try simp only [Act.put, qa]
  refine wpAnyH_ready (rs := [8]) (by kernel_rfl) (by simp) ?_
  refine AllReadyH.cons rfl (fun KK hKK => ?_) AllReadyH.nil
  go_simp
  refine (HCK.out x4 a4 c4 hq4 hy4).mono ?_
  rintro _ x5 ⟨rfl, hx5⟩
  have hs5 : Has x5 G 41 LC.toArray ∧ Has x5 (G + 1) 107 LP.toArray := ⟨hs4.1.below hx5 hs4.1.lt, hs4.2.below hx5 hs4.2.lt⟩
  have HFN := Lib.hid (hq4.trans (hx5.mono hq4.size))
  clear hy4 hx5
  refine Shut.out hKK _ _ hs5 (fun hH3 => ?_)
  clear hKK KK
  try simp only [Act.put, qa]
  refine tk 9 (v := ((.int .i64 r))) rfl (Or.inl ⟨by kernel_rfl, by intro w' hS; have z0 := (fun v (hv : Has v G 41 LC.toArray ∧ Has v (G + 1) 107 LP.toArray) => HS65.out v hv.1) w' hS; go_simp⟩) hH3 ?_
  simp only [Act.put, qa]
  refine wpAnyH_done (by kernel_rfl) ?_ _
  refine NoPanic.normal ?_
  clear hS0 hs2 hs4 hs5 hq0 hq2 hq4
  go_wp2_with fail
  go_ret
  exact ⟨ret_int HFR.out.symm, HFN.out⟩
end Go.Proofs.YtniakgoefkbkhaaGreatDoor
/- What the listed variables give: the two tables of the digest hold 64 and 8 words. -/
namespace Go.Proofs.YtniakgoefkbkhaaGreatDoor
set_option linter.unusedVariables false
set_option linter.unusedSimpArgs false
open Go.ChangeShapes Go.WideShapes Go.ChangeAt Go.RowKit

theorem own : ownKnob Tryz.prog.godebug = none := by kernel_rfl
theorem laidOut : laidOutB Tryz.prog = true := by kernel_rfl
theorem gStart : Tryz.prog.globalNamed "moneyer/sha.start" = some 1 := by kernel_rfl
theorem gRounds : Tryz.prog.globalNamed "moneyer/sha.rounds" = some 2 := by kernel_rfl
theorem tStart : (Tryz.prog.globals[1]?).map (·.type) = some 69 := by kernel_rfl
theorem tRounds : (Tryz.prog.globals[2]?).map (·.type) = some 70 := by kernel_rfl
end Go.Proofs.YtniakgoefkbkhaaGreatDoor
/- What the listed variables hold, word by word: the reference's tables. -/
namespace Go.Proofs.YtniakgoefkbkhaaGreatDoor
set_option linter.unusedVariables false
set_option linter.unusedSimpArgs false
open Go.ChangeShapes Go.WideShapes Go.ChangeAt Go.RowKit

def KS : List Wd := ks64.map (BitVec.ofNat 32)
def SS : List Wd := ss8.map (BitVec.ofNat 32)
theorem ks_len : KS.length = 64 := by decide
theorem ss_len : SS.length = 8 := by decide
theorem words_at {H : Type} {enc : TypeId × Value → H} {P : Program} {w : World} {base : Nat} {spare : Nat → Bool} {held : Bool} {T e : TypeId} {n fuel : Nat} {cs : List Value} {d : DataW H} {p : List MemPlace} (l : List Nat)
  (ht : P.underlying T = some (.array n e)) (he : P.underlying e = some (.int .u32)) (h1 : P.cellsOf e = 1) (hT : P.cellsOf T = n) (hf : DataW.trod enc P w base spare held fuel T cs = some (d, p))
  (hd : d = .agg (l.map fun (k : Nat) => .lit (.int .u32 (k : Int)))) : ∀ i, i < n → cs[i]? = some (.int .u32 ((l.getD i 0 : Nat) : Int)) := by
 obtain ⟨xs, m, _, hx, hlen, hn, hall⟩ := DataW.trod_array ht hf
 rw [hT] at hlen
 subst hd
 have e3 : (xs.map (·.1)) = l.map fun (k : Nat) => (.lit (.int .u32 (k : Int)) : DataW H) := (DataW.agg.inj (Prod.mk.inj hx).1).symm
 have hll : l.length = n := by
  have := congrArg List.length e3
  simpa [hn] using this.symm
 intro i hi
 have hE := hall i hi
 rw [h1, Nat.mul_one, List.getElem?_eq_getElem (by omega)] at hE
 obtain ⟨k, hk1, e2, hw⟩ := DataW.trod_int he hE
 rw [List.drop_eq_getElem_cons (by omega)] at hk1
 simp only [List.take_succ_cons, List.take_zero, List.cons.injEq, and_true] at hk1
 have e4 : (xs.map (·.1))[i]? = (l.map fun (k : Nat) => (.lit (.int .u32 (k : Int)) : DataW H))[i]? := by rw [e3]
 rw [List.getElem?_map, List.getElem?_map, List.getElem?_eq_getElem (by omega : i < xs.length), List.getElem?_eq_getElem (by omega : i < l.length), e2] at e4
 simp only [Option.map_some, Option.some.injEq, DataW.lit.injEq, Lit.int.injEq, true_and] at e4
 rw [List.getElem?_eq_getElem (by omega), hk1, e4, List.getD_eq_getElem?_getD, List.getElem?_eq_getElem (by omega)]
 rfl
theorem ks_nat : ∀ i, i < 64 → (KS.getD i 0).toNat = ks64.getD i 0 := by decide
theorem ss_nat : ∀ i, i < 8 → (SS.getD i 0).toNat = ss8.getD i 0 := by decide
end Go.Proofs.YtniakgoefkbkhaaGreatDoor
