/- The walk of MsumLeaves. -/
import Derived.Test.YtcpomddkehhkkaaDoorLeaf0
import Derived.Test.YtcpomddkehhkkaaDoorMsum3
namespace Go.Proofs.YtcpomddkehhkkaaDoor
set_option linter.unusedVariables false
set_option linter.unusedSimpArgs false
open Go.ChangeShapes Go.WideShapes Go.ChangeAt Go.RowKit Go.Maps

theorem digs_small {x : Nat} (h : x < 18446744073709551616) : (digs x).length ≤ 1000 := by
  have := (digs_len x 8).2 (by rw [show 256 ^ 8 = 18446744073709551616 from rfl]; exact h)
  omega
theorem num_ok1 (w : World) (a : Option Addr) (n c x : Nat) (hd : DigAt w a n c (digs x)) (hx : x < 18446744073709551616) (hn : n ≤ 1000000) :
    Calls Tryd.prog 18 #[.slice a n c] w fun e w' => (∃ y : Nat, e = .returned (.tuple #[.int .u64 (y : Int), .bool true])) ∧ w' = w :=
  (num_is w a n c x hd hn).mono fun e w' ⟨⟨y, h1, _⟩, h2⟩ => ⟨⟨y, by rw [h1, decide_eq_true hx]⟩, h2⟩
theorem num_ok0 (w : World) (a : Option Addr) (n c x : Nat) (hd : DigAt w a n c (digs x)) (hx : ¬ x < 18446744073709551616) (hn : n ≤ 1000000) :
    Calls Tryd.prog 18 #[.slice a n c] w fun e w' => (∃ y : Nat, e = .returned (.tuple #[.int .u64 (y : Int), .bool false])) ∧ w' = w :=
  (num_is w a n c x hd hn).mono fun e w' ⟨⟨y, h1, _⟩, h2⟩ => ⟨⟨y, by rw [h1, decide_eq_false hx]⟩, h2⟩
theorem row_of {w : World} {B : Nat} {t : TypeId} {L : List Value} (h : Has w B t L.toArray) : w.rangeAt B 0 L := h.row0
theorem rn_neq {L : List Value} (h : List Nat) (s : Nat) (hx : IsHash h) (hL : L = ncells h s) : ∀ W : World, (binOp .neq 38 (.agg L.toArray) (.agg L.toArray)).run Tryd.prog W = .ok (.bool false) W := fun W => by
  have h := rn_eq h s hx W
  rw [hL, run_neq_struct, h]; rfl
set_option maxRecDepth 100000 in
set_option maxHeartbeats 8000000 in
theorem leaves_walk (w : World) (hT : Tabs KS SS w) (A : Option Addr) (bs : List Nat) (c s : Nat) (hs : s < 18446744073709551616) (hbl : bs.length ≤ 9223372036854775807) (hby : Bytes w w.heap.size (.slice A bs.length c) bs)
    (ha : List Nat) (sa : Nat) (hha : IsHash ha) (hsa : sa < 18446744073709551616) (hb : List Nat) (sb : Nat) (hhb : IsHash hb) (hsb : sb < 18446744073709551616) :
    Calls Tryd.prog 3 #[leafV (.slice A bs.length c) s, nodeV ha sa, nodeV hb sb] w fun e w' => e = .returned (.bool true) ∧ Below w.heap.size w w' := by
  obtain ⟨Z, hz, hbdZ, hZs, hZn, hZe⟩ := zn_node
  obtain ⟨ZT, -, hzt, hZTs, hZTn, -, -⟩ := zero_tab
  obtain ⟨n, hn⟩ : ∃ n, n = bs.length := ⟨_, rfl⟩
  rw [← hn] at hby hbl ⊢
  obtain ⟨LL, hLL⟩ : ∃ L, L = [Value.slice A n c, .int .u64 (s : Int)] := ⟨_, rfl⟩
  obtain ⟨LA, hLA⟩ : ∃ L, L = ncells ha sa := ⟨_, rfl⟩
  obtain ⟨LB, hLB⟩ : ∃ L, L = ncells hb sb := ⟨_, rfl⟩
  obtain ⟨D1, hD1⟩ : ∃ D, D = digest KS SS (bs ++ eight s) := ⟨_, rfl⟩
  obtain ⟨L1, hL1⟩ : ∃ L, L = ncells D1 s := ⟨_, rfl⟩
  obtain ⟨LT, hLT⟩ : ∃ L, L = tabsL SS KS := ⟨_, rfl⟩
  have hd1 : IsHash D1 := by rw [hD1]; exact digest_hash KS SS ss_len _
  have la := nd_row ha sa hha.1
  have lb := nd_row hb sb hhb.1
  rw [← hLA] at la
  rw [← hLB] at lb
  have lt := tabs_length KS SS ks_len ss_len
  rw [← hLT] at lt
  have hneq := rn_neq D1 s hd1 hL1
  have ea : nodeV ha sa = .agg LA.toArray := by rw [hLA]; rfl
  have eb : nodeV hb sb = .agg LB.toArray := by rw [hLB]; rfl
  have el : leafV (.slice A n c) s = .agg LL.toArray := by rw [hLL]; rfl
  rw [ea, eb, el]
  have s1 : ∀ (x : World) o, (x.alloc o).heap.size = x.heap.size + 1 := fun x o => by simp
  have b0 := ((Has.new w 25 LL.toArray).alloc (.cells LA.toArray 29)).alloc (.cells LB.toArray 29)
  have b1 := (Has.new (w.alloc (.cells LL.toArray 25)) 29 LA.toArray).alloc (.cells LB.toArray 29)
  have b2 := Has.new ((w.alloc (.cells LL.toArray 25)).alloc (.cells LA.toArray 29)) 29 LB.toArray
  rw [s1] at b1
  rw [s1, s1] at b2
  have hbel := (((Below.refl w.heap.size w).alloc (Nat.le_refl _) (.cells LL.toArray 25)).alloc (by rw [s1]; omega) (.cells LA.toArray 29)).alloc (by rw [s1, s1]; omega) (.cells LB.toArray 29)
  have HB0 := Lib.hid b0
  have HB1 := Lib.hid b1
  have HB2 := Lib.hid b2
  have HBEL := Lib.hid hbel
  have HT := Lib.hid hT
  have HBY := Lib.hid hby
  have ELL := Lib.hid hLL
  have EL1 := Lib.hid (And.intro hD1 hL1)
  have ELT := Lib.hid hLT
  have EN := Lib.hid hn
  have ELA := Lib.hid (And.intro hLA hLB)
  have HIS := Lib.hid (And.intro hha hhb)
  have HD1 := Lib.hid hd1
  have HCA := Lib.hid (And.intro la.2 lb.2)
  have HS64 := Lib.hid (And.intro hsa hsb)
  have HSS := Lib.hid hs
  have EZ := Lib.hid hZs
  have EZE := Lib.hid hZe
  have HBDZ := Lib.hid hbdZ
  have EZT := Lib.hid hZTs
  have HLT := Lib.hid lt
  have SZL := Lib.hid (show (Tryd.prog.info? 25).map (·.size) = some LL.length by rw [hLL]; kernel_rfl)
  have SZA := Lib.hid (show (Tryd.prog.info? 29).map (·.size) = some LA.length by rw [la.1]; kernel_rfl)
  have SZB := Lib.hid (show (Tryd.prog.info? 29).map (·.size) = some LB.length by rw [lb.1]; kernel_rfl)
  have SZT := Lib.hid (show (Tryd.prog.info? 35).map (·.size) = some LT.length by rw [lt]; kernel_rfl)
  have SZT2 := Lib.hid (show (Tryd.prog.info? 35).map (·.size) = some LT.toArray.size by rw [List.size_toArray, lt]; kernel_rfl)
  have ONET := Lib.hid (show LT.toArray.all (·.oneCell') = true by rw [hLT, ← tab_words]; exact tab_one)
  have HZT := Lib.hid (show ZT.size = LT.toArray.size by rw [hZTs, List.size_toArray, lt])
  have HMAKE := Lib.hid (show ∀ x, Calls Tryd.prog 12 #[] x fun e w' => e = .returned (.agg LT.toArray) ∧ Below x.heap.size x w' from fun x => by rw [hLT, ← tab_words]; exact make_is x)
  have HPL1 := Lib.hid (show ∀ x, Calls Tryd.prog 13 #[.agg L1.toArray] x fun e w' => e = .returned (.agg L1.toArray) ∧ Below x.heap.size x w' from fun x => by rw [hL1]; exact plain_is x D1 s hd1.1)
  have HPLA := Lib.hid (show ∀ x, Calls Tryd.prog 13 #[.agg LA.toArray] x fun e w' => e = .returned (.agg LA.toArray) ∧ Below x.heap.size x w' from fun x => by rw [hLA]; exact plain_is x ha sa hha.1)
  have HPLB := Lib.hid (show ∀ x, Calls Tryd.prog 13 #[.agg LB.toArray] x fun e w' => e = .returned (.agg LB.toArray) ∧ Below x.heap.size x w' from fun x => by rw [hLB]; exact plain_is x hb sb hhb.1)
  have HNEQ := Lib.hid hneq
  have hnn : 0 ≤ (n : Int) ∧ (n : Int) ≤ 9223372036854775807 := by omega
  have HNN := Lib.hid hbl
  clear b0 b1 b2 hbel hT hby hLL hD1 hL1 hLT hn hLA hLB hha hhb hd1 la lb hsa hsb hs hZs hZe hbdZ hZTs lt ea eb el s1 hneq hbl
  go_enter Tryd.func3, Tryd.ntmps3
  go_upto_region 1 with (fail)
  generalize ((w.alloc (.cells LL.toArray 25)).alloc (.cells LA.toArray 29)).alloc (.cells LB.toArray 29) = W1 at HB0 HB1 HB2 HBEL ⊢
  obtain ⟨Bl, hBl⟩ : ∃ B, B = w.heap.size := ⟨_, rfl⟩
  obtain ⟨Ba, hBa⟩ : ∃ B, B = w.heap.size + 1 := ⟨_, rfl⟩
  obtain ⟨Bb, hBb⟩ : ∃ B, B = w.heap.size + 1 + 1 := ⟨_, rfl⟩
  rw [← hBb] at HB2
  rw [← hBa] at HB1
  rw [← hBl] at HB0
  rw [← hBl]
  try rw [show Bl + 1 + 1 = Bb by omega]
  try rw [show Bl + 2 = Bb by omega]
  rw [show Bl + 1 = Ba by omega]
  have EB := Lib.hid (And.intro hBl (And.intro hBa hBb))
  clear hBl hBa hBb
  go_wp2_with fail
  refine (leaf_is W1 (HT.out.below HBEL.out HT.out.low)).mono ?_
  rintro _ w2 ⟨rfl, hb2⟩
  have HBE2 := Lib.hid (HBEL.out.trans (hb2.mono HBEL.out.size))
  have HK2 := Lib.hid (show Kept (fun _ => False) W1 w2 from Kept.of_below hb2)
  clear hb2
  have d0 : w2.cell? ⟨Bl, 0, none⟩ = some (.slice A n c) := (HB0.out.kept HK2.out (fun h => h)).cell_is (by rw [ELL.out]; rfl)
  by_cases hlong : 1000 < n
  · have hlong' : (1000 : Int) < (n : Int) := by omega
    go_wp2
    go_ret
    exact ⟨rfl, HBE2.out⟩
  have HL := Lib.hid hlong
  have hlong' : ¬ (1000 : Int) < (n : Int) := by omega
  clear hlong
  go_wp2_with fail
  refine (HMAKE.out _).mono ?_
  rintro _ w3 ⟨rfl, hb3⟩
  have h9 := Has.new w3 35 ZT
  have hw7 : Has ((w3.alloc (.cells ZT 35)).setRow w3.heap.size LT.toArray) w3.heap.size 35 LT.toArray ∧ Kept (fun _ => False) W1 ((w3.alloc (.cells ZT 35)).setRow w3.heap.size LT.toArray) := by
    rw [World.setRow_alloc_new]
    exact ⟨Has.new _ _ _, (HK2.out.trans (Kept.of_below hb3)).trans ((Kept.refl _ _).alloc _)⟩
  have H9 := Lib.hid h9
  have HW7 := Lib.hid hw7
  clear hb3 h9 hw7 d0 hlong'
  go_upto_region 6 with (refine wpList_store_row rfl 35 (.tmp 7) (.tmp 18) rfl w3.heap.size LT.toArray rfl rfl 35 ZT H9.out SZT2.out HZT.out ONET.out ?_)
  generalize (w3.alloc (.cells ZT 35)).setRow w3.heap.size LT.toArray = W7 at HW7 ⊢
  obtain ⟨Bt, hBt⟩ : ∃ B, B = w3.heap.size := ⟨_, rfl⟩
  rw [← hBt] at HW7 ⊢
  clear hBt H9
  have HBE7 := Lib.hid (HBEL.out.trans (HW7.out.2.below HBEL.out.size (fun _ h => h.elim)))
  have HKS := Lib.hid (show ∀ v, Kept (fun _ => False) W7 v → v.rangeAt Bl 0 LL ∧ v.cell? ⟨Bl, 0, none⟩ = some (.slice A n c) ∧ v.cell? ⟨Bl, 1, none⟩ = some (.int .u64 (s : Int)) ∧ v.rangeAt Bt 0 LT from fun v hk => by
    have hl := HB0.out.kept (HW7.out.2.trans hk) (fun h => h)
    exact ⟨row_of hl, hl.cell_is (by rw [ELL.out]; rfl), hl.cell_is (by rw [ELL.out]; rfl), row_of (HW7.out.1.kept hk (fun h => h))⟩)
  have hbx : ∀ x, Kept (fun _ => False) W7 x → Bytes x x.heap.size (.slice A n c) bs := fun x hk => by
    have h := HBE7.out.trans (hk.below HBE7.out.size (fun _ h => h.elim))
    have hq := HBY.out
    rw [EN.out] at hq ⊢
    exact hq.alive h h.size
  have htx : ∀ x, Kept (fun _ => False) W7 x → Tabs KS SS x := fun x hk => HT.out.below (HBE7.out.trans (hk.below HBE7.out.size (fun _ h => h.elim))) HT.out.low
  have HTX := Lib.hid htx
  have HNODE := Lib.hid (show ∀ x, Kept (fun _ => False) W7 x → Calls Tryd.prog 14 #[.agg LL.toArray] x fun e w' => e = .returned (.agg L1.toArray) ∧ Below x.heap.size x w' from fun x hk => by
    have h := leafNode_is KS SS x (.slice A n c) bs s (htx x hk) (hbx x hk) (by have := HL.out; have := EN.out; omega) HSS.out
    rw [← EL1.out.1] at h
    rw [ELL.out, EL1.out.2]; exact h)
  have HOF := Lib.hid (show ∀ x, Kept (fun _ => False) W7 x → Calls Tryd.prog 15 #[.agg LT.toArray, .slice A n c, .int .u64 (s : Int)] x fun e w' => e = .returned (.agg L1.toArray) ∧ Below x.heap.size x w' from fun x hk => by
    have h := refOf_is KS SS ks_len ss_len x (.slice A n c) bs s (hbx x hk) (by have := HL.out; have := EN.out; omega) HSS.out
    rw [← EL1.out.1] at h
    rw [ELT.out, EL1.out.2]; exact h)
  have h3 : (((n : Int) == 0) = true ∧ ((s : Int) == 0) = true ∧ decide (n = 0 ∧ s = 0) = true) ∨ (((n : Int) == 0) = true ∧ ((s : Int) == 0) = false ∧ decide (n = 0 ∧ s = 0) = false) ∨ (((n : Int) == 0) = false ∧ decide (n = 0 ∧ s = 0) = false) := by
    by_cases h0 : n = 0
    · by_cases h1 : s = 0
      · exact .inl ⟨by simp [h0], by simp [h1], by simp [h0, h1]⟩
      · exact .inr (.inl ⟨by simp [h0], by simp [h1], by simp [h1]⟩)
    · exact .inr (.inr ⟨by simp [h0], by simp [h0]⟩)
  have hnone : ∀ b, decide (n = 0 ∧ s = 0) = b → ∀ x, Calls Tryd.prog 16 #[.agg LL.toArray] x fun e w' => e = .returned (.bool b) ∧ Below x.heap.size x w' := fun b hb x => by
    have h := none_is x A n c s HNN.out
    rw [hb] at h
    rw [ELL.out]; exact h
  have hKept0 : Kept (fun _ => False) W7 W7.drew := (Kept.refl _ _).drew
  have hS0 := HKS.out W7 (Kept.refl _ _)
  clear hbx htx
  have HNONE0 := Lib.hid hnone
  clear hnone
  rcases h3 with ⟨e1, e2, e3⟩ | ⟨e1, e2, e3⟩ | ⟨e1, e3⟩
  case' inl =>
      have HNONE := Lib.hid (HNONE0.out _ e3)
      clear e3 HNONE0
      have hneq := HNEQ.out
      refine wp_region_noPanic ?_
      refine wp_region_held_drew (S := (fun v => v.rangeAt Bl 0 LL ∧ v.cell? ⟨Bl, 0, none⟩ = some (.slice A n c) ∧ v.cell? ⟨Bl, 1, none⟩ = some (.int .u64 (s : Int)) ∧ v.rangeAt Bt 0 LT)) (by kernel_rfl) hS0 (fun hH0 => ?_)
      refine wpAnyH_take (i := 0) (v := (.agg LL.toArray)) rfl (by kernel_rfl) (by kernel_rfl) (by kernel_rfl) (fun _ _ _ h => h) (yieldsIf_load_mid (by kernel_rfl) 25 (.tmp 3) rfl Bl 0 rfl LL _ (fun w' h => h.1) Tryd.underlying25 rfl SZL.out) hH0 ?_
      simp only [Act.put, List.getElem_toArray, List.getElem_cons_zero, List.getElem_cons_succ, List.setIfInBounds_toArray, List.set_cons_zero, List.set_cons_succ]
      refine wpAnyH_take (i := 3) (v := (.agg LT.toArray)) rfl (by kernel_rfl) (by kernel_rfl) (by kernel_rfl) (fun _ _ _ h => h) (yieldsIf_load_mid (by kernel_rfl) 35 (.tmp 7) rfl Bt 0 rfl LT _ (fun w' h => h.2.2.2) Tryd.underlying35 rfl SZT.out) hH0 ?_
      simp only [Act.put, List.getElem_toArray, List.getElem_cons_zero, List.getElem_cons_succ, List.setIfInBounds_toArray, List.set_cons_zero, List.set_cons_succ]
      refine wpAnyH_take (i := 4) (v := ((.pointer (some ⟨Bl, 0, none⟩)))) rfl (by kernel_rfl) (by kernel_rfl) (by kernel_rfl) (fun _ _ _ h => h) (Or.inl ⟨by kernel_rfl, by intro w' hS; obtain ⟨z0, z1, z2, z3⟩ := hS; go_simp⟩) hH0 ?_
      simp only [Act.put, List.getElem_toArray, List.getElem_cons_zero, List.getElem_cons_succ, List.setIfInBounds_toArray, List.set_cons_zero, List.set_cons_succ]
      refine wpAnyH_take (i := 5) (v := ((.slice A n c))) rfl (by kernel_rfl) (by kernel_rfl) (by kernel_rfl) (fun _ _ _ h => h) (Or.inl ⟨by kernel_rfl, by intro w' hS; obtain ⟨z0, z1, z2, z3⟩ := hS; go_simp⟩) hH0 ?_
      simp only [Act.put, List.getElem_toArray, List.getElem_cons_zero, List.getElem_cons_succ, List.setIfInBounds_toArray, List.set_cons_zero, List.set_cons_succ]
      refine wpAnyH_take (i := 6) (v := ((.pointer (some ⟨Bl, 1, none⟩)))) rfl (by kernel_rfl) (by kernel_rfl) (by kernel_rfl) (fun _ _ _ h => h) (Or.inl ⟨by kernel_rfl, by intro w' hS; obtain ⟨z0, z1, z2, z3⟩ := hS; go_simp⟩) hH0 ?_
      simp only [Act.put, List.getElem_toArray, List.getElem_cons_zero, List.getElem_cons_succ, List.setIfInBounds_toArray, List.set_cons_zero, List.set_cons_succ]
      refine wpAnyH_take (i := 7) (v := ((.int .u64 (s : Int)))) rfl (by kernel_rfl) (by kernel_rfl) (by kernel_rfl) (fun _ _ _ h => h) (Or.inl ⟨by kernel_rfl, by intro w' hS; obtain ⟨z0, z1, z2, z3⟩ := hS; go_simp⟩) hH0 ?_
      simp only [Act.put, List.getElem_toArray, List.getElem_cons_zero, List.getElem_cons_succ, List.setIfInBounds_toArray, List.set_cons_zero, List.set_cons_succ]
      refine wpAnyH_ready (rs := [1]) (by kernel_rfl) (by simp) ?_
      refine AllReadyH.cons rfl (fun K hK => ?_) AllReadyH.nil
      go_simp
      refine (HNODE.out _ hKept0).mono ?_
      rintro _ x1 ⟨rfl, hc1⟩
      have hk1 : Kept (fun _ => False) W7 x1 := hKept0.trans (Kept.of_below hc1)
      have hs1 := HKS.out _ hk1
      refine Shut.out hK _ _ hs1 (fun hH1 => ?_)
      clear hK K
      try simp only [Act.put, List.getElem_toArray, List.getElem_cons_zero, List.getElem_cons_succ, List.setIfInBounds_toArray, List.set_cons_zero, List.set_cons_succ]
      refine wpAnyH_ready (rs := [2]) (by kernel_rfl) (by simp) ?_
      refine AllReadyH.cons rfl (fun K hK => ?_) AllReadyH.nil
      go_simp
      refine (HPL1.out _).mono ?_
      rintro _ x2 ⟨rfl, hc2⟩
      have hk2 := hk1.trans (Kept.of_below hc2)
      have hs2 := HKS.out _ hk2
      refine Shut.out hK _ _ hs2 (fun hH2 => ?_)
      clear hK K
      try simp only [Act.put, List.getElem_toArray, List.getElem_cons_zero, List.getElem_cons_succ, List.setIfInBounds_toArray, List.set_cons_zero, List.set_cons_succ]
      refine wpAnyH_ready (rs := [8]) (by kernel_rfl) (by simp) ?_
      refine AllReadyH.cons rfl (fun K hK => ?_) AllReadyH.nil
      go_simp
      refine (HOF.out _ hk2).mono ?_
      rintro _ x3 ⟨rfl, hc3⟩
      have hk3 := hk2.trans (Kept.of_below hc3)
      have hs3 := HKS.out _ hk3
      refine Shut.out hK _ _ hs3 (fun hH3 => ?_)
      clear hK K
      try simp only [Act.put, List.getElem_toArray, List.getElem_cons_zero, List.getElem_cons_succ, List.setIfInBounds_toArray, List.set_cons_zero, List.set_cons_succ]
      refine wpAnyH_take (i := 9) (v := ((.bool false))) rfl (by kernel_rfl) (by kernel_rfl) (by kernel_rfl) (fun _ _ _ h => h) (Or.inl ⟨by kernel_rfl, by intro w' hS; obtain ⟨z0, z1, z2, z3⟩ := hS; go_simp⟩) hH3 ?_
      simp only [Act.put, List.getElem_toArray, List.getElem_cons_zero, List.getElem_cons_succ, List.setIfInBounds_toArray, List.set_cons_zero, List.set_cons_succ]
      refine wpAnyH_take (i := 10) (v := ((.bool false))) rfl (by kernel_rfl) (by kernel_rfl) (by kernel_rfl) (fun _ _ _ h => h) (Or.inl ⟨by kernel_rfl, by intro w' hS; obtain ⟨z0, z1, z2, z3⟩ := hS; go_simp⟩) hH3 ?_
      simp only [Act.put, List.getElem_toArray, List.getElem_cons_zero, List.getElem_cons_succ, List.setIfInBounds_toArray, List.set_cons_zero, List.set_cons_succ]
      refine wpAnyH_take (i := 11) (v := (.agg LL.toArray)) rfl (by kernel_rfl) (by kernel_rfl) (by kernel_rfl) (fun _ _ _ h => h) (yieldsIf_load_mid (by kernel_rfl) 25 (.tmp 3) rfl Bl 0 rfl LL _ (fun w' h => h.1) Tryd.underlying25 rfl SZL.out) hH3 ?_
      simp only [Act.put, List.getElem_toArray, List.getElem_cons_zero, List.getElem_cons_succ, List.setIfInBounds_toArray, List.set_cons_zero, List.set_cons_succ]
      refine wpAnyH_take (i := 13) (v := ((.pointer (some ⟨Bl, 0, none⟩)))) rfl (by kernel_rfl) (by kernel_rfl) (by kernel_rfl) (fun _ _ _ h => h) (Or.inl ⟨by kernel_rfl, by intro w' hS; obtain ⟨z0, z1, z2, z3⟩ := hS; go_simp⟩) hH3 ?_
      simp only [Act.put, List.getElem_toArray, List.getElem_cons_zero, List.getElem_cons_succ, List.setIfInBounds_toArray, List.set_cons_zero, List.set_cons_succ]
      refine wpAnyH_take (i := 14) (v := ((.slice A n c))) rfl (by kernel_rfl) (by kernel_rfl) (by kernel_rfl) (fun _ _ _ h => h) (Or.inl ⟨by kernel_rfl, by intro w' hS; obtain ⟨z0, z1, z2, z3⟩ := hS; go_simp⟩) hH3 ?_
      simp only [Act.put, List.getElem_toArray, List.getElem_cons_zero, List.getElem_cons_succ, List.setIfInBounds_toArray, List.set_cons_zero, List.set_cons_succ]
      refine wpAnyH_take (i := 15) (v := ((.int .i64 (n : Int)))) rfl (by kernel_rfl) (by kernel_rfl) (by kernel_rfl) (fun _ _ _ h => h) (Or.inl ⟨by kernel_rfl, by intro w' hS; obtain ⟨z0, z1, z2, z3⟩ := hS; go_simp⟩) hH3 ?_
      simp only [Act.put, List.getElem_toArray, List.getElem_cons_zero, List.getElem_cons_succ, List.setIfInBounds_toArray, List.set_cons_zero, List.set_cons_succ]
      refine wpAnyH_take (i := 16) (v := ((.bool true))) rfl (by kernel_rfl) (by kernel_rfl) (by kernel_rfl) (fun _ _ _ h => h) (Or.inl ⟨by kernel_rfl, by intro w' hS; obtain ⟨z0, z1, z2, z3⟩ := hS; go_simp⟩) hH3 ?_
      simp only [Act.put, List.getElem_toArray, List.getElem_cons_zero, List.getElem_cons_succ, List.setIfInBounds_toArray, List.set_cons_zero, List.set_cons_succ]
      refine wpAnyH_ready (rs := [12]) (by kernel_rfl) (by simp) ?_
      refine AllReadyH.cons rfl (fun K hK => ?_) AllReadyH.nil
      go_simp
      refine (HNONE.out _).mono ?_
      rintro _ x4 ⟨rfl, hc4⟩
      have hk4 := hk3.trans (Kept.of_below hc4)
      have hs4 := HKS.out _ hk4
      have HK4 := Lib.hid hk4
      refine Shut.out hK _ _ hs4 (fun hH4 => ?_)
      clear hK K
      try simp only [Act.put, List.getElem_toArray, List.getElem_cons_zero, List.getElem_cons_succ, List.setIfInBounds_toArray, List.set_cons_zero, List.set_cons_succ]
      refine wpAnyH_take (i := 17) (v := ((.bool true))) rfl (by kernel_rfl) (by kernel_rfl) (by kernel_rfl) (fun _ _ _ h => h) (Or.inl ⟨by kernel_rfl, by intro w' hS; obtain ⟨z0, z1, z2, z3⟩ := hS; go_simp⟩) hH4 ?_
      simp only [Act.put, List.getElem_toArray, List.getElem_cons_zero, List.getElem_cons_succ, List.setIfInBounds_toArray, List.set_cons_zero, List.set_cons_succ]
      refine wpAnyH_take (i := 18) (v := ((.pointer (some ⟨Bl, 1, none⟩)))) rfl (by kernel_rfl) (by kernel_rfl) (by kernel_rfl) (fun _ _ _ h => h) (Or.inl ⟨by kernel_rfl, by intro w' hS; obtain ⟨z0, z1, z2, z3⟩ := hS; go_simp⟩) hH4 ?_
      simp only [Act.put, List.getElem_toArray, List.getElem_cons_zero, List.getElem_cons_succ, List.setIfInBounds_toArray, List.set_cons_zero, List.set_cons_succ]
      refine wpAnyH_take (i := 19) (v := ((.int .u64 (s : Int)))) rfl (by kernel_rfl) (by kernel_rfl) (by kernel_rfl) (fun _ _ _ h => h) (Or.inl ⟨by kernel_rfl, by intro w' hS; obtain ⟨z0, z1, z2, z3⟩ := hS; go_simp⟩) hH4 ?_
      simp only [Act.put, List.getElem_toArray, List.getElem_cons_zero, List.getElem_cons_succ, List.setIfInBounds_toArray, List.set_cons_zero, List.set_cons_succ]
      refine wpAnyH_take (i := 20) (v := ((.bool true))) rfl (by kernel_rfl) (by kernel_rfl) (by kernel_rfl) (fun _ _ _ h => h) (Or.inl ⟨by kernel_rfl, by intro w' hS; obtain ⟨z0, z1, z2, z3⟩ := hS; go_simp⟩) hH4 ?_
      simp only [Act.put, List.getElem_toArray, List.getElem_cons_zero, List.getElem_cons_succ, List.setIfInBounds_toArray, List.set_cons_zero, List.set_cons_succ]
      refine wpAnyH_take (i := 21) (v := ((.bool true))) rfl (by kernel_rfl) (by kernel_rfl) (by kernel_rfl) (fun _ _ _ h => h) (Or.inl ⟨by kernel_rfl, by intro w' hS; obtain ⟨z0, z1, z2, z3⟩ := hS; go_simp⟩) hH4 ?_
      simp only [Act.put, List.getElem_toArray, List.getElem_cons_zero, List.getElem_cons_succ, List.setIfInBounds_toArray, List.set_cons_zero, List.set_cons_succ]
      refine wpAnyH_take (i := 22) (v := ((.bool false))) rfl (by kernel_rfl) (by kernel_rfl) (by kernel_rfl) (fun _ _ _ h => h) (Or.inl ⟨by kernel_rfl, by intro w' hS; obtain ⟨z0, z1, z2, z3⟩ := hS; go_simp⟩) hH4 ?_
      simp only [Act.put, List.getElem_toArray, List.getElem_cons_zero, List.getElem_cons_succ, List.setIfInBounds_toArray, List.set_cons_zero, List.set_cons_succ]
      refine wpAnyH_take (i := 23) (v := ((.bool false))) rfl (by kernel_rfl) (by kernel_rfl) (by kernel_rfl) (fun _ _ _ h => h) (Or.inl ⟨by kernel_rfl, by intro w' hS; obtain ⟨z0, z1, z2, z3⟩ := hS; go_simp⟩) hH4 ?_
      simp only [Act.put, List.getElem_toArray, List.getElem_cons_zero, List.getElem_cons_succ, List.setIfInBounds_toArray, List.set_cons_zero, List.set_cons_succ]
      refine wpAnyH_done (by kernel_rfl) ?_ _
  case' inr.inl =>
      have HNONE := Lib.hid (HNONE0.out _ e3)
      clear e3 HNONE0
      have hneq := HNEQ.out
      refine wp_region_noPanic ?_
      refine wp_region_held_drew (S := (fun v => v.rangeAt Bl 0 LL ∧ v.cell? ⟨Bl, 0, none⟩ = some (.slice A n c) ∧ v.cell? ⟨Bl, 1, none⟩ = some (.int .u64 (s : Int)) ∧ v.rangeAt Bt 0 LT)) (by kernel_rfl) hS0 (fun hH0 => ?_)
      refine wpAnyH_take (i := 0) (v := (.agg LL.toArray)) rfl (by kernel_rfl) (by kernel_rfl) (by kernel_rfl) (fun _ _ _ h => h) (yieldsIf_load_mid (by kernel_rfl) 25 (.tmp 3) rfl Bl 0 rfl LL _ (fun w' h => h.1) Tryd.underlying25 rfl SZL.out) hH0 ?_
      simp only [Act.put, List.getElem_toArray, List.getElem_cons_zero, List.getElem_cons_succ, List.setIfInBounds_toArray, List.set_cons_zero, List.set_cons_succ]
      refine wpAnyH_take (i := 3) (v := (.agg LT.toArray)) rfl (by kernel_rfl) (by kernel_rfl) (by kernel_rfl) (fun _ _ _ h => h) (yieldsIf_load_mid (by kernel_rfl) 35 (.tmp 7) rfl Bt 0 rfl LT _ (fun w' h => h.2.2.2) Tryd.underlying35 rfl SZT.out) hH0 ?_
      simp only [Act.put, List.getElem_toArray, List.getElem_cons_zero, List.getElem_cons_succ, List.setIfInBounds_toArray, List.set_cons_zero, List.set_cons_succ]
      refine wpAnyH_take (i := 4) (v := ((.pointer (some ⟨Bl, 0, none⟩)))) rfl (by kernel_rfl) (by kernel_rfl) (by kernel_rfl) (fun _ _ _ h => h) (Or.inl ⟨by kernel_rfl, by intro w' hS; obtain ⟨z0, z1, z2, z3⟩ := hS; go_simp⟩) hH0 ?_
      simp only [Act.put, List.getElem_toArray, List.getElem_cons_zero, List.getElem_cons_succ, List.setIfInBounds_toArray, List.set_cons_zero, List.set_cons_succ]
      refine wpAnyH_take (i := 5) (v := ((.slice A n c))) rfl (by kernel_rfl) (by kernel_rfl) (by kernel_rfl) (fun _ _ _ h => h) (Or.inl ⟨by kernel_rfl, by intro w' hS; obtain ⟨z0, z1, z2, z3⟩ := hS; go_simp⟩) hH0 ?_
      simp only [Act.put, List.getElem_toArray, List.getElem_cons_zero, List.getElem_cons_succ, List.setIfInBounds_toArray, List.set_cons_zero, List.set_cons_succ]
      refine wpAnyH_take (i := 6) (v := ((.pointer (some ⟨Bl, 1, none⟩)))) rfl (by kernel_rfl) (by kernel_rfl) (by kernel_rfl) (fun _ _ _ h => h) (Or.inl ⟨by kernel_rfl, by intro w' hS; obtain ⟨z0, z1, z2, z3⟩ := hS; go_simp⟩) hH0 ?_
      simp only [Act.put, List.getElem_toArray, List.getElem_cons_zero, List.getElem_cons_succ, List.setIfInBounds_toArray, List.set_cons_zero, List.set_cons_succ]
      refine wpAnyH_take (i := 7) (v := ((.int .u64 (s : Int)))) rfl (by kernel_rfl) (by kernel_rfl) (by kernel_rfl) (fun _ _ _ h => h) (Or.inl ⟨by kernel_rfl, by intro w' hS; obtain ⟨z0, z1, z2, z3⟩ := hS; go_simp⟩) hH0 ?_
      simp only [Act.put, List.getElem_toArray, List.getElem_cons_zero, List.getElem_cons_succ, List.setIfInBounds_toArray, List.set_cons_zero, List.set_cons_succ]
      refine wpAnyH_ready (rs := [1]) (by kernel_rfl) (by simp) ?_
      refine AllReadyH.cons rfl (fun K hK => ?_) AllReadyH.nil
      go_simp
      refine (HNODE.out _ hKept0).mono ?_
      rintro _ x1 ⟨rfl, hc1⟩
      have hk1 : Kept (fun _ => False) W7 x1 := hKept0.trans (Kept.of_below hc1)
      have hs1 := HKS.out _ hk1
      refine Shut.out hK _ _ hs1 (fun hH1 => ?_)
      clear hK K
      try simp only [Act.put, List.getElem_toArray, List.getElem_cons_zero, List.getElem_cons_succ, List.setIfInBounds_toArray, List.set_cons_zero, List.set_cons_succ]
      refine wpAnyH_ready (rs := [2]) (by kernel_rfl) (by simp) ?_
      refine AllReadyH.cons rfl (fun K hK => ?_) AllReadyH.nil
      go_simp
      refine (HPL1.out _).mono ?_
      rintro _ x2 ⟨rfl, hc2⟩
      have hk2 := hk1.trans (Kept.of_below hc2)
      have hs2 := HKS.out _ hk2
      refine Shut.out hK _ _ hs2 (fun hH2 => ?_)
      clear hK K
      try simp only [Act.put, List.getElem_toArray, List.getElem_cons_zero, List.getElem_cons_succ, List.setIfInBounds_toArray, List.set_cons_zero, List.set_cons_succ]
      refine wpAnyH_ready (rs := [8]) (by kernel_rfl) (by simp) ?_
      refine AllReadyH.cons rfl (fun K hK => ?_) AllReadyH.nil
      go_simp
      refine (HOF.out _ hk2).mono ?_
      rintro _ x3 ⟨rfl, hc3⟩
      have hk3 := hk2.trans (Kept.of_below hc3)
      have hs3 := HKS.out _ hk3
      refine Shut.out hK _ _ hs3 (fun hH3 => ?_)
      clear hK K
      try simp only [Act.put, List.getElem_toArray, List.getElem_cons_zero, List.getElem_cons_succ, List.setIfInBounds_toArray, List.set_cons_zero, List.set_cons_succ]
      refine wpAnyH_take (i := 9) (v := ((.bool false))) rfl (by kernel_rfl) (by kernel_rfl) (by kernel_rfl) (fun _ _ _ h => h) (Or.inl ⟨by kernel_rfl, by intro w' hS; obtain ⟨z0, z1, z2, z3⟩ := hS; go_simp⟩) hH3 ?_
      simp only [Act.put, List.getElem_toArray, List.getElem_cons_zero, List.getElem_cons_succ, List.setIfInBounds_toArray, List.set_cons_zero, List.set_cons_succ]
      refine wpAnyH_take (i := 10) (v := ((.bool false))) rfl (by kernel_rfl) (by kernel_rfl) (by kernel_rfl) (fun _ _ _ h => h) (Or.inl ⟨by kernel_rfl, by intro w' hS; obtain ⟨z0, z1, z2, z3⟩ := hS; go_simp⟩) hH3 ?_
      simp only [Act.put, List.getElem_toArray, List.getElem_cons_zero, List.getElem_cons_succ, List.setIfInBounds_toArray, List.set_cons_zero, List.set_cons_succ]
      refine wpAnyH_take (i := 11) (v := (.agg LL.toArray)) rfl (by kernel_rfl) (by kernel_rfl) (by kernel_rfl) (fun _ _ _ h => h) (yieldsIf_load_mid (by kernel_rfl) 25 (.tmp 3) rfl Bl 0 rfl LL _ (fun w' h => h.1) Tryd.underlying25 rfl SZL.out) hH3 ?_
      simp only [Act.put, List.getElem_toArray, List.getElem_cons_zero, List.getElem_cons_succ, List.setIfInBounds_toArray, List.set_cons_zero, List.set_cons_succ]
      refine wpAnyH_take (i := 13) (v := ((.pointer (some ⟨Bl, 0, none⟩)))) rfl (by kernel_rfl) (by kernel_rfl) (by kernel_rfl) (fun _ _ _ h => h) (Or.inl ⟨by kernel_rfl, by intro w' hS; obtain ⟨z0, z1, z2, z3⟩ := hS; go_simp⟩) hH3 ?_
      simp only [Act.put, List.getElem_toArray, List.getElem_cons_zero, List.getElem_cons_succ, List.setIfInBounds_toArray, List.set_cons_zero, List.set_cons_succ]
      refine wpAnyH_take (i := 14) (v := ((.slice A n c))) rfl (by kernel_rfl) (by kernel_rfl) (by kernel_rfl) (fun _ _ _ h => h) (Or.inl ⟨by kernel_rfl, by intro w' hS; obtain ⟨z0, z1, z2, z3⟩ := hS; go_simp⟩) hH3 ?_
      simp only [Act.put, List.getElem_toArray, List.getElem_cons_zero, List.getElem_cons_succ, List.setIfInBounds_toArray, List.set_cons_zero, List.set_cons_succ]
      refine wpAnyH_take (i := 15) (v := ((.int .i64 (n : Int)))) rfl (by kernel_rfl) (by kernel_rfl) (by kernel_rfl) (fun _ _ _ h => h) (Or.inl ⟨by kernel_rfl, by intro w' hS; obtain ⟨z0, z1, z2, z3⟩ := hS; go_simp⟩) hH3 ?_
      simp only [Act.put, List.getElem_toArray, List.getElem_cons_zero, List.getElem_cons_succ, List.setIfInBounds_toArray, List.set_cons_zero, List.set_cons_succ]
      refine wpAnyH_take (i := 16) (v := ((.bool true))) rfl (by kernel_rfl) (by kernel_rfl) (by kernel_rfl) (fun _ _ _ h => h) (Or.inl ⟨by kernel_rfl, by intro w' hS; obtain ⟨z0, z1, z2, z3⟩ := hS; go_simp⟩) hH3 ?_
      simp only [Act.put, List.getElem_toArray, List.getElem_cons_zero, List.getElem_cons_succ, List.setIfInBounds_toArray, List.set_cons_zero, List.set_cons_succ]
      refine wpAnyH_ready (rs := [12]) (by kernel_rfl) (by simp) ?_
      refine AllReadyH.cons rfl (fun K hK => ?_) AllReadyH.nil
      go_simp
      refine (HNONE.out _).mono ?_
      rintro _ x4 ⟨rfl, hc4⟩
      have hk4 := hk3.trans (Kept.of_below hc4)
      have hs4 := HKS.out _ hk4
      have HK4 := Lib.hid hk4
      refine Shut.out hK _ _ hs4 (fun hH4 => ?_)
      clear hK K
      try simp only [Act.put, List.getElem_toArray, List.getElem_cons_zero, List.getElem_cons_succ, List.setIfInBounds_toArray, List.set_cons_zero, List.set_cons_succ]
      refine wpAnyH_take (i := 17) (v := ((.bool true))) rfl (by kernel_rfl) (by kernel_rfl) (by kernel_rfl) (fun _ _ _ h => h) (Or.inl ⟨by kernel_rfl, by intro w' hS; obtain ⟨z0, z1, z2, z3⟩ := hS; go_simp⟩) hH4 ?_
      simp only [Act.put, List.getElem_toArray, List.getElem_cons_zero, List.getElem_cons_succ, List.setIfInBounds_toArray, List.set_cons_zero, List.set_cons_succ]
      refine wpAnyH_take (i := 18) (v := ((.pointer (some ⟨Bl, 1, none⟩)))) rfl (by kernel_rfl) (by kernel_rfl) (by kernel_rfl) (fun _ _ _ h => h) (Or.inl ⟨by kernel_rfl, by intro w' hS; obtain ⟨z0, z1, z2, z3⟩ := hS; go_simp⟩) hH4 ?_
      simp only [Act.put, List.getElem_toArray, List.getElem_cons_zero, List.getElem_cons_succ, List.setIfInBounds_toArray, List.set_cons_zero, List.set_cons_succ]
      refine wpAnyH_take (i := 19) (v := ((.int .u64 (s : Int)))) rfl (by kernel_rfl) (by kernel_rfl) (by kernel_rfl) (fun _ _ _ h => h) (Or.inl ⟨by kernel_rfl, by intro w' hS; obtain ⟨z0, z1, z2, z3⟩ := hS; go_simp⟩) hH4 ?_
      simp only [Act.put, List.getElem_toArray, List.getElem_cons_zero, List.getElem_cons_succ, List.setIfInBounds_toArray, List.set_cons_zero, List.set_cons_succ]
      refine wpAnyH_take (i := 20) (v := ((.bool false))) rfl (by kernel_rfl) (by kernel_rfl) (by kernel_rfl) (fun _ _ _ h => h) (Or.inl ⟨by kernel_rfl, by intro w' hS; obtain ⟨z0, z1, z2, z3⟩ := hS; go_simp⟩) hH4 ?_
      simp only [Act.put, List.getElem_toArray, List.getElem_cons_zero, List.getElem_cons_succ, List.setIfInBounds_toArray, List.set_cons_zero, List.set_cons_succ]
      refine wpAnyH_take (i := 21) (v := ((.bool false))) rfl (by kernel_rfl) (by kernel_rfl) (by kernel_rfl) (fun _ _ _ h => h) (Or.inl ⟨by kernel_rfl, by intro w' hS; obtain ⟨z0, z1, z2, z3⟩ := hS; go_simp⟩) hH4 ?_
      simp only [Act.put, List.getElem_toArray, List.getElem_cons_zero, List.getElem_cons_succ, List.setIfInBounds_toArray, List.set_cons_zero, List.set_cons_succ]
      refine wpAnyH_take (i := 22) (v := ((.bool false))) rfl (by kernel_rfl) (by kernel_rfl) (by kernel_rfl) (fun _ _ _ h => h) (Or.inl ⟨by kernel_rfl, by intro w' hS; obtain ⟨z0, z1, z2, z3⟩ := hS; go_simp⟩) hH4 ?_
      simp only [Act.put, List.getElem_toArray, List.getElem_cons_zero, List.getElem_cons_succ, List.setIfInBounds_toArray, List.set_cons_zero, List.set_cons_succ]
      refine wpAnyH_take (i := 23) (v := ((.bool false))) rfl (by kernel_rfl) (by kernel_rfl) (by kernel_rfl) (fun _ _ _ h => h) (Or.inl ⟨by kernel_rfl, by intro w' hS; obtain ⟨z0, z1, z2, z3⟩ := hS; go_simp⟩) hH4 ?_
      simp only [Act.put, List.getElem_toArray, List.getElem_cons_zero, List.getElem_cons_succ, List.setIfInBounds_toArray, List.set_cons_zero, List.set_cons_succ]
      refine wpAnyH_done (by kernel_rfl) ?_ _
  case' inr.inr =>
      have HNONE := Lib.hid (HNONE0.out _ e3)
      have e2 : True := trivial
      clear e3 HNONE0
      have hneq := HNEQ.out
      refine wp_region_noPanic ?_
      refine wp_region_held_drew (S := (fun v => v.rangeAt Bl 0 LL ∧ v.cell? ⟨Bl, 0, none⟩ = some (.slice A n c) ∧ v.cell? ⟨Bl, 1, none⟩ = some (.int .u64 (s : Int)) ∧ v.rangeAt Bt 0 LT)) (by kernel_rfl) hS0 (fun hH0 => ?_)
      refine wpAnyH_take (i := 0) (v := (.agg LL.toArray)) rfl (by kernel_rfl) (by kernel_rfl) (by kernel_rfl) (fun _ _ _ h => h) (yieldsIf_load_mid (by kernel_rfl) 25 (.tmp 3) rfl Bl 0 rfl LL _ (fun w' h => h.1) Tryd.underlying25 rfl SZL.out) hH0 ?_
      simp only [Act.put, List.getElem_toArray, List.getElem_cons_zero, List.getElem_cons_succ, List.setIfInBounds_toArray, List.set_cons_zero, List.set_cons_succ]
      refine wpAnyH_take (i := 3) (v := (.agg LT.toArray)) rfl (by kernel_rfl) (by kernel_rfl) (by kernel_rfl) (fun _ _ _ h => h) (yieldsIf_load_mid (by kernel_rfl) 35 (.tmp 7) rfl Bt 0 rfl LT _ (fun w' h => h.2.2.2) Tryd.underlying35 rfl SZT.out) hH0 ?_
      simp only [Act.put, List.getElem_toArray, List.getElem_cons_zero, List.getElem_cons_succ, List.setIfInBounds_toArray, List.set_cons_zero, List.set_cons_succ]
      refine wpAnyH_take (i := 4) (v := ((.pointer (some ⟨Bl, 0, none⟩)))) rfl (by kernel_rfl) (by kernel_rfl) (by kernel_rfl) (fun _ _ _ h => h) (Or.inl ⟨by kernel_rfl, by intro w' hS; obtain ⟨z0, z1, z2, z3⟩ := hS; go_simp⟩) hH0 ?_
      simp only [Act.put, List.getElem_toArray, List.getElem_cons_zero, List.getElem_cons_succ, List.setIfInBounds_toArray, List.set_cons_zero, List.set_cons_succ]
      refine wpAnyH_take (i := 5) (v := ((.slice A n c))) rfl (by kernel_rfl) (by kernel_rfl) (by kernel_rfl) (fun _ _ _ h => h) (Or.inl ⟨by kernel_rfl, by intro w' hS; obtain ⟨z0, z1, z2, z3⟩ := hS; go_simp⟩) hH0 ?_
      simp only [Act.put, List.getElem_toArray, List.getElem_cons_zero, List.getElem_cons_succ, List.setIfInBounds_toArray, List.set_cons_zero, List.set_cons_succ]
      refine wpAnyH_take (i := 6) (v := ((.pointer (some ⟨Bl, 1, none⟩)))) rfl (by kernel_rfl) (by kernel_rfl) (by kernel_rfl) (fun _ _ _ h => h) (Or.inl ⟨by kernel_rfl, by intro w' hS; obtain ⟨z0, z1, z2, z3⟩ := hS; go_simp⟩) hH0 ?_
      simp only [Act.put, List.getElem_toArray, List.getElem_cons_zero, List.getElem_cons_succ, List.setIfInBounds_toArray, List.set_cons_zero, List.set_cons_succ]
      refine wpAnyH_take (i := 7) (v := ((.int .u64 (s : Int)))) rfl (by kernel_rfl) (by kernel_rfl) (by kernel_rfl) (fun _ _ _ h => h) (Or.inl ⟨by kernel_rfl, by intro w' hS; obtain ⟨z0, z1, z2, z3⟩ := hS; go_simp⟩) hH0 ?_
      simp only [Act.put, List.getElem_toArray, List.getElem_cons_zero, List.getElem_cons_succ, List.setIfInBounds_toArray, List.set_cons_zero, List.set_cons_succ]
      refine wpAnyH_ready (rs := [1]) (by kernel_rfl) (by simp) ?_
      refine AllReadyH.cons rfl (fun K hK => ?_) AllReadyH.nil
      go_simp
      refine (HNODE.out _ hKept0).mono ?_
      rintro _ x1 ⟨rfl, hc1⟩
      have hk1 : Kept (fun _ => False) W7 x1 := hKept0.trans (Kept.of_below hc1)
      have hs1 := HKS.out _ hk1
      refine Shut.out hK _ _ hs1 (fun hH1 => ?_)
      clear hK K
      try simp only [Act.put, List.getElem_toArray, List.getElem_cons_zero, List.getElem_cons_succ, List.setIfInBounds_toArray, List.set_cons_zero, List.set_cons_succ]
      refine wpAnyH_ready (rs := [2]) (by kernel_rfl) (by simp) ?_
      refine AllReadyH.cons rfl (fun K hK => ?_) AllReadyH.nil
      go_simp
      refine (HPL1.out _).mono ?_
      rintro _ x2 ⟨rfl, hc2⟩
      have hk2 := hk1.trans (Kept.of_below hc2)
      have hs2 := HKS.out _ hk2
      refine Shut.out hK _ _ hs2 (fun hH2 => ?_)
      clear hK K
      try simp only [Act.put, List.getElem_toArray, List.getElem_cons_zero, List.getElem_cons_succ, List.setIfInBounds_toArray, List.set_cons_zero, List.set_cons_succ]
      refine wpAnyH_ready (rs := [8]) (by kernel_rfl) (by simp) ?_
      refine AllReadyH.cons rfl (fun K hK => ?_) AllReadyH.nil
      go_simp
      refine (HOF.out _ hk2).mono ?_
      rintro _ x3 ⟨rfl, hc3⟩
      have hk3 := hk2.trans (Kept.of_below hc3)
      have hs3 := HKS.out _ hk3
      refine Shut.out hK _ _ hs3 (fun hH3 => ?_)
      clear hK K
      try simp only [Act.put, List.getElem_toArray, List.getElem_cons_zero, List.getElem_cons_succ, List.setIfInBounds_toArray, List.set_cons_zero, List.set_cons_succ]
      refine wpAnyH_take (i := 9) (v := ((.bool false))) rfl (by kernel_rfl) (by kernel_rfl) (by kernel_rfl) (fun _ _ _ h => h) (Or.inl ⟨by kernel_rfl, by intro w' hS; obtain ⟨z0, z1, z2, z3⟩ := hS; go_simp⟩) hH3 ?_
      simp only [Act.put, List.getElem_toArray, List.getElem_cons_zero, List.getElem_cons_succ, List.setIfInBounds_toArray, List.set_cons_zero, List.set_cons_succ]
      refine wpAnyH_take (i := 10) (v := ((.bool false))) rfl (by kernel_rfl) (by kernel_rfl) (by kernel_rfl) (fun _ _ _ h => h) (Or.inl ⟨by kernel_rfl, by intro w' hS; obtain ⟨z0, z1, z2, z3⟩ := hS; go_simp⟩) hH3 ?_
      simp only [Act.put, List.getElem_toArray, List.getElem_cons_zero, List.getElem_cons_succ, List.setIfInBounds_toArray, List.set_cons_zero, List.set_cons_succ]
      refine wpAnyH_take (i := 11) (v := (.agg LL.toArray)) rfl (by kernel_rfl) (by kernel_rfl) (by kernel_rfl) (fun _ _ _ h => h) (yieldsIf_load_mid (by kernel_rfl) 25 (.tmp 3) rfl Bl 0 rfl LL _ (fun w' h => h.1) Tryd.underlying25 rfl SZL.out) hH3 ?_
      simp only [Act.put, List.getElem_toArray, List.getElem_cons_zero, List.getElem_cons_succ, List.setIfInBounds_toArray, List.set_cons_zero, List.set_cons_succ]
      refine wpAnyH_take (i := 13) (v := ((.pointer (some ⟨Bl, 0, none⟩)))) rfl (by kernel_rfl) (by kernel_rfl) (by kernel_rfl) (fun _ _ _ h => h) (Or.inl ⟨by kernel_rfl, by intro w' hS; obtain ⟨z0, z1, z2, z3⟩ := hS; go_simp⟩) hH3 ?_
      simp only [Act.put, List.getElem_toArray, List.getElem_cons_zero, List.getElem_cons_succ, List.setIfInBounds_toArray, List.set_cons_zero, List.set_cons_succ]
      refine wpAnyH_take (i := 14) (v := ((.slice A n c))) rfl (by kernel_rfl) (by kernel_rfl) (by kernel_rfl) (fun _ _ _ h => h) (Or.inl ⟨by kernel_rfl, by intro w' hS; obtain ⟨z0, z1, z2, z3⟩ := hS; go_simp⟩) hH3 ?_
      simp only [Act.put, List.getElem_toArray, List.getElem_cons_zero, List.getElem_cons_succ, List.setIfInBounds_toArray, List.set_cons_zero, List.set_cons_succ]
      refine wpAnyH_take (i := 15) (v := ((.int .i64 (n : Int)))) rfl (by kernel_rfl) (by kernel_rfl) (by kernel_rfl) (fun _ _ _ h => h) (Or.inl ⟨by kernel_rfl, by intro w' hS; obtain ⟨z0, z1, z2, z3⟩ := hS; go_simp⟩) hH3 ?_
      simp only [Act.put, List.getElem_toArray, List.getElem_cons_zero, List.getElem_cons_succ, List.setIfInBounds_toArray, List.set_cons_zero, List.set_cons_succ]
      refine wpAnyH_take (i := 16) (v := ((.bool false))) rfl (by kernel_rfl) (by kernel_rfl) (by kernel_rfl) (fun _ _ _ h => h) (Or.inl ⟨by kernel_rfl, by intro w' hS; obtain ⟨z0, z1, z2, z3⟩ := hS; go_simp⟩) hH3 ?_
      simp only [Act.put, List.getElem_toArray, List.getElem_cons_zero, List.getElem_cons_succ, List.setIfInBounds_toArray, List.set_cons_zero, List.set_cons_succ]
      refine wpAnyH_ready (rs := [12]) (by kernel_rfl) (by simp) ?_
      refine AllReadyH.cons rfl (fun K hK => ?_) AllReadyH.nil
      go_simp
      refine (HNONE.out _).mono ?_
      rintro _ x4 ⟨rfl, hc4⟩
      have hk4 := hk3.trans (Kept.of_below hc4)
      have hs4 := HKS.out _ hk4
      have HK4 := Lib.hid hk4
      refine Shut.out hK _ _ hs4 (fun hH4 => ?_)
      clear hK K
      try simp only [Act.put, List.getElem_toArray, List.getElem_cons_zero, List.getElem_cons_succ, List.setIfInBounds_toArray, List.set_cons_zero, List.set_cons_succ]
      refine wpAnyH_take (i := 17) (v := ((.bool false))) rfl (by kernel_rfl) (by kernel_rfl) (by kernel_rfl) (fun _ _ _ h => h) (Or.inl ⟨by kernel_rfl, by intro w' hS; obtain ⟨z0, z1, z2, z3⟩ := hS; go_simp⟩) hH4 ?_
      simp only [Act.put, List.getElem_toArray, List.getElem_cons_zero, List.getElem_cons_succ, List.setIfInBounds_toArray, List.set_cons_zero, List.set_cons_succ]
      refine wpAnyH_take (i := 18) (v := undef) rfl (by kernel_rfl) (by kernel_rfl) (by kernel_rfl) (fun _ _ _ h => h) (Or.inr ⟨by kernel_rfl, rfl⟩) hH4 ?_
      simp only [Act.put, List.getElem_toArray, List.getElem_cons_zero, List.getElem_cons_succ, List.setIfInBounds_toArray, List.set_cons_zero, List.set_cons_succ]
      refine wpAnyH_take (i := 19) (v := undef) rfl (by kernel_rfl) (by kernel_rfl) (by kernel_rfl) (fun _ _ _ h => h) (Or.inr ⟨by kernel_rfl, rfl⟩) hH4 ?_
      simp only [Act.put, List.getElem_toArray, List.getElem_cons_zero, List.getElem_cons_succ, List.setIfInBounds_toArray, List.set_cons_zero, List.set_cons_succ]
      refine wpAnyH_take (i := 20) (v := undef) rfl (by kernel_rfl) (by kernel_rfl) (by kernel_rfl) (fun _ _ _ h => h) (Or.inr ⟨by kernel_rfl, rfl⟩) hH4 ?_
      simp only [Act.put, List.getElem_toArray, List.getElem_cons_zero, List.getElem_cons_succ, List.setIfInBounds_toArray, List.set_cons_zero, List.set_cons_succ]
      refine wpAnyH_take (i := 21) (v := ((.bool false))) rfl (by kernel_rfl) (by kernel_rfl) (by kernel_rfl) (fun _ _ _ h => h) (Or.inl ⟨by kernel_rfl, by intro w' hS; obtain ⟨z0, z1, z2, z3⟩ := hS; go_simp⟩) hH4 ?_
      simp only [Act.put, List.getElem_toArray, List.getElem_cons_zero, List.getElem_cons_succ, List.setIfInBounds_toArray, List.set_cons_zero, List.set_cons_succ]
      refine wpAnyH_take (i := 22) (v := ((.bool false))) rfl (by kernel_rfl) (by kernel_rfl) (by kernel_rfl) (fun _ _ _ h => h) (Or.inl ⟨by kernel_rfl, by intro w' hS; obtain ⟨z0, z1, z2, z3⟩ := hS; go_simp⟩) hH4 ?_
      simp only [Act.put, List.getElem_toArray, List.getElem_cons_zero, List.getElem_cons_succ, List.setIfInBounds_toArray, List.set_cons_zero, List.set_cons_succ]
      refine wpAnyH_take (i := 23) (v := ((.bool false))) rfl (by kernel_rfl) (by kernel_rfl) (by kernel_rfl) (fun _ _ _ h => h) (Or.inl ⟨by kernel_rfl, by intro w' hS; obtain ⟨z0, z1, z2, z3⟩ := hS; go_simp⟩) hH4 ?_
      simp only [Act.put, List.getElem_toArray, List.getElem_cons_zero, List.getElem_cons_succ, List.setIfInBounds_toArray, List.set_cons_zero, List.set_cons_succ]
      refine wpAnyH_done (by kernel_rfl) ?_ _
  all_goals
    refine NoPanic.normal ?_
    clear hS0 hH0 hH1 hH2 hH3 hH4 hs1 hs2 hs3 hs4 hk1 hk2 hk3 hk4 hc1 hc2 hc3 hc4 hneq e1 e2 hKept0 HNONE HNODE HOF
    have HKA := Lib.hid (show ∀ v, Kept (fun _ => False) x4 v → Has v Ba 29 LA.toArray ∧ Has v Bb 29 LB.toArray ∧ Has v Bt 35 LT.toArray from fun v hk => ⟨HB1.out.kept ((HW7.out.2.trans HK4.out).trans hk) (fun h => h), HB2.out.kept ((HW7.out.2.trans HK4.out).trans hk) (fun h => h), HW7.out.1.kept (HK4.out.trans hk) (fun h => h)⟩)
    have HRA := Lib.hid (show x4.rangeAt Ba 0 LA ∧ x4.rangeAt Bb 0 LB from ⟨row_of (HKA.out x4 (Kept.refl _ _)).1, row_of (HKA.out x4 (Kept.refl _ _)).2.1⟩)
    have HT4 := Lib.hid (HTX.out x4 HK4.out)
    have HBE4 := Lib.hid (HBE7.out.trans (HK4.out.below HBE7.out.size (fun _ h => h.elim)))
    clear HK4 HTX HKS HB0 HB1 HB2 HBE7 HBE2 HBEL HW7 HK2 hnn
    obtain ⟨W4, hW4⟩ : ∃ W, W = x4 := ⟨_, rfl⟩
    subst hW4
    by_cases ho : sa + sb < 18446744073709551616
    · have HO := Lib.hid ho
      have HN9 := Lib.hid (show (digs (sa + sb)).length ≤ 1000000 by have := digs_small ho; omega)
      obtain ⟨D2, hD2⟩ : ∃ D, D = digest KS SS (ha ++ eight sa ++ (hb ++ eight sb)) := ⟨_, rfl⟩
      obtain ⟨LR, hLR⟩ : ∃ L, L = ncells D2 (sa + sb) := ⟨_, rfl⟩
      have hd2 : IsHash D2 := by rw [hD2]; exact digest_hash KS SS ss_len _
      have lr := nd_row D2 (sa + sb) hd2.1
      rw [← hLR] at lr
      have hbf := branch_fits KS SS W4 ha hb sa sb HT4.out HIS.out.1 HIS.out.2 ho
      have hbr : ∀ x, Calls Tryd.prog 21 #[.agg LT.toArray, .agg LA.toArray, .agg LB.toArray] x fun e w' => e = .returned (.agg LR.toArray) ∧ Below x.heap.size x w' := fun x => by
        have h := refBranch_is KS SS ks_len ss_len x ha hb sa sb HIS.out.1 HIS.out.2 ho
        rw [← hD2] at h
        rw [ELT.out, ELA.out.1, ELA.out.2, hLR]; exact h
      have HBR := Lib.hid hbr
      have HPLR := Lib.hid (show ∀ x, Calls Tryd.prog 13 #[.agg LR.toArray] x fun e w' => e = .returned (.agg LR.toArray) ∧ Below x.heap.size x w' from fun x => by rw [hLR]; exact plain_is x D2 (sa + sb) hd2.1)
      have heq := fun W => rn_eq D2 (sa + sb) hd2 W
      rw [← hLR] at heq
      have HEQ := Lib.hid heq
      rw [← hD2] at hbf
      have er : nodeV D2 (sa + sb) = .agg LR.toArray := by rw [hLR]; rfl
      have ea : nodeV ha sa = .agg LA.toArray := by rw [ELA.out.1]; rfl
      have eb : nodeV hb sb = .agg LB.toArray := by rw [ELA.out.2]; rfl
      rw [er, ea, eb] at hbf
      have HBF := Lib.hid hbf
      have SZR := Lib.hid (show (Tryd.prog.info? 29).map (·.size) = some LR.length by rw [lr.1]; kernel_rfl)
      have SZR2 := Lib.hid (show (Tryd.prog.info? 29).map (·.size) = some LR.toArray.size by rw [List.size_toArray, lr.1]; kernel_rfl)
      have ONER := Lib.hid (show LR.toArray.all (·.oneCell') = true by rw [hLR]; exact all_oneCell_toArray (ncells_one _ _))
      have HZR := Lib.hid (show Z.size = LR.toArray.size by rw [EZ.out, List.size_toArray, lr.1])
      clear hD2 hLR hd2 lr hbf hbr heq er ea eb ho
      go_wp2_with (first
        | (refine wpList_load_mid rfl 29 (.tmp 4) rfl Ba 0 rfl LA _ HRA.out.1 Tryd.underlying29 rfl SZA.out ?_)
        | (refine wpList_load_mid rfl 29 (.tmp 5) rfl Bb 0 rfl LB _ HRA.out.2 Tryd.underlying29 rfl SZB.out ?_))
      refine HBF.out.mono ?_
      rintro _ w5 ⟨rfl, hb5⟩
      have h9 := Has.new w5 29 Z
      have hw9 : Has ((w5.alloc (.cells Z 29)).setRow w5.heap.size LR.toArray) w5.heap.size 29 LR.toArray ∧ Kept (fun _ => False) W4 ((w5.alloc (.cells Z 29)).setRow w5.heap.size LR.toArray) := by
        rw [World.setRow_alloc_new]
        exact ⟨Has.new _ _ _, (Kept.of_below hb5).trans ((Kept.refl _ _).alloc _)⟩
      have H9 := Lib.hid h9
      have HW9 := Lib.hid hw9
      clear hb5 h9 hw9
      go_upto_region 9 with (refine wpList_store_row rfl 29 (.tmp 8) (.tmp 47) rfl w5.heap.size LR.toArray rfl rfl 29 Z H9.out SZR2.out HZR.out ONER.out ?_)
      generalize (w5.alloc (.cells Z 29)).setRow w5.heap.size LR.toArray = W9 at HW9 ⊢
      obtain ⟨Bn, hBn⟩ : ∃ B, B = w5.heap.size := ⟨_, rfl⟩
      rw [← hBn] at HW9 ⊢
      clear hBn H9
      have HKS9 := Lib.hid (show ∀ v, Kept (fun _ => False) W9 v → v.cell? ⟨Ba, 32, none⟩ = some (.int .u64 (sa : Int)) ∧ v.cell? ⟨Bb, 32, none⟩ = some (.int .u64 (sb : Int)) from fun v hk => by
        obtain ⟨q1, q2, -⟩ := HKA.out v (HW9.out.2.trans hk)
        exact ⟨q1.cell_is (by rw [List.getElem?_toArray]; exact HCA.out.1), q2.cell_is (by rw [List.getElem?_toArray]; exact HCA.out.2)⟩)
      have hKept9 : Kept (fun _ => False) W9 W9.drew := (Kept.refl _ _).drew
      have hS9 := HKS9.out W9 (Kept.refl _ _)
      refine wp_region_noPanic ?_
      refine wp_region_held_drew (S := (fun v => v.cell? ⟨Ba, 32, none⟩ = some (.int .u64 (sa : Int)) ∧ v.cell? ⟨Bb, 32, none⟩ = some (.int .u64 (sb : Int)))) (by kernel_rfl) hS9 (fun hH0 => ?_)
      refine wpAnyH_take (i := 0) (v := ((.pointer (some ⟨Ba, 32, none⟩)))) rfl (by kernel_rfl) (by kernel_rfl) (by kernel_rfl) (fun _ _ _ h => h) (Or.inl ⟨by kernel_rfl, by intro w' hS; obtain ⟨z0, z1⟩ := hS; go_simp⟩) hH0 ?_
      simp only [Act.put, List.getElem_toArray, List.getElem_cons_zero, List.getElem_cons_succ, List.setIfInBounds_toArray, List.set_cons_zero, List.set_cons_succ]
      refine wpAnyH_take (i := 1) (v := ((.int .u64 (sa : Int)))) rfl (by kernel_rfl) (by kernel_rfl) (by kernel_rfl) (fun _ _ _ h => h) (Or.inl ⟨by kernel_rfl, by intro w' hS; obtain ⟨z0, z1⟩ := hS; go_simp⟩) hH0 ?_
      simp only [Act.put, List.getElem_toArray, List.getElem_cons_zero, List.getElem_cons_succ, List.setIfInBounds_toArray, List.set_cons_zero, List.set_cons_succ]
      refine wpAnyH_take (i := 3) (v := ((.pointer (some ⟨Bb, 32, none⟩)))) rfl (by kernel_rfl) (by kernel_rfl) (by kernel_rfl) (fun _ _ _ h => h) (Or.inl ⟨by kernel_rfl, by intro w' hS; obtain ⟨z0, z1⟩ := hS; go_simp⟩) hH0 ?_
      simp only [Act.put, List.getElem_toArray, List.getElem_cons_zero, List.getElem_cons_succ, List.setIfInBounds_toArray, List.set_cons_zero, List.set_cons_succ]
      refine wpAnyH_take (i := 4) (v := ((.int .u64 (sb : Int)))) rfl (by kernel_rfl) (by kernel_rfl) (by kernel_rfl) (fun _ _ _ h => h) (Or.inl ⟨by kernel_rfl, by intro w' hS; obtain ⟨z0, z1⟩ := hS; go_simp⟩) hH0 ?_
      simp only [Act.put, List.getElem_toArray, List.getElem_cons_zero, List.getElem_cons_succ, List.setIfInBounds_toArray, List.set_cons_zero, List.set_cons_succ]
      refine wpAnyH_ready (rs := [2]) (by kernel_rfl) (by simp) ?_
      refine AllReadyH.cons rfl (fun K hK => ?_) AllReadyH.nil
      go_simp
      refine (of_is _ sa HS64.out.1).mono ?_
      rintro _ y1 ⟨⟨v1, rfl, hv1⟩, hd1⟩
      have hj1 : Kept (fun _ => False) W9 y1 := hKept9.trans (Kept.of_below hd1)
      have ht1 := HKS9.out _ hj1
      have HV1 := Lib.hid hv1
      refine Shut.out hK _ _ ht1 (fun hH1 => ?_)
      clear hK K
      try simp only [Act.put, List.getElem_toArray, List.getElem_cons_zero, List.getElem_cons_succ, List.setIfInBounds_toArray, List.set_cons_zero, List.set_cons_succ]
      refine wpAnyH_ready (rs := [5]) (by kernel_rfl) (by simp) ?_
      refine AllReadyH.cons rfl (fun K hK => ?_) AllReadyH.nil
      go_simp
      refine (of_is _ sb HS64.out.2).mono ?_
      rintro _ y2 ⟨⟨v2, rfl, hv2⟩, hd2⟩
      have hj2 := hj1.trans (Kept.of_below hd2)
      have ht2 := HKS9.out _ hj2
      obtain ⟨a1, c1, rfl, hda⟩ := HV1.out.below hd2
      obtain ⟨a2, c2, rfl, hdb⟩ := hv2
      have HDA := Lib.hid hda
      have HDB := Lib.hid hdb
      clear hda hdb
      refine Shut.out hK _ _ ht2 (fun hH2 => ?_)
      clear hK K
      try simp only [Act.put, List.getElem_toArray, List.getElem_cons_zero, List.getElem_cons_succ, List.setIfInBounds_toArray, List.set_cons_zero, List.set_cons_succ]
      refine wpAnyH_ready (rs := [6]) (by kernel_rfl) (by simp) ?_
      refine AllReadyH.cons rfl (fun K hK => ?_) AllReadyH.nil
      go_simp
      refine (add_is _ a1 _ c1 sa a2 _ c2 sb HDA.out HDB.out (digs_small HS64.out.1) (digs_small HS64.out.2)).mono ?_
      rintro _ y3 ⟨⟨v3, rfl, hv3⟩, hd3⟩
      have hj3 := hj2.trans (Kept.of_below hd3)
      have ht3 := HKS9.out _ hj3
      obtain ⟨a3, c3, rfl, hdc⟩ := hv3
      have HDC := Lib.hid hdc
      clear hdc
      refine Shut.out hK _ _ ht3 (fun hH3 => ?_)
      clear hK K
      try simp only [Act.put, List.getElem_toArray, List.getElem_cons_zero, List.getElem_cons_succ, List.setIfInBounds_toArray, List.set_cons_zero, List.set_cons_succ]
      refine wpAnyH_ready (rs := [7]) (by kernel_rfl) (by simp) ?_
      refine AllReadyH.cons rfl (fun K hK => ?_) AllReadyH.nil
      go_simp
      refine (num_ok1 _ a3 _ c3 (sa + sb) HDC.out HO.out HN9.out).mono ?_
      rintro _ y4 ⟨⟨yn, rfl⟩, hy4⟩
      have hj4 : Kept (fun _ => False) W9 y4 := by rw [hy4]; exact hj3
      have ht4 := HKS9.out _ hj4
      clear hy4
      refine Shut.out hK _ _ ht4 (fun hH4 => ?_)
      clear hK K
      try simp only [Act.put, List.getElem_toArray, List.getElem_cons_zero, List.getElem_cons_succ, List.setIfInBounds_toArray, List.set_cons_zero, List.set_cons_succ]
      refine wpAnyH_take (i := 8) (v := ((.tuple #[.int .u64 (yn : Int), .bool true]))) rfl (by kernel_rfl) (by kernel_rfl) (by kernel_rfl) (fun _ _ _ h => h) (Or.inl ⟨by kernel_rfl, by intro w' hS; obtain ⟨z0, z1⟩ := hS; go_simp⟩) hH4 ?_
      simp only [Act.put, List.getElem_toArray, List.getElem_cons_zero, List.getElem_cons_succ, List.setIfInBounds_toArray, List.set_cons_zero, List.set_cons_succ]
      refine wpAnyH_take (i := 9) (v := ((.int .u64 (yn : Int)))) rfl (by kernel_rfl) (by kernel_rfl) (by kernel_rfl) (fun _ _ _ h => h) (Or.inl ⟨by kernel_rfl, by intro w' hS; obtain ⟨z0, z1⟩ := hS; go_simp⟩) hH4 ?_
      simp only [Act.put, List.getElem_toArray, List.getElem_cons_zero, List.getElem_cons_succ, List.setIfInBounds_toArray, List.set_cons_zero, List.set_cons_succ]
      refine wpAnyH_take (i := 10) (v := (.bool true)) rfl (by kernel_rfl) (by kernel_rfl) (by kernel_rfl) (fun _ _ _ h => h) (Or.inl ⟨by kernel_rfl, by intro w' hS; obtain ⟨z0, z1⟩ := hS; go_simp⟩) hH4 ?_
      simp only [Act.put, List.getElem_toArray, List.getElem_cons_zero, List.getElem_cons_succ, List.setIfInBounds_toArray, List.set_cons_zero, List.set_cons_succ]
      refine wpAnyH_take (i := 11) (v := ((.int .u64 (yn : Int)))) rfl (by kernel_rfl) (by kernel_rfl) (by kernel_rfl) (fun _ _ _ h => h) (Or.inl ⟨by kernel_rfl, by intro w' hS; obtain ⟨z0, z1⟩ := hS; go_simp⟩) hH4 ?_
      simp only [Act.put, List.getElem_toArray, List.getElem_cons_zero, List.getElem_cons_succ, List.setIfInBounds_toArray, List.set_cons_zero, List.set_cons_succ]
      refine wpAnyH_take (i := 12) (v := (.bool true)) rfl (by kernel_rfl) (by kernel_rfl) (by kernel_rfl) (fun _ _ _ h => h) (Or.inl ⟨by kernel_rfl, by intro w' hS; obtain ⟨z0, z1⟩ := hS; go_simp⟩) hH4 ?_
      simp only [Act.put, List.getElem_toArray, List.getElem_cons_zero, List.getElem_cons_succ, List.setIfInBounds_toArray, List.set_cons_zero, List.set_cons_succ]
      refine wpAnyH_done (by kernel_rfl) ?_ _
      refine NoPanic.normal ?_
      have HJ4 := Lib.hid hj4
      clear hS9 hH0 hH1 hH2 hH3 hH4 ht1 ht2 ht3 ht4 hj1 hj2 hj3 hj4 hd1 hd2 hd3 hKept9 HV1 HDA HDB HDC HKS9
      go_upto_region 12 with (fail)
      obtain ⟨W12, hW12⟩ : ∃ W, W = y4 := ⟨_, rfl⟩
      subst hW12
      have HKS12 := Lib.hid (show ∀ v, Kept (fun _ => False) W12 v → v.rangeAt Bn 0 LR ∧ v.rangeAt Ba 0 LA ∧ v.rangeAt Bb 0 LB ∧ v.rangeAt Bt 0 LT from fun v hk => by
        obtain ⟨q1, q2, q3⟩ := HKA.out v (HW9.out.2.trans (HJ4.out.trans hk))
        exact ⟨row_of (HW9.out.1.kept (HJ4.out.trans hk) (fun h => h)), row_of q1, row_of q2, row_of q3⟩)
      have hKept12 : Kept (fun _ => False) W12 W12.drew := (Kept.refl _ _).drew
      have hS12 := HKS12.out W12 (Kept.refl _ _)
      have heq := HEQ.out
      refine wp_region_noPanic ?_
      refine wp_region_held_drew (S := (fun v => v.rangeAt Bn 0 LR ∧ v.rangeAt Ba 0 LA ∧ v.rangeAt Bb 0 LB ∧ v.rangeAt Bt 0 LT)) (by kernel_rfl) hS12 (fun hH0 => ?_)
      refine wpAnyH_take (i := 0) (v := ((.int .i64 0))) rfl (by kernel_rfl) (by kernel_rfl) (by kernel_rfl) (fun _ _ _ h => h) (Or.inl ⟨by kernel_rfl, by intro w' hS; obtain ⟨z0, z1, z2, z3⟩ := hS; go_simp⟩) hH0 ?_
      simp only [Act.put, List.getElem_toArray, List.getElem_cons_zero, List.getElem_cons_succ, List.setIfInBounds_toArray, List.set_cons_zero, List.set_cons_succ]
      refine wpAnyH_take (i := 1) (v := (.bool true)) rfl (by kernel_rfl) (by kernel_rfl) (by kernel_rfl) (fun _ _ _ h => h) (Or.inl ⟨by kernel_rfl, by intro w' hS; obtain ⟨z0, z1, z2, z3⟩ := hS; go_simp⟩) hH0 ?_
      simp only [Act.put, List.getElem_toArray, List.getElem_cons_zero, List.getElem_cons_succ, List.setIfInBounds_toArray, List.set_cons_zero, List.set_cons_succ]
      refine wpAnyH_take (i := 2) (v := (.bool true)) rfl (by kernel_rfl) (by kernel_rfl) (by kernel_rfl) (fun _ _ _ h => h) (Or.inl ⟨by kernel_rfl, by intro w' hS; obtain ⟨z0, z1, z2, z3⟩ := hS; go_simp⟩) hH0 ?_
      simp only [Act.put, List.getElem_toArray, List.getElem_cons_zero, List.getElem_cons_succ, List.setIfInBounds_toArray, List.set_cons_zero, List.set_cons_succ]
      refine wpAnyH_take (i := 3) (v := (.agg LR.toArray)) rfl (by kernel_rfl) (by kernel_rfl) (by kernel_rfl) (fun _ _ _ h => h) (yieldsIf_load_mid (by kernel_rfl) 29 (.tmp 8) rfl Bn 0 rfl LR _ (fun w' h => h.1) Tryd.underlying29 rfl SZR.out) hH0 ?_
      simp only [Act.put, List.getElem_toArray, List.getElem_cons_zero, List.getElem_cons_succ, List.setIfInBounds_toArray, List.set_cons_zero, List.set_cons_succ]
      refine wpAnyH_take (i := 5) (v := (.agg LT.toArray)) rfl (by kernel_rfl) (by kernel_rfl) (by kernel_rfl) (fun _ _ _ h => h) (yieldsIf_load_mid (by kernel_rfl) 35 (.tmp 7) rfl Bt 0 rfl LT _ (fun w' h => h.2.2.2) Tryd.underlying35 rfl SZT.out) hH0 ?_
      simp only [Act.put, List.getElem_toArray, List.getElem_cons_zero, List.getElem_cons_succ, List.setIfInBounds_toArray, List.set_cons_zero, List.set_cons_succ]
      refine wpAnyH_take (i := 6) (v := (.agg LA.toArray)) rfl (by kernel_rfl) (by kernel_rfl) (by kernel_rfl) (fun _ _ _ h => h) (yieldsIf_load_mid (by kernel_rfl) 29 (.tmp 4) rfl Ba 0 rfl LA _ (fun w' h => h.2.1) Tryd.underlying29 rfl SZA.out) hH0 ?_
      simp only [Act.put, List.getElem_toArray, List.getElem_cons_zero, List.getElem_cons_succ, List.setIfInBounds_toArray, List.set_cons_zero, List.set_cons_succ]
      refine wpAnyH_take (i := 8) (v := (.agg LB.toArray)) rfl (by kernel_rfl) (by kernel_rfl) (by kernel_rfl) (fun _ _ _ h => h) (yieldsIf_load_mid (by kernel_rfl) 29 (.tmp 5) rfl Bb 0 rfl LB _ (fun w' h => h.2.2.1) Tryd.underlying29 rfl SZB.out) hH0 ?_
      simp only [Act.put, List.getElem_toArray, List.getElem_cons_zero, List.getElem_cons_succ, List.setIfInBounds_toArray, List.set_cons_zero, List.set_cons_succ]
      refine wpAnyH_ready (rs := [4]) (by kernel_rfl) (by simp) ?_
      refine AllReadyH.cons rfl (fun K hK => ?_) AllReadyH.nil
      go_simp
      refine (HPLR.out _).mono ?_
      rintro _ x1 ⟨rfl, hc1⟩
      have hi1 : Kept (fun _ => False) W12 x1 := hKept12.trans (Kept.of_below hc1)
      have hs1 := HKS12.out _ hi1
      refine Shut.out hK _ _ hs1 (fun hH1 => ?_)
      clear hK K
      try simp only [Act.put, List.getElem_toArray, List.getElem_cons_zero, List.getElem_cons_succ, List.setIfInBounds_toArray, List.set_cons_zero, List.set_cons_succ]
      refine wpAnyH_ready (rs := [7]) (by kernel_rfl) (by simp) ?_
      refine AllReadyH.cons rfl (fun K hK => ?_) AllReadyH.nil
      go_simp
      refine (HPLA.out _).mono ?_
      rintro _ x2 ⟨rfl, hc2⟩
      have hi2 := hi1.trans (Kept.of_below hc2)
      have hs2 := HKS12.out _ hi2
      refine Shut.out hK _ _ hs2 (fun hH2 => ?_)
      clear hK K
      try simp only [Act.put, List.getElem_toArray, List.getElem_cons_zero, List.getElem_cons_succ, List.setIfInBounds_toArray, List.set_cons_zero, List.set_cons_succ]
      refine wpAnyH_ready (rs := [9]) (by kernel_rfl) (by simp) ?_
      refine AllReadyH.cons rfl (fun K hK => ?_) AllReadyH.nil
      go_simp
      refine (HPLB.out _).mono ?_
      rintro _ x3 ⟨rfl, hc3⟩
      have hi3 := hi2.trans (Kept.of_below hc3)
      have hs3 := HKS12.out _ hi3
      refine Shut.out hK _ _ hs3 (fun hH3 => ?_)
      clear hK K
      try simp only [Act.put, List.getElem_toArray, List.getElem_cons_zero, List.getElem_cons_succ, List.setIfInBounds_toArray, List.set_cons_zero, List.set_cons_succ]
      refine wpAnyH_ready (rs := [10]) (by kernel_rfl) (by simp) ?_
      refine AllReadyH.cons rfl (fun K hK => ?_) AllReadyH.nil
      go_simp
      refine (HBR.out _).mono ?_
      rintro _ x4 ⟨rfl, hc4⟩
      have hi4 := hi3.trans (Kept.of_below hc4)
      have hs4 := HKS12.out _ hi4
      have HI4 := Lib.hid hi4
      refine Shut.out hK _ _ hs4 (fun hH4 => ?_)
      clear hK K
      try simp only [Act.put, List.getElem_toArray, List.getElem_cons_zero, List.getElem_cons_succ, List.setIfInBounds_toArray, List.set_cons_zero, List.set_cons_succ]
      refine wpAnyH_take (i := 11) (v := (.bool true)) rfl (by kernel_rfl) (by kernel_rfl) (by kernel_rfl) (fun _ _ _ h => h) (Or.inl ⟨by kernel_rfl, by intro w' hS; obtain ⟨z0, z1, z2, z3⟩ := hS; go_simp⟩) hH4 ?_
      simp only [Act.put, List.getElem_toArray, List.getElem_cons_zero, List.getElem_cons_succ, List.setIfInBounds_toArray, List.set_cons_zero, List.set_cons_succ]
      refine wpAnyH_take (i := 12) (v := (.bool true)) rfl (by kernel_rfl) (by kernel_rfl) (by kernel_rfl) (fun _ _ _ h => h) (Or.inl ⟨by kernel_rfl, by intro w' hS; obtain ⟨z0, z1, z2, z3⟩ := hS; go_simp⟩) hH4 ?_
      simp only [Act.put, List.getElem_toArray, List.getElem_cons_zero, List.getElem_cons_succ, List.setIfInBounds_toArray, List.set_cons_zero, List.set_cons_succ]
      refine wpAnyH_take (i := 13) (v := (.bool true)) rfl (by kernel_rfl) (by kernel_rfl) (by kernel_rfl) (fun _ _ _ h => h) (Or.inl ⟨by kernel_rfl, by intro w' hS; obtain ⟨z0, z1, z2, z3⟩ := hS; go_simp⟩) hH4 ?_
      simp only [Act.put, List.getElem_toArray, List.getElem_cons_zero, List.getElem_cons_succ, List.setIfInBounds_toArray, List.set_cons_zero, List.set_cons_succ]
      refine wpAnyH_done (by kernel_rfl) ?_ _
      refine NoPanic.normal ?_
      have HFIN := Lib.hid (HBE4.out.trans ((HW9.out.2.trans (HJ4.out.trans HI4.out)).below HBE4.out.size (fun _ h => h.elim)))
      clear hS12 hH0 hH1 hH2 hH3 hH4 hs1 hs2 hs3 hs4 hi1 hi2 hi3 hi4 hc1 hc2 hc3 hc4 heq hKept12
      go_wp2
      go_ret
      exact ⟨rfl, HFIN.out⟩
    · have HO := Lib.hid ho
      have HN9 := Lib.hid (show (digs (sa + sb)).length ≤ 1000000 by
        have h8 := HS64.out
        have := (digs_len (sa + sb) 9).2 (by rw [show 256 ^ 9 = 4722366482869645213696 from rfl]; omega)
        omega)
      obtain ⟨LR, hLR⟩ : ∃ L, L = ncells (List.replicate 32 0) 0 := ⟨_, rfl⟩
      have lr := nd_row (List.replicate 32 0) 0 zero32.1
      rw [← hLR] at lr
      have hbf := branch_over W4 ha hb sa sb HIS.out.1.1 HIS.out.2.1 (by omega) (by have h8 := HS64.out; omega)
      have heq := fun W => mn_eq (List.replicate 32 0) 0 zero32 W
      rw [← hLR] at heq
      have HEQ := Lib.hid heq
      have er : nodeV (List.replicate 32 0) 0 = .agg LR.toArray := by rw [hLR]; rfl
      have ea : nodeV ha sa = .agg LA.toArray := by rw [ELA.out.1]; rfl
      have eb : nodeV hb sb = .agg LB.toArray := by rw [ELA.out.2]; rfl
      rw [er, ea, eb] at hbf
      have HBF := Lib.hid hbf
      have HBZ := Lib.hid (show ∀ W, (Instr.build 29 #[]).run Tryd.prog W = .ok (.agg LR.toArray) W from fun W => by rw [hLR, ← EZE.out]; exact HBDZ.out W)
      have SZR := Lib.hid (show (Tryd.prog.info? 29).map (·.size) = some LR.length by rw [lr.1]; kernel_rfl)
      have SZR2 := Lib.hid (show (Tryd.prog.info? 29).map (·.size) = some LR.toArray.size by rw [List.size_toArray, lr.1]; kernel_rfl)
      have ONER := Lib.hid (show LR.toArray.all (·.oneCell') = true by rw [hLR]; exact all_oneCell_toArray (ncells_one _ _))
      have HZR := Lib.hid (show Z.size = LR.toArray.size by rw [EZ.out, List.size_toArray, lr.1])
      clear hLR lr hbf heq er ea eb ho
      go_wp2_with (first
        | (refine wpList_load_mid rfl 29 (.tmp 4) rfl Ba 0 rfl LA _ HRA.out.1 Tryd.underlying29 rfl SZA.out ?_)
        | (refine wpList_load_mid rfl 29 (.tmp 5) rfl Bb 0 rfl LB _ HRA.out.2 Tryd.underlying29 rfl SZB.out ?_))
      refine HBF.out.mono ?_
      rintro _ w5 ⟨rfl, hb5⟩
      have h9 := Has.new w5 29 Z
      have hw9 : Has ((w5.alloc (.cells Z 29)).setRow w5.heap.size LR.toArray) w5.heap.size 29 LR.toArray ∧ Kept (fun _ => False) W4 ((w5.alloc (.cells Z 29)).setRow w5.heap.size LR.toArray) := by
        rw [World.setRow_alloc_new]
        exact ⟨Has.new _ _ _, (Kept.of_below hb5).trans ((Kept.refl _ _).alloc _)⟩
      have H9 := Lib.hid h9
      have HW9 := Lib.hid hw9
      clear hb5 h9 hw9
      go_upto_region 9 with (refine wpList_store_row rfl 29 (.tmp 8) (.tmp 47) rfl w5.heap.size LR.toArray rfl rfl 29 Z H9.out SZR2.out HZR.out ONER.out ?_)
      generalize (w5.alloc (.cells Z 29)).setRow w5.heap.size LR.toArray = W9 at HW9 ⊢
      obtain ⟨Bn, hBn⟩ : ∃ B, B = w5.heap.size := ⟨_, rfl⟩
      rw [← hBn] at HW9 ⊢
      clear hBn H9
      have HKS9 := Lib.hid (show ∀ v, Kept (fun _ => False) W9 v → v.cell? ⟨Ba, 32, none⟩ = some (.int .u64 (sa : Int)) ∧ v.cell? ⟨Bb, 32, none⟩ = some (.int .u64 (sb : Int)) from fun v hk => by
        obtain ⟨q1, q2, -⟩ := HKA.out v (HW9.out.2.trans hk)
        exact ⟨q1.cell_is (by rw [List.getElem?_toArray]; exact HCA.out.1), q2.cell_is (by rw [List.getElem?_toArray]; exact HCA.out.2)⟩)
      have hKept9 : Kept (fun _ => False) W9 W9.drew := (Kept.refl _ _).drew
      have hS9 := HKS9.out W9 (Kept.refl _ _)
      refine wp_region_noPanic ?_
      refine wp_region_held_drew (S := (fun v => v.cell? ⟨Ba, 32, none⟩ = some (.int .u64 (sa : Int)) ∧ v.cell? ⟨Bb, 32, none⟩ = some (.int .u64 (sb : Int)))) (by kernel_rfl) hS9 (fun hH0 => ?_)
      refine wpAnyH_take (i := 0) (v := ((.pointer (some ⟨Ba, 32, none⟩)))) rfl (by kernel_rfl) (by kernel_rfl) (by kernel_rfl) (fun _ _ _ h => h) (Or.inl ⟨by kernel_rfl, by intro w' hS; obtain ⟨z0, z1⟩ := hS; go_simp⟩) hH0 ?_
      simp only [Act.put, List.getElem_toArray, List.getElem_cons_zero, List.getElem_cons_succ, List.setIfInBounds_toArray, List.set_cons_zero, List.set_cons_succ]
      refine wpAnyH_take (i := 1) (v := ((.int .u64 (sa : Int)))) rfl (by kernel_rfl) (by kernel_rfl) (by kernel_rfl) (fun _ _ _ h => h) (Or.inl ⟨by kernel_rfl, by intro w' hS; obtain ⟨z0, z1⟩ := hS; go_simp⟩) hH0 ?_
      simp only [Act.put, List.getElem_toArray, List.getElem_cons_zero, List.getElem_cons_succ, List.setIfInBounds_toArray, List.set_cons_zero, List.set_cons_succ]
      refine wpAnyH_take (i := 3) (v := ((.pointer (some ⟨Bb, 32, none⟩)))) rfl (by kernel_rfl) (by kernel_rfl) (by kernel_rfl) (fun _ _ _ h => h) (Or.inl ⟨by kernel_rfl, by intro w' hS; obtain ⟨z0, z1⟩ := hS; go_simp⟩) hH0 ?_
      simp only [Act.put, List.getElem_toArray, List.getElem_cons_zero, List.getElem_cons_succ, List.setIfInBounds_toArray, List.set_cons_zero, List.set_cons_succ]
      refine wpAnyH_take (i := 4) (v := ((.int .u64 (sb : Int)))) rfl (by kernel_rfl) (by kernel_rfl) (by kernel_rfl) (fun _ _ _ h => h) (Or.inl ⟨by kernel_rfl, by intro w' hS; obtain ⟨z0, z1⟩ := hS; go_simp⟩) hH0 ?_
      simp only [Act.put, List.getElem_toArray, List.getElem_cons_zero, List.getElem_cons_succ, List.setIfInBounds_toArray, List.set_cons_zero, List.set_cons_succ]
      refine wpAnyH_ready (rs := [2]) (by kernel_rfl) (by simp) ?_
      refine AllReadyH.cons rfl (fun K hK => ?_) AllReadyH.nil
      go_simp
      refine (of_is _ sa HS64.out.1).mono ?_
      rintro _ y1 ⟨⟨v1, rfl, hv1⟩, hd1⟩
      have hj1 : Kept (fun _ => False) W9 y1 := hKept9.trans (Kept.of_below hd1)
      have ht1 := HKS9.out _ hj1
      have HV1 := Lib.hid hv1
      refine Shut.out hK _ _ ht1 (fun hH1 => ?_)
      clear hK K
      try simp only [Act.put, List.getElem_toArray, List.getElem_cons_zero, List.getElem_cons_succ, List.setIfInBounds_toArray, List.set_cons_zero, List.set_cons_succ]
      refine wpAnyH_ready (rs := [5]) (by kernel_rfl) (by simp) ?_
      refine AllReadyH.cons rfl (fun K hK => ?_) AllReadyH.nil
      go_simp
      refine (of_is _ sb HS64.out.2).mono ?_
      rintro _ y2 ⟨⟨v2, rfl, hv2⟩, hd2⟩
      have hj2 := hj1.trans (Kept.of_below hd2)
      have ht2 := HKS9.out _ hj2
      obtain ⟨a1, c1, rfl, hda⟩ := HV1.out.below hd2
      obtain ⟨a2, c2, rfl, hdb⟩ := hv2
      have HDA := Lib.hid hda
      have HDB := Lib.hid hdb
      clear hda hdb
      refine Shut.out hK _ _ ht2 (fun hH2 => ?_)
      clear hK K
      try simp only [Act.put, List.getElem_toArray, List.getElem_cons_zero, List.getElem_cons_succ, List.setIfInBounds_toArray, List.set_cons_zero, List.set_cons_succ]
      refine wpAnyH_ready (rs := [6]) (by kernel_rfl) (by simp) ?_
      refine AllReadyH.cons rfl (fun K hK => ?_) AllReadyH.nil
      go_simp
      refine (add_is _ a1 _ c1 sa a2 _ c2 sb HDA.out HDB.out (digs_small HS64.out.1) (digs_small HS64.out.2)).mono ?_
      rintro _ y3 ⟨⟨v3, rfl, hv3⟩, hd3⟩
      have hj3 := hj2.trans (Kept.of_below hd3)
      have ht3 := HKS9.out _ hj3
      obtain ⟨a3, c3, rfl, hdc⟩ := hv3
      have HDC := Lib.hid hdc
      clear hdc
      refine Shut.out hK _ _ ht3 (fun hH3 => ?_)
      clear hK K
      try simp only [Act.put, List.getElem_toArray, List.getElem_cons_zero, List.getElem_cons_succ, List.setIfInBounds_toArray, List.set_cons_zero, List.set_cons_succ]
      refine wpAnyH_ready (rs := [7]) (by kernel_rfl) (by simp) ?_
      refine AllReadyH.cons rfl (fun K hK => ?_) AllReadyH.nil
      go_simp
      refine (num_ok0 _ a3 _ c3 (sa + sb) HDC.out HO.out HN9.out).mono ?_
      rintro _ y4 ⟨⟨yn, rfl⟩, hy4⟩
      have hj4 : Kept (fun _ => False) W9 y4 := by rw [hy4]; exact hj3
      have ht4 := HKS9.out _ hj4
      clear hy4
      refine Shut.out hK _ _ ht4 (fun hH4 => ?_)
      clear hK K
      try simp only [Act.put, List.getElem_toArray, List.getElem_cons_zero, List.getElem_cons_succ, List.setIfInBounds_toArray, List.set_cons_zero, List.set_cons_succ]
      refine wpAnyH_take (i := 8) (v := ((.tuple #[.int .u64 (yn : Int), .bool false]))) rfl (by kernel_rfl) (by kernel_rfl) (by kernel_rfl) (fun _ _ _ h => h) (Or.inl ⟨by kernel_rfl, by intro w' hS; obtain ⟨z0, z1⟩ := hS; go_simp⟩) hH4 ?_
      simp only [Act.put, List.getElem_toArray, List.getElem_cons_zero, List.getElem_cons_succ, List.setIfInBounds_toArray, List.set_cons_zero, List.set_cons_succ]
      refine wpAnyH_take (i := 9) (v := ((.int .u64 (yn : Int)))) rfl (by kernel_rfl) (by kernel_rfl) (by kernel_rfl) (fun _ _ _ h => h) (Or.inl ⟨by kernel_rfl, by intro w' hS; obtain ⟨z0, z1⟩ := hS; go_simp⟩) hH4 ?_
      simp only [Act.put, List.getElem_toArray, List.getElem_cons_zero, List.getElem_cons_succ, List.setIfInBounds_toArray, List.set_cons_zero, List.set_cons_succ]
      refine wpAnyH_take (i := 10) (v := (.bool false)) rfl (by kernel_rfl) (by kernel_rfl) (by kernel_rfl) (fun _ _ _ h => h) (Or.inl ⟨by kernel_rfl, by intro w' hS; obtain ⟨z0, z1⟩ := hS; go_simp⟩) hH4 ?_
      simp only [Act.put, List.getElem_toArray, List.getElem_cons_zero, List.getElem_cons_succ, List.setIfInBounds_toArray, List.set_cons_zero, List.set_cons_succ]
      refine wpAnyH_take (i := 11) (v := ((.int .u64 (yn : Int)))) rfl (by kernel_rfl) (by kernel_rfl) (by kernel_rfl) (fun _ _ _ h => h) (Or.inl ⟨by kernel_rfl, by intro w' hS; obtain ⟨z0, z1⟩ := hS; go_simp⟩) hH4 ?_
      simp only [Act.put, List.getElem_toArray, List.getElem_cons_zero, List.getElem_cons_succ, List.setIfInBounds_toArray, List.set_cons_zero, List.set_cons_succ]
      refine wpAnyH_take (i := 12) (v := (.bool false)) rfl (by kernel_rfl) (by kernel_rfl) (by kernel_rfl) (fun _ _ _ h => h) (Or.inl ⟨by kernel_rfl, by intro w' hS; obtain ⟨z0, z1⟩ := hS; go_simp⟩) hH4 ?_
      simp only [Act.put, List.getElem_toArray, List.getElem_cons_zero, List.getElem_cons_succ, List.setIfInBounds_toArray, List.set_cons_zero, List.set_cons_succ]
      refine wpAnyH_done (by kernel_rfl) ?_ _
      refine NoPanic.normal ?_
      have HJ4 := Lib.hid hj4
      have HRN := Lib.hid (show y4.rangeAt Bn 0 LR from row_of (HW9.out.1.kept hj4 (fun h => h)))
      have HFIN := Lib.hid (HBE4.out.trans ((HW9.out.2.trans hj4).below HBE4.out.size (fun _ h => h.elim)))
      clear hS9 hH0 hH1 hH2 hH3 hH4 ht1 ht2 ht3 ht4 hj1 hj2 hj3 hj4 hd1 hd2 hd3 hKept9 HV1 HDA HDB HDC HKS9
      have heq := HEQ.out
      go_wp2_with (first
        | (refine wpList_load_midG (by kernel_rfl) 29 (.tmp 8) rfl Bn 0 rfl LR _ HRN.out Tryd.underlying29 rfl SZR.out ?_)
        | (refine wpList_build_run (by kernel_rfl) 29 _ rfl #[] (by kernel_rfl) (.agg LR.toArray) (HBZ.out _) ?_))
      go_ret
      exact ⟨rfl, HFIN.out⟩
end Go.Proofs.YtcpomddkehhkkaaDoor
