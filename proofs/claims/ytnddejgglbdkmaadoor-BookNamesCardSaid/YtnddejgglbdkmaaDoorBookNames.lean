/- BookNames: offers of both sides may have one number; each is found by its side: for every number and all amounts the law returns true. The tables of the digest are laid as the program's text lays them. -/
import Derived.Test.YtnddejgglbdkmaaDoorBook19
import Derived.Test.YtnddejgglbdkmaaDoorLaid
import Derived.Test.YtnddejgglbdkmaaDoorCards
import Derived.Test.YtnddejgglbdkmaaDoorTie
import Derived.SevenTiedAt
namespace Go.Proofs.YtnddejgglbdkmaaDoor.bookNames
set_option linter.unusedSimpArgs false
open Go.ChangeShapes Go.WideShapes Go.ChangeAt Go.RowKit Go.Maps
set_option linter.unusedVariables false

theorem and_u16 (n : Int) (hn : 0 ≤ n) : bits BinOp.and .u64 n 65535 = n % 65536 := by
  unfold bits
  have e : (BitVec.ofInt IntKind.u64.bits n &&& BitVec.ofInt IntKind.u64.bits 65535).toNat = (n % 65536).toNat := by
    show (BitVec.ofInt 64 n &&& BitVec.ofInt 64 65535).toNat = _
    rw [BitVec.toNat_and, BitVec.toNat_ofInt, BitVec.toNat_ofInt]
    have h31 : ((65535 : Int) % ((2 ^ 64 : Nat) : Int)).toNat = 2 ^ 16 - 1 := by decide
    rw [h31, Nat.and_two_pow_sub_one_eq_mod]
    have : ((2 ^ 64 : Nat) : Int) = 18446744073709551616 := by decide
    rw [this]
    show _ % 65536 = _
    omega
  simp only [e]
  rw [IntKind.wrap_u64]
  omega
/-- the secret. -/
def SEC : List Nat := 1 :: List.replicate 31 0
theorem sec_is : IsHash SEC := ⟨rfl, fun k hk => by rcases List.mem_cons.1 hk with rfl | hk; exact (by decide); rw [List.eq_of_mem_replicate hk]; decide⟩
theorem zero_u2 (w : World) : (zeroValue 23).run Tryd.prog w = .ok (.agg #[.int .u64 0, .int .u64 0]) w := by kernel_rfl

set_option maxRecDepth 100000 in
set_option maxHeartbeats 4000000 in
theorem walk (K s0 : List Wd) (no x y : Int) (w : World) (hT : Tabs K s0 w) (hw0 : (Lit.int .i64 no).wf = true) (hw1 : (Lit.int .u64 x).wf = true) (hw2 : (Lit.int .u64 y).wf = true) :
    Calls Tryd.prog 4 #[.int .i64 no, .int .u64 x, .int .u64 y] w fun e w' => e = .returned (.bool true) ∧ Below w.heap.size w w' := by
  have hb0 := bounds_i64 hw0
  have hb1 := bounds_u64 hw1
  have hb2 := bounds_u64 hw2
  have m1 := and_u16 x hb1.1
  have m2 := and_u16 y hb2.1
  obtain ⟨a, ha⟩ : ∃ a : Nat, (1 : Int) + x % 65536 = a := ⟨(1 + x % 65536).toNat, by omega⟩
  obtain ⟨b, hb⟩ : ∃ b : Nat, (1 : Int) + y % 65536 = b := ⟨(1 + y % 65536).toNat, by omega⟩
  have ha0 : 0 < a := by omega
  have hb0' : 0 < b := by omega
  have ha2 : a ≤ 65536 := by omega
  have hb2' : b ≤ 65536 := by omega
  obtain ⟨X, hX⟩ : ∃ X, X = x % 65536 := ⟨_, rfl⟩
  obtain ⟨Y, hY⟩ : ∃ Y, Y = y % 65536 := ⟨_, rfl⟩
  have hX0 : 0 ≤ X ∧ X < 65536 := by omega
  have hY0 : 0 ≤ Y ∧ Y < 65536 := by omega
  obtain ⟨hX1, hX2⟩ := hX0
  obtain ⟨hY1, hY2⟩ := hY0
  rw [← hX] at m1 ha
  rw [← hY] at m2 hb
  have hz2 := zero_u2
  have HT := Lib.hid hT
  have HHD := Lib.hid (head_is w)
  clear hT hX hY hw0 hw1 hw2 hb0 hb1 hb2
  by_cases hneg : no < 0
  · go_enter Tryd.func4, Tryd.ntmps4
    go_wp2_with fail
    refine HHD.out.mono ?_
    rintro _ w1 ⟨rfl, hh⟩
    have HH := Lib.hid hh
    clear hh
    go_wp2
    go_ret
    exact ⟨rfl, HH.out⟩
  · have hno : 0 ≤ no := by omega
    go_enter Tryd.func4, Tryd.ntmps4
    go_wp2_with fail
    refine HHD.out.mono ?_
    rintro _ w1 ⟨rfl, hh⟩
    have HH := Lib.hid hh
    clear hh
    go_upto_region 7 with (fail)
    have hszk : (Tryd.prog.info? 30).map (·.size) = some (bcells SEC).toArray.size := by kernel_rfl
    have hszz : (bcells Z32).toArray.size = (bcells SEC).toArray.size := by kernel_rfl
    go_upto_region 8 with (refine wpList_store_row rfl 30 (.tmp 7) (.tmp 19) rfl w1.heap.size (bcells SEC).toArray rfl rfl 30 (bcells Z32).toArray (heap_alloc_new w1 _) hszk hszz (all_oneCell_toArray (bcells_one SEC)) ?_)
    have hnw : Has ((w1.alloc (.cells #[.int .u8 0, .int .u8 0, .int .u8 0, .int .u8 0, .int .u8 0, .int .u8 0, .int .u8 0, .int .u8 0, .int .u8 0, .int .u8 0, .int .u8 0, .int .u8 0, .int .u8 0, .int .u8 0, .int .u8 0, .int .u8 0, .int .u8 0, .int .u8 0, .int .u8 0, .int .u8 0, .int .u8 0, .int .u8 0, .int .u8 0, .int .u8 0, .int .u8 0, .int .u8 0, .int .u8 0, .int .u8 0, .int .u8 0, .int .u8 0, .int .u8 0, .int .u8 0] 30)).setRow w1.heap.size (bcells SEC).toArray) w1.heap.size 30 (bcells SEC).toArray ∧ Kept (fun _ => False) w1 ((w1.alloc (.cells #[.int .u8 0, .int .u8 0, .int .u8 0, .int .u8 0, .int .u8 0, .int .u8 0, .int .u8 0, .int .u8 0, .int .u8 0, .int .u8 0, .int .u8 0, .int .u8 0, .int .u8 0, .int .u8 0, .int .u8 0, .int .u8 0, .int .u8 0, .int .u8 0, .int .u8 0, .int .u8 0, .int .u8 0, .int .u8 0, .int .u8 0, .int .u8 0, .int .u8 0, .int .u8 0, .int .u8 0, .int .u8 0, .int .u8 0, .int .u8 0, .int .u8 0, .int .u8 0] 30)).setRow w1.heap.size (bcells SEC).toArray) := by
      rw [World.setRow_alloc_new]
      exact ⟨Has.new w1 _ _, (Kept.refl _ _).alloc _⟩
    obtain ⟨hbx, hk7⟩ := hnw
    have hT7 := HT.out.below HH.out HT.out.low |>.kept hk7 (fun _ h => h.elim)
    have hB7 := Below.trans HH.out (hk7.below (B := w.heap.size) HH.out.size (fun _ h => h.elim))
    generalize (w1.alloc (.cells #[.int .u8 0, .int .u8 0, .int .u8 0, .int .u8 0, .int .u8 0, .int .u8 0, .int .u8 0, .int .u8 0, .int .u8 0, .int .u8 0, .int .u8 0, .int .u8 0, .int .u8 0, .int .u8 0, .int .u8 0, .int .u8 0, .int .u8 0, .int .u8 0, .int .u8 0, .int .u8 0, .int .u8 0, .int .u8 0, .int .u8 0, .int .u8 0, .int .u8 0, .int .u8 0, .int .u8 0, .int .u8 0, .int .u8 0, .int .u8 0, .int .u8 0, .int .u8 0] 30)).setRow w1.heap.size (bcells SEC).toArray = W7 at hbx hk7 hT7 hB7 ⊢
    obtain ⟨G, hG⟩ : ∃ G, G = w1.heap.size := ⟨_, rfl⟩
    rw [← hG] at hbx ⊢
    clear hG hk7
    have hGN : G < W7.heap.size := hbx.lt
    have h3N : 1 + 1 ≤ W7.heap.size := hT7.low
    obtain ⟨D, hD⟩ : ∃ D, D = digest K s0 SEC := ⟨_, rfl⟩
    have hDh : IsHash D := by rw [hD]; exact digest_hash K s0 hT7.len SEC
    have hsum : ∀ W, Below W7.heap.size W7 W → Calls Tryd.prog 17 #[.slice (some ⟨W.heap.size, 0, none⟩) 1 1] (W.alloc (.cells #[.slice (some ⟨G, 0, none⟩) 32 32] 45)) fun e w' => e = .returned (arr D) ∧ Below W.heap.size W w' := fun W hW => by
      have hk := (Kept.refl (fun _ => False) W).alloc (.cells #[.slice (some ⟨G, 0, none⟩) 32 32] 45)
      have hb9 := (hbx.below hW hGN)
      have hp : Parts (W.alloc (.cells #[.slice (some ⟨G, 0, none⟩) 32 32] 45)) (.slice (some ⟨W.heap.size, 0, none⟩) 1 1) [SEC] := by
        refine ⟨_, _, rfl, fun _ => ⟨W.heap.size, 0, rfl, fun i hi => ?_⟩⟩
        have hi0 : i = 0 := by simpa using hi
        subst hi0
        refine ⟨.slice (some ⟨G, 0, none⟩) 32 32, (Has.new W 45 #[.slice (some ⟨G, 0, none⟩) 32 32]).cell_is rfl, ?_⟩
        change Bytes _ _ _ SEC
        refine ⟨some ⟨G, 0, none⟩, 32, rfl, by decide, sec_is.2, fun _ => ⟨G, 0, rfl, by have := hb9.lt; simp; omega, fun i hi => ?_⟩⟩
        refine (hb9.alloc _).cell_is ?_
        rw [Nat.zero_add, List.getElem?_toArray]
        exact bcells_get SEC i hi
      have hs := sum_is K s0 _ _ [SEC] ((hT7.below hW h3N).kept hk (fun _ h => h.elim)) hp (by decide) (by decide)
      rw [show [SEC].flatten = SEC by simp, ← hD] at hs
      exact hs.mono fun e w' he => ⟨he.1, ((Below.refl W.heap.size W).alloc (Nat.le_refl _) _).trans (he.2.mono (by simp))⟩
    have hT9 : ∀ W, Below W7.heap.size W7 W → Tabs K s0 W := fun W hW => hT7.below hW h3N
    have hB9 : ∀ W, Below W7.heap.size W7 W → Below w.heap.size w W := fun W hW => hB7.trans (hW.mono hB7.size)
    have hrl : ∀ W, Below W7.heap.size W7 W → Has W G 30 (bcells SEC).toArray := fun W hW => hbx.below hW hGN
    have ha64 : a < 18446744073709551616 := by omega
    have hb64 : b < 18446744073709551616 := by omega
    have lok : ∀ f (k : Nat), k ≤ 65536 → (lo no f k D).ok := fun f k hk => ⟨z32_is, hDh, by show k < _; omega⟩
    have on : ∀ k, k ≤ 131072 → Nums (one k) := fun k hk => nums_one _ _ (by omega)
    have c0 := Lib.hid (live_new (N := W7.heap.size) (w0 := W7) (w := W7) (Below.refl _ _) (Nat.le_refl _) 0 0)
    have c1 := Lib.hid (fun (g : Nat) (W : World) (h : Live W7.heap.size W7 W g (nb [] [] [])) => live_fund h (Nat.le_refl _) (nb_ok _ _ _ nums_nil nums_nil (fun o ho => by cases ho) (by decide)) 0 Z32 a z32_is ha64)
    have c2 := Lib.hid (fun (g : Nat) (W : World) (h : Live W7.heap.size W7 W g (nb (one a) [] [])) => live_fund h (Nat.le_refl _) (nb_ok _ _ _ (on a (by omega)) nums_nil (fun o ho => by cases ho) (by decide)) 1 Z32 b z32_is hb64)
    have c3 := Lib.hid (fun (g : Nat) (W : World) (h : Live W7.heap.size W7 W g (nb (one a) (one b) [])) => live_offer h (Nat.le_refl _) (nb_ok _ _ _ (on a (by omega)) (on b (by omega)) (fun o ho => by cases ho) (by decide)) (lo no 0 a D) (lok _ _ ha2))
    have c4 := Lib.hid (fun (g : Nat) (W : World) (h : Live W7.heap.size W7 W g (nb [] (one b) [lo no 0 a D])) => live_offer h (Nat.le_refl _) (nb_ok _ _ _ nums_nil (on b (by omega)) (fun o ho => by rw [List.mem_singleton.1 ho]; exact lok _ _ ha2) (by show 1 ≤ 1000; decide)) (lo no 1 b D) (lok _ _ hb2'))
    have c5 := Lib.hid (fun (g : Nat) (W : World) (h : Live W7.heap.size W7 W g (nb [] [] [lo no 0 a D, lo no 1 b D])) => live_settle K s0 (hT9 W h.below) h (Nat.le_refl _) (nb_ok _ _ _ nums_nil nums_nil (fun o ho => by rcases List.mem_cons.1 ho with rfl | ho; exact lok _ _ ha2; rw [List.mem_singleton.1 ho]; exact lok _ _ hb2') (by show 2 ≤ 1000; decide)) 0 no SEC sec_is (fun o ho => by rcases List.mem_cons.1 ho with rfl | ho; exact .inl rfl; rw [List.mem_singleton.1 ho]; exact .inr rfl) (fun o ho => by
      rcases List.mem_cons.1 ho with rfl | ho
      · show 0 + a < _; omega
      · rw [List.mem_singleton.1 ho]; show 0 + b < _; omega))
    have h8 := N8 no a b D
    have hsd : ∀ o ∈ (nb [] (one a) [lo no 1 b D]).offers, o = lo no 1 b D := fun o ho => List.mem_singleton.1 ho
    have ok6 : (nb [] (one a) [lo no 1 b D]).ok := nb_ok _ _ _ nums_nil (on a (by omega)) (fun o ho => by rw [List.mem_singleton.1 ho]; exact lok _ _ hb2') (by show 1 ≤ 1000; decide)
    have c6 := Lib.hid (fun (g : Nat) (W : World) (h : Live W7.heap.size W7 W g (nb [] (one a) [lo no 1 b D])) => live_settle K s0 (hT9 W h.below) h (Nat.le_refl _) ok6 0 no SEC sec_is (fun o ho => by rw [hsd o ho]; exact .inr rfl) (fun o ho => by rw [hsd o ho]; show (nb [] (one a) [lo no 1 b D]).has (1 - 1) Z32 + b < _; rw [show (1 : Int) - 1 = 0 by decide, h8.2]; omega))
    have hfb : ∀ o ∈ (nb [] (one a) [lo no 1 b D]).offers, (nb [] (one a) [lo no 1 b D]).has o.frm o.id + o.am < 18446744073709551616 := fun o ho => by rw [hsd o ho]; show (nb [] (one a) [lo no 1 b D]).has 1 Z32 + b < _; rw [h8.1]; omega
    have hfs : ∀ o ∈ (nb [] (one a) [lo no 1 b D]).offers, isSide o.frm := fun o ho => by rw [hsd o ho]; exact .inr rfl
    have c7 := Lib.hid (fun (g : Nat) (W : World) (h : Live W7.heap.size W7 W g (nb [] (one a) [lo no 1 b D])) => live_back h (Nat.le_refl _) ok6 0 no hfs hfb)
    have c8 := Lib.hid (fun (g : Nat) (W : World) (h : Live W7.heap.size W7 W g (nb [] (one a) [lo no 1 b D])) => live_has h (Nat.le_refl _) ok6 1 Z32 z32_is (.inr rfl))
    have c9 := Lib.hid (fun (g : Nat) (W : World) (h : Live W7.heap.size W7 W g (nb [] (one a) [lo no 1 b D])) => live_has h (Nat.le_refl _) ok6 0 Z32 z32_is (.inl rfl))
    have c10 := Lib.hid (fun (g : Nat) (W : World) (h : Live W7.heap.size W7 W g (nb [] (one a) [lo no 1 b D])) => live_back h (Nat.le_refl _) ok6 1 no hfs hfb)
    have c11 := Lib.hid (fun (g : Nat) (W : World) (h : Live W7.heap.size W7 W g (nb [] (one (a + b)) [])) => live_has h (Nat.le_refl _) (nb_ok _ _ _ nums_nil (on _ (by omega)) (fun o ho => by cases ho) (by decide)) 1 Z32 z32_is (.inr rfl))
    have n1 := N1 a ha0 ha2
    have n2 := N2 a b hb0' ha2 hb2'
    have n3 := N3 no hno a b ha0 D
    have n4 := N4 no hno a b hb0' D
    have n5 := N5 no a b D K s0 SEC hD.symm
    have n6 := N67 no a b D K s0 SEC
    have n9 := N9 no a b D
    have n10 := N10 a b
    rw [n1.1, n1.2, zarr] at c1
    rw [n2.1, n2.2, zarr] at c2
    rw [n3.1, n3.2] at c3
    rw [n4.1, n4.2] at c4
    rw [n5.1, n5.2] at c5
    rw [n6.1.1, n6.1.2] at c6
    rw [n6.2.1, n6.2.2] at c7
    rw [h8.1, zarr] at c8
    rw [h8.2, zarr] at c9
    rw [n9.1, n9.2] at c10
    rw [n10, zarr] at c11
    have hbo := fun (n f : Int) (k : Nat) => lock_lit n f k D hDh.1
    have hdl : (bcells D).length = 32 := by rw [bcells_length, hDh.1]
    unfold arr at hsum c5 c6
    obtain ⟨DV, hDV⟩ : ∃ DV, DV = bcells D := ⟨_, rfl⟩
    rw [← hDV] at hsum hdl
    rw [hbo, ← hDV] at c3 c4
    have HSUM := Lib.hid hsum
    have HB9 := Lib.hid hB9
    have HRL := Lib.hid hrl
    have hszk2 : (Tryd.prog.info? 30).map (·.size) = some (bcells SEC).toArray.size := by kernel_rfl
    clear n1 n2 n3 n4 n5 n6 n9 n10 h8 hsd hfb hfs ok6 lok on hsum hbo hT9 hB9 hrl hDV hD hDh hB7 hT7 hbx hszk hszz h3N
    go_wp2_with fail
    refine c0.out.mono ?_
    rintro _ v1 ⟨g, rfl, l1⟩
    have L1 := Lib.hid l1
    clear l1
    go_wp2_with fail
    refine (c1.out _ _ L1.out).mono ?_
    rintro _ v2 ⟨rfl, l2⟩
    have L2 := Lib.hid l2
    clear l2
    go_wp2_with fail
    refine (c2.out _ _ L2.out).mono ?_
    rintro _ v3 ⟨rfl, l3⟩
    have L3 := Lib.hid l3
    clear l3
    go_wp2_with fail
    refine (HSUM.out _ L3.out.below).mono ?_
    rintro _ v4 ⟨rfl, hb9⟩
    have L4 := Lib.hid (L3.out.quiet (L3.out.size (Nat.le_refl _)) hb9)
    clear hb9
    go_wp2_with fail
    refine (c3.out _ _ L4.out).mono ?_
    rintro _ v5 ⟨rfl, l5⟩
    have L5 := Lib.hid l5
    clear l5
    go_wp2_with fail
    refine (HSUM.out _ L5.out.below).mono ?_
    rintro _ v6 ⟨rfl, hb9⟩
    have L6 := Lib.hid (L5.out.quiet (L5.out.size (Nat.le_refl _)) hb9)
    clear hb9
    go_wp2_with fail
    refine (c4.out _ _ L6.out).mono ?_
    rintro _ v7 ⟨rfl, l7⟩
    have L7 := Lib.hid l7
    clear l7
    go_wp2_with (refine wpList_load_rowG (by rfl) 30 (.tmp 7) rfl G rfl 30 (bcells SEC).toArray (0, 0) _ (HRL.out _ L7.out.below) Tryd.underlying30 rfl hszk2 ?_)
    refine (c5.out _ _ L7.out).mono ?_
    rintro _ v8 ⟨rfl, l8⟩
    have L8 := Lib.hid l8
    clear l8
    go_wp2_with (refine wpList_load_rowG (by rfl) 30 (.tmp 7) rfl G rfl 30 (bcells SEC).toArray (0, 0) _ (HRL.out _ L8.out.below) Tryd.underlying30 rfl hszk2 ?_)
    refine (c6.out _ _ L8.out).mono ?_
    rintro _ v9 ⟨rfl, l9⟩
    have L9 := Lib.hid l9
    clear l9
    go_wp2_with fail
    refine (c7.out _ _ L9.out).mono ?_
    rintro _ v10 ⟨rfl, l10⟩
    have L10 := Lib.hid l10
    clear l10
    go_wp2_with fail
    refine (c8.out _ _ L10.out).mono ?_
    rintro _ v11 ⟨rfl, l11⟩
    have L11 := Lib.hid l11
    clear l11
    go_wp2_with fail
    refine (c9.out _ _ L11.out).mono ?_
    rintro _ v12 ⟨rfl, l12⟩
    have L12 := Lib.hid l12
    clear l12
    go_wp2_with fail
    refine (c10.out _ _ L12.out).mono ?_
    rintro _ v13 ⟨rfl, l13⟩
    have L13 := Lib.hid l13
    clear l13
    go_wp2_with fail
    refine (c11.out _ _ L13.out).mono ?_
    rintro _ v14 ⟨rfl, l14⟩
    have L14 := Lib.hid l14
    clear l14
    go_wp2
    go_ret
    exact ⟨rfl, HB9.out _ L14.out.below⟩
set_option maxRecDepth 100000 in
theorem lifted (os : Os) (started : os.Started) (H : Type) (enc : TypeId × Value → H) :
    ReturnsInHanded {} Tryd.checked os 4 .any (fun w args => (Rows.bookNamesSpec.pre enc Tryd.prog Tryd.f4 [] false w args ∧ laidMetH Tryd.prog laid2 w) ∧ sizedMet enc Tryd.prog Tryd.f4 (OpenSpec.ofChange Rows.bookNamesSpec) false w args)
      (Rows.bookNamesSpec.post enc Tryd.prog Tryd.f4 false true false false) := by
  refine returnsInHanded_of_change_and (C := Tryd.checked) (X := fun w _ => laidMetH Tryd.prog laid2 w) (fun _ _ _ hh h => h.of_heap hh) own started (by kernel_rfl) Tryd.func4
    (ChangeSpec.witness_shaped (enc := enc) (C := Tryd.checked) (os := os) (X := fun w _ => laidMetH Tryd.prog laid2 w) false (World.doorLaid Tryd.prog 4000 os) #[.int .i64 0, .int .u64 0, .int .u64 0] 8 rfl (World.shaped_of_RefB (by kernel_rfl) (by kernel_rfl)) (by kernel_rfl) (by kernel_rfl) (by kernel_rfl) (door_met os _)) ?_
  intro W base args ds gs before hval0 hW _ _ hL _
  have hval : ∀ (j : Nat) t v, Tryd.f4.params[j]? = some t → args[j]? = some v → Value.okWide Tryd.prog W .any base t v := hval0
  have hW' := hW
  obtain ⟨p, q, hA0, hV, rfl, hfz, hnd⟩ := hW
  have hA : DataW.TrodAll enc Tryd.prog W 0 (fun _ => true) true Tryd.f4.params.toList args.toList ds p := hA0
  rw [Tryd.params4] at hA hval
  obtain ⟨v0, vs0, d0, ds0, p0, q0, hargs, rfl, rfl, h0, r0⟩ := trodAll_cons hA
  obtain ⟨v1, vs1, d1, ds1, p1, q1, rfl, rfl, rfl, h1, r1⟩ := trodAll_cons r0
  obtain ⟨v2, vs2, d2, ds2, p2, q2, rfl, rfl, rfl, h2, r2⟩ := trodAll_cons r1
  obtain ⟨rfl, rfl, rfl⟩ := trodAll_nil r2
  obtain rfl : args = #[v0, v1, v2] := by cases args; simp_all
  obtain ⟨rfl, rfl⟩ := trodVars_none hV
  have k0 := h0
  have lt0 : ∀ x ∈ p0, x.block < W.heap.size := by obtain ⟨m, hm⟩ := k0; exact DataW.trod_lt m _ _ _ hm
  obtain ⟨a0, rfl, rfl, rfl, w0⟩ := open_int Tryd.underlying3 (hval 0 3 v0 rfl rfl) h0
  have k1 := h1
  have lt1 : ∀ x ∈ p1, x.block < W.heap.size := by obtain ⟨m, hm⟩ := k1; exact DataW.trod_lt m _ _ _ hm
  obtain ⟨a1, rfl, rfl, rfl, w1⟩ := open_int Tryd.underlying22 (hval 1 22 v1 rfl rfl) h1
  have k2 := h2
  have lt2 : ∀ x ∈ p2, x.block < W.heap.size := by obtain ⟨m, hm⟩ := k2; exact DataW.trod_lt m _ _ _ hm
  obtain ⟨a2, rfl, rfl, rfl, w2⟩ := open_int Tryd.underlying22 (hval 2 22 v2 rfl rfl) h2
  obtain ⟨K, s0, hT⟩ := of_laid hL
  clear hA0 hval0
  refine (walk K s0 a0 a1 a2 W hT w0 w1 w2).mono fun e W' ⟨he, bel⟩ => ?_
  subst he
  exact ⟨_, rfl, _, _, _, [], _, [], hW', trodAll_mk1 (shut_bool Tryd.underlying4 _), (trodAll_cons_mk (Below.trod laidOut (by kernel_rfl) (of_decide_eq_true (by kernel_rfl)) k0 bel lt0) (trodAll_cons_mk (Below.trod laidOut (by kernel_rfl) (of_decide_eq_true (by kernel_rfl)) k1 bel lt1) (trodAll_cons_mk (Below.trod laidOut (by kernel_rfl) (of_decide_eq_true (by kernel_rfl)) k2 bel lt2) trodAll_mk0))), rfl, bel.frame _, fun h => by cases h⟩

theorem over : Rows.bookNamesRow.holds Tryd.pinned (OpenSpec.ofChange Rows.bookNamesSpec) :=
  OpenClaim.holds_of_wide 4 Tryd.f4 rfl rfl rfl rfl rfl rfl rfl ⟨rfl, rfl, rfl, rfl, rfl⟩ rfl rfl rfl rfl rfl (by kernel_rfl) Tryd.func4 (by kernel_rfl)
    (of_decide_eq_true (by kernel_rfl)) (by unfold Func.isWrapper; first | (rw [if_pos (by decide +kernel)]; kernel_rfl) | (rw [if_neg (by decide +kernel)]; exact ⟨rfl, rfl⟩))
    (fun os started H enc _ => lifted os started H enc)

theorem proved : Rows.BookNamesCardSaid :=
  Claim7.holds_tied_plain_at .later [] [.data, .data] true (true, "babba6204bebecdfd7abab8c91506edfb9cab40ce7b40170361586117bd77f31") false
    over (fun _ h => by cases h) (by kernel_rfl) (fun _ h => by cases h) bookNames_row_tie rfl ⟨rfl, rfl⟩ (by kernel_rfl) rfl
    (fun f fn hf hfn => by
      obtain rfl : f = 4 := Option.some.inj ((show Tryd.prog.funcNamed "moneyer/moneyerlaw17.BookNames" = some 4 by kernel_rfl).symm.trans hf) |>.symm
      obtain rfl : fn = Tryd.f4 := (Option.some.inj (Tryd.func4.symm.trans hfn)).symm
      exact ⟨by kernel_rfl, fun j t ht => by
        rw [Tryd.params4] at ht
        have hm : t ∈ [3, 22, 22] := by simpa using Array.mem_of_getElem? ht
        have hall : ([3, 22, 22].all fun u => !Tryd.prog.wantsStandIn u) = true := by kernel_rfl
        exact (show Tryd.prog.wantsStandIn t = false by simpa using List.all_eq_true.1 hall t hm)⟩)
    (by kernel_rfl)


end Go.Proofs.YtnddejgglbdkmaaDoor.bookNames
