/- BookSlots: a side has so many offers, and no more; one that is given back makes room: for every side's number and every n the law returns true. No condition. -/
import Derived.Test.YtnddejgglbdkmaaBook16
namespace Go.Proofs.Ytnddejgglbdkmaa.bookSlots
open Go.ChangeShapes Go.WideShapes Go.ChangeAt Go.RowKit Go.Maps
set_option linter.unusedVariables false

theorem and_mask (n : Int) (m : Int) (k : Nat) (hk : k < 63) (hm : m = ((2 ^ k - 1 : Nat) : Int)) : bits BinOp.and .i64 n m = n % ((2 ^ k : Nat) : Int) := by
  have hp : 0 < 2 ^ k := Nat.two_pow_pos k
  have hp2 : 2 ^ k < 2 ^ 63 := Nat.pow_lt_pow_right (by decide) hk
  unfold bits
  have e : (BitVec.ofInt IntKind.i64.bits n &&& BitVec.ofInt IntKind.i64.bits m).toNat = (n % ((2 ^ k : Nat) : Int)).toNat := by
    show (BitVec.ofInt 64 n &&& BitVec.ofInt 64 m).toNat = _
    rw [BitVec.toNat_and, BitVec.toNat_ofInt, BitVec.toNat_ofInt]
    have h31 : (m % ((2 ^ 64 : Nat) : Int)).toNat = 2 ^ k - 1 := by
      rw [hm, ← Int.natCast_emod, Int.toNat_natCast, Nat.mod_eq_of_lt]
      exact Nat.lt_of_lt_of_le (Nat.sub_lt hp (by decide)) (Nat.le_trans (Nat.le_of_lt hp2) (by decide))
    rw [h31, Nat.and_two_pow_sub_one_eq_mod]
    have hd : ((2 ^ k : Nat) : Int) ∣ ((2 ^ 64 : Nat) : Int) := Int.natCast_dvd_natCast.2 (Nat.pow_dvd_pow 2 (by omega))
    have h1 := Int.emod_emod_of_dvd n hd
    have h2 : 0 ≤ n % ((2 ^ 64 : Nat) : Int) := Int.emod_nonneg _ (by decide)
    have h3 : 0 ≤ n % ((2 ^ k : Nat) : Int) := Int.emod_nonneg _ (by omega)
    apply Int.ofNat.inj
    show (((n % ((2 ^ 64 : Nat) : Int)).toNat % 2 ^ k : Nat) : Int) = ((n % ((2 ^ k : Nat) : Int)).toNat : Int)
    rw [Int.natCast_emod, Int.toNat_of_nonneg h2, Int.toNat_of_nonneg h3, h1]
  simp only [e]
  have h3 : 0 ≤ n % ((2 ^ k : Nat) : Int) := Int.emod_nonneg _ (by omega)
  have h4 : n % ((2 ^ k : Nat) : Int) < ((2 ^ k : Nat) : Int) := Int.emod_lt_of_pos _ (by omega)
  rw [Int.toNat_of_nonneg h3, IntKind.wrap_i64]
  have : ((2 ^ k : Nat) : Int) < 9223372036854775808 := by
    have := Int.ofNat_lt.2 hp2
    exact this
  omega


theorem zero_u2 (w : World) : (zeroValue 26).run Try.prog w = .ok (.agg #[.int .u64 0, .int .u64 0]) w := by kernel_rfl

set_option maxRecDepth 100000 in
set_option maxHeartbeats 4000000 in
theorem walk (a0 a1 : Int) (w : World) (hw0 : (Lit.int .i64 a0).wf = true) (hw1 : (Lit.int .i64 a1).wf = true) :
    Calls Try.prog 3 #[.int .i64 a0, .int .i64 a1] w fun e w' => e = .returned (.bool true) ∧ Below w.heap.size w w' := by
  have hb0 := bounds_i64 hw0
  have hb1 := bounds_i64 hw1
  have m0 : bits BinOp.and .i64 a0 1 = a0 % 2 := and_mask a0 1 1 (by decide) rfl
  have m1 : bits BinOp.and .i64 a1 1023 = a1 % 1024 := and_mask a1 1023 10 (by decide) rfl
  obtain ⟨f, hf⟩ : ∃ f, f = a0 % 2 := ⟨_, rfl⟩
  have hfs : isSide f := by unfold isSide; omega
  obtain ⟨M, hM⟩ : ∃ M : Nat, a1 % 1024 = M := ⟨(a1 % 1024).toNat, by omega⟩
  obtain ⟨n, hn⟩ : ∃ n : Nat, n = M % 30 := ⟨_, rfl⟩
  have hn30 : n < 30 := by omega
  have hM2 : M < 1024 := by omega
  have hrem : Int.tmod (M : Int) 30 = (n : Int) := by rw [hn]; exact (Int.ofNat_tmod M 30).symm
  rw [← hf] at m0
  rw [hM] at m1
  have hf0 : (0 : Int) ≤ f := by rcases hfs with e | e <;> rw [e] <;> decide
  have hf1 : f ≤ 1 := by rcases hfs with e | e <;> rw [e] <;> decide
  obtain ⟨ZO, hz, hzs, -, hl⟩ := coin_lit
  have hzn : ¬ ZO = #[] := fun e => by rw [e] at hzs; cases hzs
  have hz2 := zero_u2
  have hrow : ∀ k, ∀ o ∈ rowF f k, o.ok := rowF_ok f
  have g0 := Lib.hid (fun (W : World) (h : Below w.heap.size w W) => live_new (N := w.heap.size) (w0 := w) (w := W) h h.size 0 0)
  have g1 := Lib.hid (fun (g : Nat) (W : World) (h : Live w.heap.size w W g ⟨[], [], [], 0, 0⟩) => live_fund h (Nat.le_refl _) ⟨fun p hp => (by cases hp), fun p hp => (by cases hp), fun o ho => (by cases ho), (by decide)⟩ 0 Z32 100 z32_is (by decide))
  have g2 := Lib.hid (fun (g : Nat) (W : World) (h : Live w.heap.size w W g ⟨[(Z32, .int .u64 ((100 : Nat) : Int))], [], [], 0, 0⟩) => live_fund h (Nat.le_refl _) ⟨nums_one _ _ (by decide), fun p hp => (by cases hp), fun o ho => (by cases ho), (by decide)⟩ 1 Z32 100 z32_is (by decide))
  rw [fund0.1, fund0.2, zarr] at g1
  rw [fund1.1, fund1.2, sl_start f, zarr] at g2
  have g3 := Lib.hid (fun (k : Nat) (hk : k < 30) (g : Nat) (W : World) (h : Live w.heap.size w W g (sl f (100 - k) 100 (rowF f k))) => by
    have a := factA f hfs k (by omega)
    have s := (slot_offer f (k : Int) hfs (by omega) (100 - k) 100 (rowF f k) (by omega)).2.2 a.1 (by omega)
    have c := live_offer h (Nat.le_refl _) (sl_ok f _ _ _ (by omega) (by decide) (hrow k) (by rw [rowF_len]; omega)) (coin (k : Int) f 1) (coin_ok _ _ _ (by decide))
    rw [s.1, s.2, hl, ← rowF_succ, show 100 - k - 1 = 100 - (k + 1) by omega] at c
    exact c)
  have g4 := Lib.hid (fun (g : Nat) (W : World) (h : Live w.heap.size w W g (sl f 70 100 (rowF f 30))) => by
    have a := factA f hfs 30 (by omega)
    have s := (slot_offer f 30 hfs (by decide) 70 100 (rowF f 30) (by decide)).2.1 a.1 (by rw [a.2]; exact Nat.le_refl _)
    have c := live_offer h (Nat.le_refl _) (sl_ok f _ _ _ (by decide) (by decide) (hrow 30) (by rw [rowF_len]; omega)) (coin 30 f 1) (coin_ok _ _ _ (by decide))
    rw [s.1, s.2, hl] at c
    exact c)
  have g5 := Lib.hid (fun (g : Nat) (W : World) (h : Live w.heap.size w W g (sl f 70 100 (rowF f 30))) => by
    have a := factB f hfs n hn30
    have s := (slot_offer f (n : Int) hfs (by omega) 70 100 (rowF f 30) (by decide)).1 (by rw [a.1]; omega)
    have c := live_offer h (Nat.le_refl _) (sl_ok f _ _ _ (by decide) (by decide) (hrow 30) (by rw [rowF_len]; omega)) (coin (n : Int) f 1) (coin_ok _ _ _ (by decide))
    rw [s.1, s.2, hl] at c
    exact c)
  have hG : ∀ o ∈ rowG f n, o.ok := fun o ho => by
    rcases List.mem_append.1 ho with ho | ho
    · exact hrow 30 o ho
    · rw [List.mem_singleton.1 ho]; exact coin_ok _ _ _ (by decide)
  have hGs : ∀ o ∈ rowG f n, isSide o.frm ∧ o.id = Z32 ∧ o.am = 1 := fun o ho => by
    rcases List.mem_append.1 ho with ho | ho
    · obtain ⟨i, _, rfl⟩ := List.mem_map.1 ho; exact ⟨hfs, rfl, rfl⟩
    · rw [List.mem_singleton.1 ho]; exact ⟨side_swap hfs, rfl, rfl⟩
  have hGl : (rowG f n).length = 31 := by unfold rowG; rw [List.length_append, rowF_len]; rfl
  have g6 := Lib.hid (fun (g : Nat) (W : World) (h : Live w.heap.size w W g (sl f 70 100 (rowF f 30))) => by
    have a := factB f hfs n hn30
    have s := (slot_offer (1 - f) (n : Int) (side_swap hfs) (by omega) 100 70 (rowF f 30) (by decide)).2.2 a.2.1 (by rw [a.2.2]; decide)
    rw [← sl_swap f hfs] at s
    have c := live_offer h (Nat.le_refl _) (sl_ok f _ _ _ (by decide) (by decide) (hrow 30) (by rw [rowF_len]; omega)) (coin (n : Int) (1 - f) 1) (coin_ok _ _ _ (by decide))
    rw [s.1, s.2, hl, show sl (1 - f) (100 - 1) 70 (rowF f 30 ++ [coin (n : Int) (1 - f) 1]) = sl f 70 99 (rowG f n) from (sl_swap f hfs 70 99 (rowG f n)).symm] at c
    exact c)
  have g7 := Lib.hid (fun (g : Nat) (W : World) (h : Live w.heap.size w W g (sl f 70 99 (rowG f n))) => by
    have e := sl_facts f hfs 70 99 (rowG f n)
    have e' := sl_facts (1 - f) (side_swap hfs) 99 70 (rowG f n)
    rw [← sl_swap f hfs] at e'
    have s := slot_back f hfs n hn30 70 99
    have c := live_back h (Nat.le_refl _) (sl_ok f _ _ _ (by decide) (by decide) hG (by omega)) f (n : Int) (by rw [e.2.2.1]; exact fun o ho => (hGs o ho).1) (by
      rw [e.2.2.1]
      intro o ho
      obtain ⟨q1, q2, q3⟩ := hGs o ho
      rw [q2, q3]
      by_cases hq : o.frm = f
      · rw [hq, e.2.1]; decide
      · have : o.frm = 1 - f := by unfold isSide at q1 hfs; omega
        rw [this, e'.2.1]; decide)
    rw [s.1, s.2] at c
    exact c)
  have g8 := Lib.hid (fun (g : Nat) (W : World) (h : Live w.heap.size w W g (sl f (70 + 1) 99 ((rowG f n).eraseIdx n))) => by
    have a := factD f hfs n hn30
    have s := (slot_offer f 30 hfs (by decide) (70 + 1) 99 ((rowG f n).eraseIdx n) (by decide)).2.2 a.2.2.1 (by rw [a.2.2.2]; decide)
    have c := live_offer h (Nat.le_refl _) (sl_ok f _ _ _ (by decide) (by decide) (fun o ho => hG o (List.mem_of_mem_eraseIdx ho)) (by have := List.length_eraseIdx_le (rowG f n) n; omega)) (coin 30 f 1) (coin_ok _ _ _ (by decide))
    rw [s.1, s.2, hl] at c
    exact c)
  have HFS := Lib.hid hfs
  clear hw0 hw1 hb0 hb1 hf hfs hM hn hl hrow hG hGs hGl
  go_enter Try.func3, Try.ntmps3
  go_wp2_with fail
  refine (head_is _).mono ?_
  rintro _ w1 ⟨rfl, hh⟩
  have HH := Lib.hid hh
  clear hh
  go_wp2_with fail
  refine (g0.out _ HH.out).mono ?_
  rintro _ w2 ⟨g, rfl, l1⟩
  have L1 := Lib.hid l1
  clear l1
  go_wp2_with fail
  refine (g1.out _ _ L1.out).mono ?_
  rintro _ w3 ⟨rfl, l2⟩
  have L2 := Lib.hid l2
  clear l2
  go_wp2_with fail
  refine (g2.out _ _ L2.out).mono ?_
  rintro _ w4 ⟨rfl, l3⟩
  have L3 := Lib.hid l3
  clear l3
  go_wp2_with fail
  go_loopw [6] (fun i wr => ∃ k : Nat, k ≤ 30 ∧ i = .int .i64 k ∧ Live w.heap.size w wr g (sl f (100 - k) 100 (rowF f k))) (fun i _ => 30 - (intOf i).toNat)
  case atStart => exact ⟨0, by omega, rfl, L3.out⟩
  case round =>
    obtain ⟨k, hk, rfl, hl9⟩ := hrel
    have L9 := Lib.hid hl9
    clear hl9
    by_cases hlt : k < 30
    · go_wp2_with fail
      refine (g3.out k hlt _ _ L9.out).mono ?_
      rintro _ w5 ⟨rfl, l4⟩
      have L4 := Lib.hid l4
      clear l4
      go_wp2
      go_roundw
      case rel => exact ⟨k + 1, by omega, by go_num, L4.out⟩
      case measure => simp [intOf]; omega
    · have hk30 : k = 30 := by omega
      subst hk30
      go_wp2_with fail
      refine (g4.out _ _ L9.out).mono ?_
      rintro _ w5 ⟨rfl, l4⟩
      have L4 := Lib.hid l4
      clear l4
      go_wp2_with fail
      refine (g5.out _ _ L4.out).mono ?_
      rintro _ w6 ⟨rfl, l5⟩
      have L5 := Lib.hid l5
      clear l5
      go_wp2_with fail
      refine (g6.out _ _ L5.out).mono ?_
      rintro _ w7 ⟨rfl, l6⟩
      have L6 := Lib.hid l6
      clear l6
      go_wp2_with fail
      refine (g7.out _ _ L6.out).mono ?_
      rintro _ w8 ⟨rfl, l7⟩
      have L7 := Lib.hid l7
      clear l7
      go_wp2_with fail
      refine (g8.out _ _ L7.out).mono ?_
      rintro _ w9 ⟨rfl, l8⟩
      have L8 := Lib.hid l8
      clear l8
      go_wp2
      go_ret
      exact ⟨rfl, L8.out.below⟩
theorem own : ownKnob Try.prog.godebug = none := by kernel_rfl
theorem laidOut : laidOutB Try.prog = true := by kernel_rfl

set_option maxRecDepth 100000 in
theorem lifted (os : Os) (started : os.Started) (H : Type) (enc : TypeId × Value → H) :
    ReturnsInHanded {} Try.checked os 3 .any (Rows.bookSlotsSpec.pre6 enc Try.prog Try.f3 Rows.bookSlotsRow.domain false) (Rows.bookSlotsSpec.post enc Try.prog Try.f3 false true false false) := by
  refine returnsInHanded_of_change (C := Try.checked) own started (by kernel_rfl) Try.func3
    (ChangeSpec.witness6 (enc := enc) (C := Try.checked) false ⟨#[], #[.int .i64 0, .int .i64 0], []⟩ 8 (by kernel_rfl) (by kernel_rfl) (by kernel_rfl) (by kernel_rfl)) ?_
  intro W base args ds gs before hval0 hW hcnd _
  have hval : ∀ (j : Nat) t v, Try.f3.params[j]? = some t → args[j]? = some v → Value.okWide Try.prog W .any base t v := hval0
  have hW' := hW
  obtain ⟨p, q, hA0, hV, rfl, hfz, hnd⟩ := hW
  have hA : DataW.TrodAll enc Try.prog W 0 (fun _ => true) true Try.f3.params.toList args.toList ds p := hA0
  rw [Try.params3] at hA hval
  obtain ⟨v0, vs0, d0, ds0, p0, q0, hargs, rfl, rfl, h0, r0⟩ := trodAll_cons hA
  obtain ⟨v1, vs1, d1, ds1, p1, q1, rfl, rfl, rfl, h1, r1⟩ := trodAll_cons r0
  obtain ⟨rfl, rfl, rfl⟩ := trodAll_nil r1
  obtain rfl : args = #[v0, v1] := by cases args; simp_all
  obtain ⟨rfl, rfl⟩ := trodVars_none hV
  have k0 := h0
  have lt0 : ∀ x ∈ p0, x.block < W.heap.size := by obtain ⟨m, hm⟩ := k0; exact DataW.trod_lt m _ _ _ hm
  obtain ⟨a0, rfl, rfl, rfl, w0⟩ := open_int Try.underlying3 (hval 0 3 v0 rfl rfl) h0
  have k1 := h1
  have lt1 : ∀ x ∈ p1, x.block < W.heap.size := by obtain ⟨m, hm⟩ := k1; exact DataW.trod_lt m _ _ _ hm
  obtain ⟨a1, rfl, rfl, rfl, w1⟩ := open_int Try.underlying3 (hval 1 3 v1 rfl rfl) h1
  clear hA0 hval0
  refine (walk a0 a1 W w0 w1).mono fun e W' ⟨he, bel⟩ => ?_
  subst he
  exact ⟨_, rfl, _, _, _, [], _, [], hW', trodAll_mk1 (shut_bool Try.underlying4 _), (trodAll_cons_mk (Below.trod laidOut (by kernel_rfl) (of_decide_eq_true (by kernel_rfl)) k0 bel lt0) (trodAll_cons_mk (Below.trod laidOut (by kernel_rfl) (of_decide_eq_true (by kernel_rfl)) k1 bel lt1) trodAll_mk0)), rfl, bel.frame _, fun h => by cases h⟩

theorem over : Rows.bookSlotsRow.holds Try.pinned (OpenSpec.ofChange Rows.bookSlotsSpec) :=
  OpenClaim.holds_of_wide 3 Try.f3 rfl rfl rfl rfl rfl rfl rfl ⟨rfl, rfl, rfl, rfl, rfl⟩ rfl rfl rfl rfl rfl (by kernel_rfl) Try.func3 (by kernel_rfl)
    (of_decide_eq_true (by kernel_rfl)) (by unfold Func.isWrapper; first | (rw [if_pos (by decide +kernel)]; kernel_rfl) | (rw [if_neg (by decide +kernel)]; exact ⟨rfl, rfl⟩))
    (fun os started H enc _ => lifted os started H enc)

theorem proved : Rows.BookSlotsSaid := over

end Go.Proofs.Ytnddejgglbdkmaa.bookSlots
