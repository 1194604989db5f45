/- DiskOrder: of what wasn't sure there is a beginning, in the order in which it was written: for every n and keep the law returns true. No condition. -/
import Derived.Test.YtcpomddkehhkkaaDiskHead
namespace Go.Proofs.Ytcpomddkehhkkaa.diskOrder
open Go.ChangeShapes Go.WideShapes Go.ChangeAt Go.RowKit
set_option linter.unusedVariables false

theorem and31 (n : Int) : bits BinOp.and .i64 n 31 = n % 32 := by
  unfold bits
  have e : (BitVec.ofInt IntKind.i64.bits n &&& BitVec.ofInt IntKind.i64.bits 31).toNat = (n % 32).toNat := by
    show (BitVec.ofInt 64 n &&& BitVec.ofInt 64 31).toNat = _
    rw [BitVec.toNat_and, BitVec.toNat_ofInt, BitVec.toNat_ofInt]
    have h31 : ((31 : Int) % ((2 ^ 64 : Nat) : Int)).toNat = 2 ^ 5 - 1 := by decide
    rw [h31, Nat.and_two_pow_sub_one_eq_mod]
    omega
  simp only [e]
  rw [IntKind.wrap_i64]
  omega

/-- 32 sectors of noughts -/
def blank : List (List Nat) := List.replicate 32 (sector 0)
theorem blank_length : blank.length = 32 := by simp [blank]
theorem blank_get (j : Nat) (h : j < 32) : blank.getD j [] = sector 0 := by unfold blank; rw [List.getD_eq_getElem?_getD, List.getElem?_replicate, if_pos h]; rfl
/-- the first m writes -/
def firsts (m : Nat) : List (Nat × List Nat) := (List.range m).map fun i => (i, sector (i + 1))
theorem firsts_succ (m : Nat) : firsts (m + 1) = firsts m ++ [(m, sector (m + 1))] := by simp [firsts, List.range_succ]
theorem firsts_length (m : Nat) : (firsts m).length = m := by simp [firsts]
theorem firsts_get (m k : Nat) (h : k < m) : (firsts m).getD k (0, []) = (k, sector (k + 1)) := by simp [firsts, h]

theorem set_same (l : List (List Nat)) (i : Nat) : l.set i (l.getD i []) = l := by
  apply List.ext_getElem?
  intro j
  rw [List.getElem?_set]
  by_cases h : i = j
  · subst h
    by_cases h2 : i < l.length
    · simp [h2]
    · simp [h2]
  · rw [if_neg h]

theorem order_secs (kn N m j : Nat) (hm : m ≤ N) (hN : N ≤ 32) (hj : j < 32) :
    (settleTo kn 0 (firsts N) m blank).getD j [] = if j < m ∧ j < kn then sector (j + 1) else sector 0 := by
  induction m with
  | zero => rw [if_neg (by omega)]; exact blank_get j hj
  | succ m ih =>
    have ih := ih (by omega)
    simp only [settleTo, settle1]
    rw [firsts_get N m (by omega)]
    have hl : (settleTo kn 0 (firsts N) m blank).length = 32 := by rw [settleTo_length, blank_length]
    generalize settleTo kn 0 (firsts N) m blank = cs at ih hl
    by_cases h1 : m < kn
    · rw [if_pos h1]
      by_cases h2 : m = j
      · subst h2
        rw [if_pos ⟨by omega, h1⟩]
        simp [hl, hj]
      · have e : (cs.set m (sector (m + 1))).getD j [] = cs.getD j [] := by simp [List.getElem?_set, h2]
        rw [e, ih]
        by_cases h3 : j < m
        · by_cases h4 : j < kn
          · rw [if_pos ⟨h3, h4⟩, if_pos ⟨by omega, h4⟩]
          · rw [if_neg (by omega), if_neg (by omega)]
        · rw [if_neg (by omega), if_neg (by omega)]
    · rw [if_neg h1]
      have e : (if m = kn then cs.set m (List.take 0 (sector (m + 1)) ++ List.drop 0 (cs.getD m [])) else cs) = cs := by
        split
        · simp only [List.take_zero, List.nil_append, List.drop_zero]
          exact set_same cs m
        · rfl
      rw [e, ih]
      by_cases h3 : j < m ∧ j < kn
      · rw [if_pos h3, if_pos ⟨by omega, h3.2⟩]
      · rw [if_neg h3, if_neg (by omega)]

set_option maxHeartbeats 1000000 in
theorem walk (n keep : Int) (w : World) (hn : (Lit.int .i64 n).wf = true) (hk : (Lit.int .i64 keep).wf = true) :
    Calls Try.prog 4 #[.int .i64 n, .int .i64 keep] w fun e w' => e = .returned (.bool true) ∧ Below w.heap.size w w' := by
  have hb := bounds_i64 hn
  have hbk := bounds_i64 hk
  clear hn hk
  have ha := and31 n
  obtain ⟨N, hN⟩ : ∃ N : Nat, n % 32 = N := ⟨(n % 32).toNat, by omega⟩
  have hN32 : N < 32 := by omega
  rw [hN] at ha
  clear hN
  go_enter Try.func4, Try.ntmps4
  go_wp2_with fail
  refine (head_is _).mono ?_
  rintro e w0 ⟨rfl, hb0⟩
  have HB0 := Lib.hid hb0
  clear hb0
  go_wp2_with fail
  refine (new_is _ 32 (by decide) (by decide)).mono ?_
  rintro e w1 ⟨rfl, hd1, hb1⟩
  have HD1 := Lib.hid hd1
  have HB1 := Lib.hid (HB0.out.trans (hb1.mono HB0.out.size))
  have HG1 := Lib.hid (HB0.out.size)
  have HW1 := Lib.hid hb1.size
  clear hd1 hb1
  go_wp2_with fail

  go_loopw [6] (fun i wr => ∃ k : Nat, k ≤ N ∧ i = .int .i64 k ∧ DiskIs wr w0.heap.size w0.heap.size blank (firsts k) 0 false ∧ Below w.heap.size w wr ∧ w0.heap.size ≤ wr.heap.size) (fun i _ => N - (intOf i).toNat)
  case atStart => exact ⟨0, by omega, rfl, HD1.out, HB1.out, HW1.out⟩
  case round =>
    obtain ⟨k, hk, rfl, hd, hb2, hs2⟩ := hrel
    have HD := Lib.hid hd
    have HB := Lib.hid hb2
    have HS := Lib.hid hs2
    clear hd hb2 hs2
    by_cases hlt : k < N
    · have e1 := firsts_succ k
      have HF := Lib.hid (firsts_length k)
      have HE := Lib.hid e1
      clear e1
      go_wp2_with fail
      refine (full_is _ _ (by omega)).mono ?_
      rintro e w2 ⟨g2, c2, rfl, ho2, hb2⟩
      have HD2 := Lib.hid (HD.out.below hb2)
      have HB2 := Lib.hid (HB.out.trans (hb2.mono HB.out.size))
      have HS2 := Lib.hid (Nat.le_trans HS.out hb2.size)
      have HO2 := Lib.hid ho2
      clear ho2 hb2
      go_wp2_with fail
      refine (write_int w2 w0.heap.size w0.heap.size _ _ 0 k g2 c2 _ _ HD2.out (by decide) (by rw [HF.out]; omega) (by omega) (by rw [blank_length]; omega) (by decide) HS2.out HO2.out (sector_length _)).mono ?_
      rintro e w3 ⟨rfl, hd3, hb3⟩
      have HD3 : Hid (DiskIs w3 w0.heap.size w0.heap.size blank (firsts (k + 1)) 0 false) := Lib.hid (by rw [HE.out]; exact hd3)
      have HB3 := Lib.hid (HB2.out.trans (hb3.mono HG1.out))
      have HS3 := Lib.hid (Nat.le_trans HS2.out hb3.size)
      clear hd3 hb3
      go_wp2
      go_roundw
      case rel => exact ⟨k + 1, by omega, by go_num, HD3.out, HB3.out, HS3.out⟩
      case measure => simp [intOf]; omega
    · obtain rfl : k = N := by omega
      go_wp2_with fail
      obtain ⟨kn, hkn⟩ : ∃ kn : Nat, (keep ≤ 0 ∧ kn = 0) ∨ (0 < keep ∧ keep = kn) := ⟨keep.toNat, by omega⟩
      have HKN := Lib.hid hkn
      have HF := Lib.hid (firsts_length k)
      clear hkn
      refine (crash_is wr w0.heap.size w0.heap.size _ _ 0 false keep 0 kn 0 HKN.out rfl HD.out (by rw [HF.out]; omega) (by rw [blank_length]; decide) (by rw [blank_length]; decide) HS.out (by omega) (by decide)).mono ?_
      rintro e w2 ⟨rfl, hd2, hb2⟩
      have HD2 := Lib.hid (HF.out ▸ hd2)
      have HB2 := Lib.hid (HB.out.trans (hb2.mono HG1.out))
      have HS2 := Lib.hid (Nat.le_trans HS.out hb2.size)
      clear hd2 hb2
      go_wp2_with fail

      go_loopw [7] (fun i wr => ∃ m : Nat, m ≤ k ∧ i = .int .i64 m ∧ DiskIs wr w0.heap.size w0.heap.size (settleTo kn 0 (firsts k) k blank) [] 0 false ∧ Below w.heap.size w wr ∧ w0.heap.size ≤ wr.heap.size) (fun i _ => k - (intOf i).toNat)
      case atStart => exact ⟨0, by omega, rfl, HD2.out, HB2.out, HS2.out⟩
      case round =>
        obtain ⟨m, hm, rfl, hd, hb2, hs2⟩ := hrel
        have HD := Lib.hid hd
        have HB := Lib.hid hb2
        have HS := Lib.hid hs2
        have HL := Lib.hid (show (settleTo kn 0 (firsts k) k blank).length = 32 by rw [settleTo_length, blank_length])
        clear hd hb2 hs2
        by_cases hlt : m < k
        · have hsec := order_secs kn k k m (Nat.le_refl _) (by omega) (by omega)
          have hkn2 : (m : Int) < keep ↔ m < kn := by have := HKN.out; omega
          go_wp2_with fail
          refine (read_int wr w0.heap.size w0.heap.size _ 0 m HD.out (by omega) (by rw [HL.out]; omega)).mono ?_
          rintro e w3 ⟨g3, c3, rfl, ⟨ho3, _⟩, hb3⟩
          have HD3 := Lib.hid (HD.out.below hb3)
          have HB3 := Lib.hid (HB.out.trans (hb3.mono HB.out.size))
          have HS3 := Lib.hid (Nat.le_trans HS.out hb3.size)
          have HO3 := Lib.hid ho3
          clear ho3 hb3
          by_cases hmk : (m : Int) < keep
          · have HE : Hid ((settleTo kn 0 (firsts k) k blank).getD (m : Int).toNat [] = sector (m + 1)) := Lib.hid (by rw [Int.toNat_natCast, hsec, if_pos ⟨hlt, hkn2.1 hmk⟩])
            clear hsec hkn2
            go_wp2_with fail
            refine (full_is _ _ (by omega)).mono ?_
            rintro e w4 ⟨g4, c4, rfl, ho4, hb4⟩
            have HD4 := Lib.hid (HD3.out.below hb4)
            have HB4 := Lib.hid (HB3.out.trans (hb4.mono HB3.out.size))
            have HS4 := Lib.hid (Nat.le_trans HS3.out hb4.size)
            have HO4 := Lib.hid ho4
            have HO3b := Lib.hid (own_kept HO3.out (Kept.of_below (S := fun _ => False) hb4) (fun _ _ h => h))
            clear ho4 hb4
            go_wp2_with fail
            refine (same_is w4 _ _ g3 g4 c3 c4 64 (sector (m + 1)) (HE.out ▸ HO3b.out) (by have := HO4.out; exact this)).mono ?_
            rintro e w5 ⟨rfl, rfl⟩
            go_wp2
            go_roundw
            case rel => exact ⟨m + 1, by omega, by go_num, HD4.out, HB4.out, HS4.out⟩
            case measure => simp [intOf]; omega
          · have HE : Hid ((settleTo kn 0 (firsts k) k blank).getD (m : Int).toNat [] = sector 0) := Lib.hid (by rw [Int.toNat_natCast, hsec, if_neg (fun h => hmk (hkn2.2 h.2))])
            clear hsec hkn2
            go_wp2_with fail
            refine (full_is _ _ (by omega)).mono ?_
            rintro e w4 ⟨g4, c4, rfl, ho4, hb4⟩
            have HD4 := Lib.hid (HD3.out.below hb4)
            have HB4 := Lib.hid (HB3.out.trans (hb4.mono HB3.out.size))
            have HS4 := Lib.hid (Nat.le_trans HS3.out hb4.size)
            have HO4 := Lib.hid ho4
            have HO3b := Lib.hid (own_kept HO3.out (Kept.of_below (S := fun _ => False) hb4) (fun _ _ h => h))
            clear ho4 hb4
            go_wp2_with fail
            refine (same_is w4 _ _ g3 g4 c3 c4 64 (sector 0) (HE.out ▸ HO3b.out) (by have := HO4.out; exact this)).mono ?_
            rintro e w5 ⟨rfl, rfl⟩
            go_wp2
            go_roundw
            case rel => exact ⟨m + 1, by omega, by go_num, HD4.out, HB4.out, HS4.out⟩
            case measure => simp [intOf]; omega
        · obtain rfl : m = k := by omega
          go_wp2
          go_ret
          exact ⟨rfl, HB.out⟩

theorem own : ownKnob Try.prog.godebug = none := by kernel_rfl
theorem laidOut : laidOutB Try.prog = true := by kernel_rfl

set_option maxRecDepth 100000 in
theorem lifted (os : Os) (started : os.Started) (H : Type) (enc : TypeId × Value → H) :
    ReturnsInHanded {} Try.checked os 4 .any (Rows.diskOrderSpec.pre6 enc Try.prog Try.f4 Rows.diskOrderRow.domain false) (Rows.diskOrderSpec.post enc Try.prog Try.f4 false true false false) := by
  refine returnsInHanded_of_change (C := Try.checked) own started (by kernel_rfl) Try.func4
    (ChangeSpec.witness6 (enc := enc) (C := Try.checked) false ⟨#[], #[.int .i64 0, .int .i64 0], []⟩ 8 (by kernel_rfl) (by kernel_rfl) (by kernel_rfl) (by kernel_rfl)) ?_
  intro W base args ds gs before hval0 hW hcnd _
  have hval : ∀ (j : Nat) t v, Try.f4.params[j]? = some t → args[j]? = some v → Value.okWide Try.prog W .any base t v := hval0
  have hW' := hW
  obtain ⟨p, q, hA0, hV, rfl, hfz, hnd⟩ := hW
  have hA : DataW.TrodAll enc Try.prog W 0 (fun _ => true) true Try.f4.params.toList args.toList ds p := hA0
  rw [Try.params4] at hA hval
  obtain ⟨v0, vs0, d0, ds0, p0, q0, hargs, rfl, rfl, h0, r0⟩ := trodAll_cons hA
  obtain ⟨v1, vs1, d1, ds1, p1, q1, rfl, rfl, rfl, h1, r1⟩ := trodAll_cons r0
  obtain ⟨rfl, rfl, rfl⟩ := trodAll_nil r1
  obtain rfl : args = #[v0, v1] := by cases args; simp_all
  obtain ⟨rfl, rfl⟩ := trodVars_none hV
  have k0 := h0
  have lt0 : ∀ x ∈ p0, x.block < W.heap.size := by obtain ⟨m, hm⟩ := k0; exact DataW.trod_lt m _ _ _ hm
  obtain ⟨a0, rfl, rfl, rfl, w0⟩ := open_int Try.underlying3 (hval 0 3 v0 rfl rfl) h0
  have k1 := h1
  have lt1 : ∀ x ∈ p1, x.block < W.heap.size := by obtain ⟨m, hm⟩ := k1; exact DataW.trod_lt m _ _ _ hm
  obtain ⟨a1, rfl, rfl, rfl, w1⟩ := open_int Try.underlying3 (hval 1 3 v1 rfl rfl) h1
  clear hA0 hval0
  refine (walk a0 a1 W w0 w1).mono fun e W' ⟨he, bel⟩ => ?_
  subst he
  exact ⟨_, rfl, _, _, _, [], _, [], hW', trodAll_mk1 (shut_bool Try.underlying4 _), (trodAll_cons_mk (Below.trod laidOut (by kernel_rfl) (of_decide_eq_true (by kernel_rfl)) k0 bel lt0) (trodAll_cons_mk (Below.trod laidOut (by kernel_rfl) (of_decide_eq_true (by kernel_rfl)) k1 bel lt1) trodAll_mk0)), rfl, bel.frame _, fun h => by cases h⟩

theorem over : Rows.diskOrderRow.holds Try.pinned (OpenSpec.ofChange Rows.diskOrderSpec) :=
  OpenClaim.holds_of_wide 4 Try.f4 rfl rfl rfl rfl rfl rfl rfl ⟨rfl, rfl, rfl, rfl, rfl⟩ rfl rfl rfl rfl rfl (by kernel_rfl) Try.func4 (by kernel_rfl)
    (of_decide_eq_true (by kernel_rfl)) (by unfold Func.isWrapper; first | (rw [if_pos (by decide +kernel)]; kernel_rfl) | (rw [if_neg (by decide +kernel)]; exact ⟨rfl, rfl⟩))
    (fun os started H enc _ => lifted os started H enc)

theorem proved : Rows.DiskOrderSaid := over

end Go.Proofs.Ytcpomddkehhkkaa.diskOrder
