/- The walk of the reference's roots. -/
import Derived.Test.YtngmpcmeebcdmaaDoorNum5
namespace Go.Proofs.YtngmpcmeebcdmaaDoor
set_option linter.unusedVariables false
set_option linter.unusedSimpArgs false
open Go.ChangeShapes Go.WideShapes Go.ChangeAt Go.RowKit Go.Maps

/-- noughts in front. -/
theorem digs_shift (n : Nat) (h : ¬ n = 0) : digs (256 * n) = 0 :: digs n := by
  rw [digs_pos (by omega)]
  congr 1
  · omega
  · congr 1; omega
theorem dig_src {w : World} {b o n c : Nat} {ds : List Nat} (h : DigAt w (some ⟨b, o, none⟩) n c ds) : ∀ (j : Nat) u, (icells ds)[j]? = some u → w.cell? ((⟨b, o, none⟩ : Addr).add j) = some u := fun j u hu => by
  have hj := (List.getElem?_eq_some_iff.1 hu).1
  rw [icells_length, h.len] at hj
  obtain ⟨b', o', e, _, hc⟩ := h.at_ (by omega)
  injection e with e
  injection e with e1 e2 _
  subst e1 e2
  rw [Addr.add_mid, hc j hj]
  rw [icells_get ds j (by rw [h.len]; exact hj)] at hu
  exact hu
theorem halve {lo hi N k m : Nat} (hk : 0 < k) (h1 : lo ^ k ≤ N) (h2 : N < hi ^ k) (hm : m = (lo + hi) / 2) (hg : 1 < hi - lo) : lo < m ∧ m < hi := by omega
theorem root_top {p k : Nat} (hp : p < 512) (hk : k = 2 ∨ k = 3) : p * 256 ^ (4 * k) < 137438953472 ^ k := by
  rcases hk with rfl | rfl
  · have h : 512 * 256 ^ 8 ≤ 137438953472 ^ 2 := by decide
    have h2 : p * 256 ^ 8 < 512 * 256 ^ 8 := Nat.mul_lt_mul_of_pos_right hp (by decide)
    exact Nat.lt_of_lt_of_le h2 h
  · have h : 512 * 256 ^ 12 ≤ 137438953472 ^ 3 := by decide
    have h2 : p * 256 ^ 12 < 512 * 256 ^ 12 := Nat.mul_lt_mul_of_pos_right hp (by decide)
    exact Nat.lt_of_lt_of_le h2 h
theorem len_small (x k : Nat) (h : x < 256 ^ k) : (digs x).length ≤ k := (digs_len x k).2 h
theorem own_dig {w : World} {base : Nat} {v : Value} {ds : List Nat} (h : w.ownsRow base 3 1 v ds.length (icells ds)) : ∃ a c, v = .slice a ds.length c ∧ DigAt w a ds.length c ds := DigAt.of_own h rfl
theorem cmp_le {x y : Nat} : cmpN x y ≤ 0 ↔ x ≤ y := by
  unfold cmpN
  split
  · omega
  · split <;> omega
theorem u64_nat (n : Nat) (h : n < 18446744073709551616) : IntKind.u64.wrap (n : Int) = (n : Int) := by rw [IntKind.wrap_u64]; omega
theorem u64_natm (n : Nat) (h : n < 18446744073709551616) : (n : Int) % 18446744073709551616 = (n : Int) := by omega
theorem u32_nat (n : Nat) (h : n < 4294967296) : IntKind.u32.wrap (n : Int) = (n : Int) := by rw [IntKind.wrap_u32]; omega
theorem mid_facts {lo hi d s m : Nat} (hl : lo < hi) (hh : hi ≤ 137438953472) (hd : d = hi - lo) (hs : s = lo + hi) (hm : m = s / 2) :
    IntKind.u64.wrap ((hi : Int) - (lo : Int)) = (d : Int) ∧ ((hi : Int) - (lo : Int)) % 18446744073709551616 = (d : Int) ∧ IntKind.u64.wrap ((lo : Int) + (hi : Int)) = (s : Int) ∧ ((lo : Int) + (hi : Int)) % 18446744073709551616 = (s : Int) ∧ Int.tdiv (s : Int) 2 = (m : Int) ∧ (s : Int) / 2 = (m : Int) ∧ IntKind.u64.wrap (m : Int) = (m : Int) ∧ (m : Int) % 18446744073709551616 = (m : Int) := by
  refine ⟨by rw [IntKind.wrap_u64]; omega, by omega, by rw [IntKind.wrap_u64]; omega, by omega, by rw [Int.tdiv_eq_ediv_of_nonneg (Int.natCast_nonneg _)]; omega, by omega, by rw [IntKind.wrap_u64]; omega, by omega⟩
theorem rest_facts {lo r : Nat} (hr : r = lo % 4294967296) : Int.tmod (lo : Int) 4294967296 = (r : Int) ∧ (lo : Int) % 4294967296 = (r : Int) ∧ IntKind.u64.wrap (r : Int) = (r : Int) ∧ (r : Int) % 18446744073709551616 = (r : Int) ∧ IntKind.u32.wrap (r : Int) = (r : Int) ∧ (r : Int) % 4294967296 = (r : Int) := by
  refine ⟨by rw [Int.tmod_eq_emod_of_nonneg (Int.natCast_nonneg _)]; omega, by omega, by rw [IntKind.wrap_u64]; omega, by omega, by rw [IntKind.wrap_u32]; omega, by omega⟩
set_option maxRecDepth 100000 in
set_option maxHeartbeats 4000000 in
theorem root_is (w : World) (p k : Nat) (hp0 : 0 < p) (hp : p < 512) (hk : k = 2 ∨ k = 3) : Calls Tryd.prog 62 #[.int .i64 (p : Int), .int .i64 (k : Int)] w fun e w' => (∃ r, e = .returned (.int .u32 ((r % 4294967296 : Nat) : Int)) ∧ RootIs k (p * 256 ^ (4 * k)) r) ∧ Below w.heap.size w w' := by
  obtain ⟨ii, his, his0, his1, his2⟩ := info_parts info_int
  have hof := of_is w p (by omega)
  have HOF := Lib.hid hof
  have HP := Lib.hid (And.intro hp0 hp)
  have HK := Lib.hid hk
  have hcv : IntKind.u64.wrap (p : Int) = (p : Int) := by rw [IntKind.wrap_u64]; omega
  have hcv2 : (p : Int) % 18446744073709551616 = (p : Int) := by omega
  clear hof hp0 hp hk
  go_enter Tryd.func62, Tryd.ntmps62
  go_wp2_with fail
  refine HOF.out.mono ?_
  rintro _ w1 ⟨⟨v', rfl, hd⟩, hb1⟩
  obtain ⟨a1, c1, rfl, hdg⟩ := hd
  have HB1 := Lib.hid hb1
  have HDG := Lib.hid hdg
  clear hb1 hdg HOF hcv hcv2
  have hk4 : wrap64 (4 * (k : Int)) = ((4 * k : Nat) : Int) := by have := HK.out; unfold wrap64; omega
  obtain ⟨k4, hk4e⟩ : ∃ q, q = 4 * k := ⟨_, rfl⟩
  rw [← hk4e] at hk4
  have EK4 := Lib.hid hk4e
  have HW4 := Lib.hid hk4
  clear hk4e
  go_wp2_with fail
  go_loopw [5, 6] (fun mv iv wr => ∃ (i n c : Nat) (a : Option Addr), iv = .int .i64 (i : Int) ∧ i ≤ k4 ∧ mv = .slice a n c ∧ n = (digs (256 ^ i * p)).length ∧ DigAt wr a n c (digs (256 ^ i * p)) ∧ Below w.heap.size w wr) (fun _ iv _ => k4 - (intOf iv).toNat)
  case atStart => exact ⟨0, _, _, _, rfl, Nat.zero_le _, rfl, by simp, by simpa using HDG.out, HB1.out⟩
  case round =>
    clear HDG HB1
    obtain ⟨i, n, c, a, rfl, hi, rfl, hn, hdg, hbel⟩ := hrel
    have HDG := Lib.hid hdg
    have HB := Lib.hid hbel
    have HN := Lib.hid hn
    clear hdg hbel hn
    by_cases hlt : i < k4
    · have hne : ¬ 256 ^ i * p = 0 := fun h => by
        have h1 : 0 < 256 ^ i := Nat.pow_pos (by decide)
        have := Nat.mul_pos h1 HP.out.1
        omega
      obtain ⟨M, hM⟩ : ∃ M, M = 256 ^ i * p := ⟨_, rfl⟩
      have hM2 : 256 ^ (i + 1) * p = 256 * M := by rw [hM, Nat.pow_succ, Nat.mul_comm (256 ^ i) 256, Nat.mul_assoc]
      have hsh : digs (256 ^ (i + 1) * p) = 0 :: digs M := by rw [hM2]; exact digs_shift M (by rw [hM]; exact hne)
      have hdg := HDG.out
      have hnl := HN.out
      rw [← hM] at hdg hnl
      have hn0 : 0 < n := by
        rw [hnl]
        refine Nat.pos_of_ne_zero fun h => ?_
        have := (digs_len M 0).1 (by omega)
        rw [hM] at this
        have := hne
        omega
      have hn13 : n ≤ 14 := by
        rw [hnl]
        refine len_small M 14 ?_
        have h1 : 256 ^ i ≤ 256 ^ 12 := Nat.pow_le_pow_right (by decide) (by have := EK4.out; have := HK.out; omega)
        have h2 := Nat.mul_le_mul h1 (Nat.le_of_lt HP.out.2)
        have h3 : 256 ^ 12 * 512 < 256 ^ 14 := by decide
        omega
      obtain ⟨sb, so, hA, hsb, -⟩ := hdg.at_ hn0
      subst hA
      have hown : (wr.alloc (.cells #[.int .i64 0] 3)).ownsRow w.heap.size 3 1 (.slice (some ⟨wr.heap.size, 0, none⟩) 1 1) 1 [.int .i64 0] :=
        ⟨by decide, .inr ⟨wr.heap.size, 1, #[.int .i64 0], rfl, HB.out.size, heap_alloc_new wr _, Nat.le_refl _, by decide, rfl, rfl⟩⟩
      have hbel0 : Below wr.heap.size wr (wr.alloc (.cells #[.int .i64 0] 3)) := (Below.refl _ _).alloc (Nat.le_refl _) _
      have hsrc := dig_src (hdg.below hbel0)
      have HSRC := Lib.hid hsrc
      have HOWN := Lib.hid hown
      have HLEN := Lib.hid (show (icells (digs M)).length = n * 1 by rw [icells_length, ← hnl, Nat.mul_one])
      have HML := Lib.hid (show 1 + n ≤ maxLen by unfold maxLen; omega)
      have HBY := Lib.hid (show (1 + n) * 8 ≤ 140737488355328 by omega)
      have HBS := Lib.hid (show ∀ z, w.heap.size ≤ (wr.alloc (.cells z 3)).heap.size from fun z => by have := HB.out.size; simp; omega)
      have HSH := Lib.hid hsh
      have HNL := Lib.hid hnl
      have HK2 := Lib.hid (And.intro hlt (show k4 - (i + 1) < k4 - i from Nat.sub_lt_sub_left hlt (Nat.lt_succ_self i)))
      have HN0 := Lib.hid hn0
      have hib : i < 4611686018427387904 := by have := EK4.out; have := HK.out; omega
      have hw4 := wrap64_succ i hib
      have HQ := Lib.hid hw4
      clear hne hM2 hsh hdg hnl hn0 hn13 hsb hown hbel0 hsrc hM hib
      go_wp2_with (at_builtin; refine wpList_append_lies _ rfl (.tmp 21) (.tmp 22) 36 rfl w.heap.size 3 ii (.int .i64 0) 1 8 Tryd.underlying36 his his0 his1 his2 rfl (by decide) _ 1 _ rfl HOWN.out ⟨sb, so, none⟩ n c (icells (digs M)) rfl HLEN.out HSRC.out (icells_one _) HN0.out HML.out HBY.out (HBS.out _) _ rfl ?_; intro g6 cap6 w6 hown6 hgr6 hat6 hlt6)
      have HBE6 := Lib.hid ((HB.out.alloc HB.out.size _).grown hgr6 (HBS.out _) (own_blk HOWN.out))
      have HOWN6 := Lib.hid hown6
      clear hown6 hgr6 hat6 hlt6
      go_roundw
      case rel =>
        have hl : 1 + n = (0 :: digs M).length := by rw [List.length_cons, ← HNL.out]; omega
        have hd : ∃ a c, Value.slice (some ⟨g6, 0, none⟩) (1 + n) cap6 = .slice a (0 :: digs M).length c ∧ DigAt w6 a (0 :: digs M).length c (0 :: digs M) := by
          refine own_dig (base := w.heap.size) ?_
          rw [← hl]
          exact HOWN6.out
        obtain ⟨a9, c9, e9, hd9⟩ := hd
        exact ⟨i + 1, _, _, _, by first | rfl | exact congrArg (Value.int .i64) HQ.out, HK2.out.1, by first | exact e9 | rfl, by rw [HSH.out], by rw [HSH.out]; exact hd9, HBE6.out⟩
      case measure =>
        first | exact HK2.out.2 | (show k4 - (intOf (Value.int .i64 (wrap64 ((i : Int) + 1)))).toNat < _; rw [HQ.out]; exact HK2.out.2)
    · have hno : ¬ (i : Int) < (k4 : Int) := by omega
      obtain ⟨N, hN⟩ : ∃ N, N = p * 256 ^ (4 * k) := ⟨_, rfl⟩
      have hMN : 256 ^ i * p = N := by
        have e : i = 4 * k := by have := EK4.out; omega
        rw [hN, e, Nat.mul_comm]
      have hdg := HDG.out
      have hnl := HN.out
      rw [hMN] at hdg hnl
      have htop : N < 137438953472 ^ k := by rw [hN]; exact root_top HP.out.2 HK.out
      have hn14 : n ≤ 14 := by
        rw [hnl]
        refine len_small N 14 ?_
        have h1 : 256 ^ (4 * k) ≤ 256 ^ 12 := Nat.pow_le_pow_right (by decide) (by have := HK.out; omega)
        have h2 := Nat.mul_le_mul (Nat.le_of_lt HP.out.2) h1
        have h3 : 512 * 256 ^ 12 < 256 ^ 14 := by decide
        omega
      have hk0 : 0 < k := by have := HK.out; omega
      have HD := Lib.hid hdg
      have HTOP := Lib.hid (And.intro (show 0 ^ k ≤ N by rw [Nat.zero_pow hk0]; exact Nat.zero_le _) htop)
      have HN14 := Lib.hid hn14
      have ENN := Lib.hid hN
      have HW1 := Lib.hid HB.out
      clear hMN hdg hnl htop hn14 hN hlt HDG HN HB
      go_wp2_with fail
      go_loopw [7, 8] (fun lv hv wy => ∃ (lo hi : Nat), lv = .int .u64 (lo : Int) ∧ hv = .int .u64 (hi : Int) ∧ lo < hi ∧ hi ≤ 137438953472 ∧ lo ^ k ≤ N ∧ N < hi ^ k ∧ Below wr.heap.size wr wy) (fun lv hv _ => (intOf hv).toNat - (intOf lv).toNat)
      case atStart => exact ⟨0, 137438953472, rfl, rfl, by decide, Nat.le_refl _, HTOP.out.1, HTOP.out.2, Below.refl _ _⟩
      case round =>
        clear HTOP
        obtain ⟨lo, hi, rfl, rfl, hl, hh, h1, h2, hb⟩ := hrel
        have HHI := Lib.hid (And.intro hl (And.intro hh (And.intro h1 h2)))
        have HB := Lib.hid hb
        clear h1 h2 hb
        obtain ⟨d, hd⟩ : ∃ d, d = hi - lo := ⟨_, rfl⟩
        obtain ⟨s, hs⟩ : ∃ s, s = lo + hi := ⟨_, rfl⟩
        obtain ⟨m, hm⟩ : ∃ m, m = s / 2 := ⟨_, rfl⟩
        by_cases hgo : 1 < d
        · have hgo' : (1 : Int) < (d : Int) := by omega
          have HMID := Lib.hid (show lo < m ∧ m < hi by omega)
          have HMI := Lib.hid (show m ≤ 137438953472 by omega)
          have HMS := Lib.hid (show hi - m < hi - lo ∧ m - lo < hi - lo by omega)
          have hm64 : m < 18446744073709551616 := by omega
          have hm6 : (digs m).length ≤ 6 := len_small m 6 (by have : 256 ^ 6 = 281474976710656 := by decide
                                                              omega)
          have hof := of_is wr m hm64
          have HOF := Lib.hid hof
          have HM6 := Lib.hid (show (digs m).length ≤ 1000 by omega)
          have hm5 : m < 256 ^ 5 := by
            have : 256 ^ 5 = 1099511627776 := by decide
            omega
          have hmm : m * m < 256 ^ 10 := by
            have h := Nat.mul_lt_mul'' hm5 hm5
            rwa [← Nat.pow_add] at h
          have hmm3 : m * m * m < 256 ^ 15 := by
            have h := Nat.mul_lt_mul'' hmm hm5
            rwa [← Nat.pow_add] at h
          have HMM := Lib.hid (show (digs (m * m)).length ≤ 1000 by have := len_small (m * m) 10 hmm; omega)
          have HM3 := Lib.hid (show (digs (m * m * m)).length ≤ 1000000 by have := len_small (m * m * m) 15 hmm3; omega)
          obtain ⟨g1, g2, g3, g4, g5, g6, g7, g8⟩ := mid_facts hl hh hd hs hm
          clear hl hh hd hs hm hgo hm64 hm6 hof hm5 hmm hmm3
          obtain ⟨P, hP⟩ : ∃ P, P = m ^ k := ⟨_, rfl⟩
          by_cases hk3 : k = 3
          · have hk3' : ((k : Int) == 3) = true := beq_iff_eq.2 (by omega)
            have HPW := Lib.hid (show m * m * m = P by rw [hP, hk3, Nat.pow_succ, Nat.pow_two])
            have HPL := Lib.hid (show (digs P).length ≤ 1000000 by rw [← HPW.out]; exact HM3.out)
            clear hk3
            by_cases hle : P ≤ N
            · have HLE := Lib.hid hle
              have HLE2 := Lib.hid (show m ^ k ≤ N by rw [← hP]; exact hle)
              clear hle hP
              go_wp2_with fail
              refine HOF.out.mono ?_
              rintro _ w2 ⟨⟨v2, rfl, hd2⟩, hb2⟩
              obtain ⟨a2, c2, rfl, hx2⟩ := hd2
              have hmul := mul_is w2 a2 (digs m).length c2 m a2 (digs m).length c2 m hx2 hx2 HM6.out HM6.out
              have HMUL := Lib.hid hmul
              have HX2 := Lib.hid hx2
              have HB2 := Lib.hid (HB.out.trans (hb2.mono HB.out.size))
              clear hb2 hx2 hmul HOF
              go_wp2_with fail
              refine HMUL.out.mono ?_
              rintro _ w3 ⟨⟨v3, rfl, hd3⟩, hb3⟩
              obtain ⟨a3, c3, rfl, hx3⟩ := hd3
              have hmul3 := mul_is w3 a3 (digs (m * m)).length c3 (m * m) a2 (digs m).length c2 m hx3 (HX2.out.below hb3) HMM.out HM6.out
              have HMUL3 := Lib.hid hmul3
              have HB3 := Lib.hid (HB2.out.trans (hb3.mono HB2.out.size))
              clear hb3 hx3 hmul3 HMUL HX2
              go_wp2_with fail
              refine HMUL3.out.mono ?_
              rintro _ w4 ⟨⟨v4, rfl, hd4⟩, hb4⟩
              obtain ⟨a4, c4, rfl, hx4⟩ := hd4
              rw [HPW.out] at hx4 ⊢
              have HB4 := Lib.hid (HB3.out.trans (hb4.mono HB3.out.size))
              have hcmp := cmp_is w4 a4 (digs P).length c4 P a n c N hx4 (HD.out.below HB4.out) HPL.out (by have := HN14.out; omega)
              clear hb4 hx4 HMUL3
              obtain ⟨z, hz⟩ : ∃ z, z = cmpN P N := ⟨_, rfl⟩
              rw [← hz] at hcmp
              have HCMP := Lib.hid hcmp
              have hzl : z ≤ 0 := by rw [hz, cmp_le]; exact HLE.out
              clear hcmp hz
              go_wp2_with fail
              refine HCMP.out.mono ?_
              rintro _ w5 ⟨rfl, hb5⟩
              have HB5 := Lib.hid (HB4.out.trans (hb5.mono HB4.out.size))
              clear hb5 HCMP
              go_wp2
              go_roundw
              case rel => exact ⟨m, hi, rfl, rfl, HMID.out.2, HHI.out.2.1, HLE2.out, HHI.out.2.2.2, HB5.out⟩
              case measure => exact HMS.out.1
            · have HLE := Lib.hid hle
              have HLE2 := Lib.hid (show N < m ^ k by rw [← hP]; omega)
              clear hle hP
              go_wp2_with fail
              refine HOF.out.mono ?_
              rintro _ w2 ⟨⟨v2, rfl, hd2⟩, hb2⟩
              obtain ⟨a2, c2, rfl, hx2⟩ := hd2
              have hmul := mul_is w2 a2 (digs m).length c2 m a2 (digs m).length c2 m hx2 hx2 HM6.out HM6.out
              have HMUL := Lib.hid hmul
              have HX2 := Lib.hid hx2
              have HB2 := Lib.hid (HB.out.trans (hb2.mono HB.out.size))
              clear hb2 hx2 hmul HOF
              go_wp2_with fail
              refine HMUL.out.mono ?_
              rintro _ w3 ⟨⟨v3, rfl, hd3⟩, hb3⟩
              obtain ⟨a3, c3, rfl, hx3⟩ := hd3
              have hmul3 := mul_is w3 a3 (digs (m * m)).length c3 (m * m) a2 (digs m).length c2 m hx3 (HX2.out.below hb3) HMM.out HM6.out
              have HMUL3 := Lib.hid hmul3
              have HB3 := Lib.hid (HB2.out.trans (hb3.mono HB2.out.size))
              clear hb3 hx3 hmul3 HMUL HX2
              go_wp2_with fail
              refine HMUL3.out.mono ?_
              rintro _ w4 ⟨⟨v4, rfl, hd4⟩, hb4⟩
              obtain ⟨a4, c4, rfl, hx4⟩ := hd4
              rw [HPW.out] at hx4 ⊢
              have HB4 := Lib.hid (HB3.out.trans (hb4.mono HB3.out.size))
              have hcmp := cmp_is w4 a4 (digs P).length c4 P a n c N hx4 (HD.out.below HB4.out) HPL.out (by have := HN14.out; omega)
              clear hb4 hx4 HMUL3
              obtain ⟨z, hz⟩ : ∃ z, z = cmpN P N := ⟨_, rfl⟩
              rw [← hz] at hcmp
              have HCMP := Lib.hid hcmp
              have hzl : ¬ z ≤ 0 := by rw [hz, cmp_le]; exact HLE.out
              clear hcmp hz
              go_wp2_with fail
              refine HCMP.out.mono ?_
              rintro _ w5 ⟨rfl, hb5⟩
              have HB5 := Lib.hid (HB4.out.trans (hb5.mono HB4.out.size))
              clear hb5 HCMP
              go_wp2
              go_roundw
              case rel => exact ⟨lo, m, rfl, rfl, HMID.out.1, HMI.out, HHI.out.2.2.1, HLE2.out, HB5.out⟩
              case measure => exact HMS.out.2
          · have hk3' : ¬ (k : Int) = 3 := by omega
            have HPW := Lib.hid (show m * m = P by
              have : k = 2 := by have := HK.out; omega
              rw [hP, this, Nat.pow_two])
            have HPL := Lib.hid (show (digs P).length ≤ 1000000 by rw [← HPW.out]; have := HMM.out; omega)
            clear hk3
            by_cases hle : P ≤ N
            · have HLE := Lib.hid hle
              have HLE2 := Lib.hid (show m ^ k ≤ N by rw [← hP]; exact hle)
              clear hle hP
              go_wp2_with fail
              refine HOF.out.mono ?_
              rintro _ w2 ⟨⟨v2, rfl, hd2⟩, hb2⟩
              obtain ⟨a2, c2, rfl, hx2⟩ := hd2
              have hmul := mul_is w2 a2 (digs m).length c2 m a2 (digs m).length c2 m hx2 hx2 HM6.out HM6.out
              have HMUL := Lib.hid hmul
              have HX2 := Lib.hid hx2
              have HB2 := Lib.hid (HB.out.trans (hb2.mono HB.out.size))
              clear hb2 hx2 hmul HOF
              go_wp2_with fail
              refine HMUL.out.mono ?_
              rintro _ w3 ⟨⟨v3, rfl, hd3⟩, hb3⟩
              obtain ⟨a3, c3, rfl, hx3⟩ := hd3
              rw [HPW.out] at hx3 ⊢
              have HB4 := Lib.hid (HB2.out.trans (hb3.mono HB2.out.size))
              have hcmp := cmp_is w3 a3 (digs P).length c3 P a n c N hx3 (HD.out.below HB4.out) HPL.out (by have := HN14.out; omega)
              clear hb3 hx3 HMUL HX2
              obtain ⟨z, hz⟩ : ∃ z, z = cmpN P N := ⟨_, rfl⟩
              rw [← hz] at hcmp
              have HCMP := Lib.hid hcmp
              have hzl : z ≤ 0 := by rw [hz, cmp_le]; exact HLE.out
              clear hcmp hz
              go_wp2_with fail
              refine HCMP.out.mono ?_
              rintro _ w5 ⟨rfl, hb5⟩
              have HB5 := Lib.hid (HB4.out.trans (hb5.mono HB4.out.size))
              clear hb5 HCMP
              go_wp2
              go_roundw
              case rel => exact ⟨m, hi, rfl, rfl, HMID.out.2, HHI.out.2.1, HLE2.out, HHI.out.2.2.2, HB5.out⟩
              case measure => exact HMS.out.1
            · have HLE := Lib.hid hle
              have HLE2 := Lib.hid (show N < m ^ k by rw [← hP]; omega)
              clear hle hP
              go_wp2_with fail
              refine HOF.out.mono ?_
              rintro _ w2 ⟨⟨v2, rfl, hd2⟩, hb2⟩
              obtain ⟨a2, c2, rfl, hx2⟩ := hd2
              have hmul := mul_is w2 a2 (digs m).length c2 m a2 (digs m).length c2 m hx2 hx2 HM6.out HM6.out
              have HMUL := Lib.hid hmul
              have HX2 := Lib.hid hx2
              have HB2 := Lib.hid (HB.out.trans (hb2.mono HB.out.size))
              clear hb2 hx2 hmul HOF
              go_wp2_with fail
              refine HMUL.out.mono ?_
              rintro _ w3 ⟨⟨v3, rfl, hd3⟩, hb3⟩
              obtain ⟨a3, c3, rfl, hx3⟩ := hd3
              rw [HPW.out] at hx3 ⊢
              have HB4 := Lib.hid (HB2.out.trans (hb3.mono HB2.out.size))
              have hcmp := cmp_is w3 a3 (digs P).length c3 P a n c N hx3 (HD.out.below HB4.out) HPL.out (by have := HN14.out; omega)
              clear hb3 hx3 HMUL HX2
              obtain ⟨z, hz⟩ : ∃ z, z = cmpN P N := ⟨_, rfl⟩
              rw [← hz] at hcmp
              have HCMP := Lib.hid hcmp
              have hzl : ¬ z ≤ 0 := by rw [hz, cmp_le]; exact HLE.out
              clear hcmp hz
              go_wp2_with fail
              refine HCMP.out.mono ?_
              rintro _ w5 ⟨rfl, hb5⟩
              have HB5 := Lib.hid (HB4.out.trans (hb5.mono HB4.out.size))
              clear hb5 HCMP
              go_wp2
              go_roundw
              case rel => exact ⟨lo, m, rfl, rfl, HMID.out.1, HMI.out, HHI.out.2.2.1, HLE2.out, HB5.out⟩
              case measure => exact HMS.out.2
        · have hgo' : ¬ (1 : Int) < (d : Int) := by omega
          have HR := Lib.hid (show RootIs k N lo from ⟨HHI.out.2.2.1, by
            have e : lo + 1 = hi := by omega
            rw [e]; exact HHI.out.2.2.2⟩)
          obtain ⟨g1, g2, -, -, -, -, -, -⟩ := mid_facts hl hh hd hs hm
          obtain ⟨r, hr⟩ : ∃ r, r = lo % 4294967296 := ⟨_, rfl⟩
          obtain ⟨q1, q2, q3, q4, q5, q6⟩ := rest_facts hr
          have ER := Lib.hid hr
          clear hl hh hd hs hm hgo hr
          go_wp2
          go_ret
          exact ⟨⟨lo, by show Ending.returned (Value.int .u32 (r : Int)) = _; rw [ER.out]; congr 2, by rw [← ENN.out]; exact HR.out⟩, HW1.out.trans (HB.out.mono HW1.out.size)⟩
end Go.Proofs.YtngmpcmeebcdmaaDoor
