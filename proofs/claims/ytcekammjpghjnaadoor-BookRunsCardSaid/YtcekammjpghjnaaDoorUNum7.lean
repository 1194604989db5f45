/- The walk of the reference's primes. -/
import Derived.Test.YtcekammjpghjnaaDoorWs
import Derived.Test.YtcekammjpghjnaaDoorUNum4
import Derived.Test.YtcekammjpghjnaaDoorURef1
import Derived.Test.YtcekammjpghjnaaDoorUSha7
import Derived.Deep.WholeRow
namespace Go.Proofs.YtcekammjpghjnaaDoor
set_option linter.unusedVariables false
set_option linter.unusedSimpArgs false
open Go.ChangeShapes Go.WideShapes Go.ChangeAt Go.RowKit Go.Maps

theorem at_int (b o n c k : Nat) (hk : k < n) (w : World) : (Instr.indexAt 72 (.slice (some ⟨b, o, none⟩) n c) (.int .i64 (k : Int))).run Tryd.prog w = .ok (.pointer (some ⟨b, o + k, none⟩)) w := by
 have hu : Tryd.prog.underlying 72 = some (.slice (Tryd.prog.elem 72)) := by kernel_rfl
 have he : Tryd.prog.elem 72 = 3 := by kernel_rfl
 rw [run_indexAt_slice w 72 ⟨b, o, none⟩ n c .i64 (k : Int) hu, if_pos ⟨by omega, by omega⟩, he, size_int]
 simp only [Result.andThen, Int.toNat_natCast, Nat.mul_one, Addr.add_mid]
theorem own_cell {w : World} {base : Nat} {v : Value} {ds : List Nat} (h : w.ownsRow base 3 1 v ds.length (icells ds)) (j : Nat) (hj : j < ds.length) : ∃ g cap, v = .slice (some ⟨g, 0, none⟩) ds.length cap ∧ base ≤ g ∧ w.cell? ⟨g, j, none⟩ = some (.int .i64 (ds.getD j 0 : Nat)) := by
 obtain ⟨g, cap, cur, rfl, hB, hh, h1, h2, h3, h4⟩ := own_open h (by omega)
 refine ⟨g, cap, rfl, hB, hh.cell_is ?_⟩
 rw [h4 j (by omega)]
 exact icells_get ds j hj
set_option maxRecDepth 100000 in
set_option maxHeartbeats 4000000 in
theorem primes_is (w : World) : Calls Tryd.prog 23 #[.int .i64 64] w fun e w' => (∃ v', e = .returned v' ∧ IsD w' v' primes64) ∧ Below w.heap.size w w' := by
 obtain ⟨ii, his, his0, his1, his2⟩ := info_parts info_int
 obtain ⟨n64, hn64⟩ : ∃ n : Int, n = 64 := ⟨64, rfl⟩
 rw [← hn64]
 have EN := Lib.hid hn64
 have hmade : (w.alloc (.cells #[] 3)).ownsRow w.heap.size 3 1 (.slice (some ⟨w.heap.size, 0, none⟩) 0 0) 0 (icells []) := World.ownsRow_made w #[] 0 (Nat.le_refl _) (by decide) rfl
 have HMADE := Lib.hid hmade
 clear hmade hn64
 go_enter Tryd.func23, Tryd.ntmps23
 go_wp2_with fail
 go_loopw [3, 4] (fun ov xv wr => ∃ (X : Nat), xv = .int .i64 (X : Int) ∧ 2 ≤ X ∧ X ≤ 312 ∧ (∃ oa on oc, ov = .slice oa on oc) ∧ wr.ownsRow w.heap.size 3 1 ov (primesTo X).length (icells (primesTo X)) ∧ Below w.heap.size w wr) (fun _ xv _ => 1000 - (intOf xv).toNat)
 case atStart => exact ⟨2, rfl, Nat.le_refl _, by omega, ⟨_, _, _, rfl⟩, HMADE.out, (Below.refl _ _).alloc (Nat.le_refl _) _⟩
 case round =>
  obtain ⟨X, rfl, hx2, hx3, ⟨oa, on, oc, rfl⟩, hown, hbel⟩ := hrel
  clear HMADE
  have hon : on = (primesTo X).length := by
    rcases hown.2 with ⟨e, h0⟩ | ⟨g, cap, cur, e, _⟩
    · injection e with e1 e2 e3; omega
    · injection e with e1 e2 e3
  have HON := Lib.hid hon
  have HOWN := Lib.hid hown
  have HBEL := Lib.hid hbel
  have HX := Lib.hid (And.intro hx2 hx3)
  clear hown hbel hon
  by_cases hgo : on < 64
  · have hgo' : (on : Int) < n64 := by have := EN.out; omega
    have hX311 : X ≤ 311 := by
      refine Nat.le_of_not_lt fun hc => ?_
      have e : X = 312 := by omega
      have := HON.out
      rw [e, primes_full] at this
      have e2 : primes64.length = 64 := by decide
      omega
    have H311 := Lib.hid hX311
    have HG64 := Lib.hid hgo
    clear hX311 hgo hx2 hx3
    go_wp2_with fail
    go_loopw [5, 17] (fun okv jv wy => ∃ (j : Nat), jv = .int .i64 (j : Int) ∧ j ≤ on ∧ okv = .bool (((primesTo X).take j).all (fun p => decide (¬ X % p = 0))) ∧ wy = wr) (fun _ jv _ => on - (intOf jv).toNat)
    case atStart => exact ⟨0, rfl, Nat.zero_le _, rfl, rfl⟩
    case round =>
      obtain ⟨j, rfl, hj, rfl, rfl⟩ := hrel
      by_cases hjl : j < on
      · obtain ⟨g, cap, e, hB, hc⟩ := own_cell HOWN.out j (by rw [← HON.out]; exact hjl)
        have hon := HON.out
        obtain ⟨p, hp⟩ : ∃ p, p = (primesTo X).getD j 0 := ⟨_, rfl⟩
        rw [← hp] at hc
        injection e with e1 e2 e3
        subst e1
        have hat : ∀ w, (Instr.indexAt 72 (.slice (some ⟨g, 0, none⟩) on oc) (.int .i64 (j : Int))).run Tryd.prog w = .ok (.pointer (some ⟨g, j, none⟩)) w := fun w => by
          have := at_int g 0 on oc j hjl w
          rwa [Nat.zero_add] at this
        have hjp : (primesTo X)[j]? = some p := by
          rw [hp, List.getD_eq_getElem?_getD, List.getElem?_eq_getElem (by omega)]; rfl
        have hpp := primes_pos X p (List.mem_of_getElem? hjp)
        obtain ⟨okb, hokb⟩ : ∃ b, b = ((primesTo X).take j).all (fun p => decide (¬ X % p = 0)) := ⟨_, rfl⟩
        have hstep : ((primesTo X).take (j + 1)).all (fun p => decide (¬ X % p = 0)) = (okb && decide (¬ X % p = 0)) := by
          rw [List.take_add_one, hjp, List.all_append, ← hokb]; simp
        rw [← hokb]
        have HST := Lib.hid hstep
        have HK2 := Lib.hid (And.intro hjl (show on - (j + 1) < on - j from Nat.sub_lt_sub_left hjl (Nat.lt_succ_self j)))
        obtain ⟨r, hr⟩ : ∃ r, r = X % p := ⟨_, rfl⟩
        have hrb : r < 4611686018427387904 := by have := Nat.mod_lt X hpp.1; have := HX.out; omega
        have hp0 : ¬ (p : Int) = 0 := by omega
        have hpn : (p == 0) = false := by simp; omega
        have hjb : j < 4611686018427387904 := by have := HG64.out; omega
        have ER := Lib.hid hr
        have hm1 : (X : Int) % (p : Int) = (r : Int) := by rw [hr, Int.natCast_emod]
        have hm3 : Int.tmod (X : Int) (p : Int) = (r : Int) := by rw [Int.tmod_eq_emod_of_nonneg (Int.natCast_nonneg _)]; exact hm1
        have hz : r = 0 ∨ ¬ r = 0 := by omega
        have hrz : ¬ r = 0 → ¬ (r : Int) = 0 := by omega
        have hw3 := wrap64_nat r hrb
        have hw4 := wrap64_succ j hjb
        have HQ := Lib.hid hw4
        clear hon hp hjp hpp hokb hstep hr hrb hjb hB e2 e3
        rcases hz with h0 | h0
        · have HE := Lib.hid (show ((primesTo X).take (j + 1)).all (fun p => decide (¬ X % p = 0)) = false by rw [HST.out, ← ER.out, h0]; simp)
          subst h0
          go_wp2
          go_roundw
          case rel => exact ⟨j + 1, by first | rfl | exact congrArg (Value.int .i64) HQ.out, HK2.out.1, by rw [HE.out], by first | rfl | trivial⟩
          case measure =>
           first | exact HK2.out.2 | (show on - (intOf (Value.int .i64 (wrap64 ((j : Int) + 1)))).toNat < _; rw [HQ.out]; exact HK2.out.2)
        · have HE := Lib.hid (show ((primesTo X).take (j + 1)).all (fun p => decide (¬ X % p = 0)) = okb by rw [HST.out, ← ER.out, decide_eq_true h0, Bool.and_true])
          have h0' := hrz h0
          clear h0 hrz
          go_wp2
          go_roundw
          case rel => exact ⟨j + 1, by first | rfl | exact congrArg (Value.int .i64) HQ.out, HK2.out.1, by rw [HE.out], by first | rfl | trivial⟩
          case measure =>
           first | exact HK2.out.2 | (show on - (intOf (Value.int .i64 (wrap64 ((j : Int) + 1)))).toNat < _; rw [HQ.out]; exact HK2.out.2)
      · have hjn : ¬ (j : Int) < (on : Int) := by omega
        have ej : (primesTo X).take j = primesTo X := List.take_of_length_le (by have := HON.out; omega)
        rw [ej]
        obtain ⟨okb, hokb⟩ : ∃ b, b = (primesTo X).all (fun p => decide (¬ X % p = 0)) := ⟨_, rfl⟩
        rw [← hokb]
        have hps : primesTo (X + 1) = if okb = true then primesTo X ++ [X] else primesTo X := by
          rw [primes_step X HX.out.1, hokb]; rfl
        have HPS := Lib.hid hps
        have hxb : X < 4611686018427387904 := by have := HX.out; omega
        have HXX := Lib.hid (show 2 ≤ X + 1 ∧ X + 1 ≤ 312 ∧ 1000 - (X + 1) < 1000 - X by have := H311.out; have := HX.out; omega)
        have HML := Lib.hid (show (primesTo X).length + 1 ≤ maxLen by unfold maxLen; have := HON.out; have := EN.out; omega)
        have HBY := Lib.hid (show ((primesTo X).length + 1) * 8 ≤ 140737488355328 by have := HON.out; have := EN.out; omega)
        have HBS := Lib.hid (show ∀ z, w.heap.size ≤ (wr.alloc (.cells z 3)).heap.size from fun z => by have := HBEL.out.size; simp; omega)
        have hw4 := wrap64_succ X hxb
        have HQ := Lib.hid hw4
        clear hokb hps hxb ej hjl
        cases okb with
        | false =>
          have HE := Lib.hid (show primesTo (X + 1) = primesTo X by rw [HPS.out]; rfl)
          go_wp2
          go_roundw
          case rel => exact ⟨X + 1, by first | rfl | exact congrArg (Value.int .i64) HQ.out, HXX.out.1, HXX.out.2.1, ⟨_, _, _, rfl⟩, by rw [HE.out]; exact HOWN.out, HBEL.out⟩
          case measure =>
           first | exact HXX.out.2.2 | (show 1000 - (intOf (Value.int .i64 (wrap64 ((X : Int) + 1)))).toNat < _; rw [HQ.out]; exact HXX.out.2.2)
        | true =>
          have HE := Lib.hid (show primesTo (X + 1) = primesTo X ++ [X] by rw [HPS.out]; rfl)
          go_wp2_with (at_builtin; refine wpList_append_lies _ rfl (.tmp 27) (.tmp 29) 72 rfl w.heap.size 3 ii (.int .i64 0) 1 8 Tryd.underlying72 his his0 his1 his2 rfl (by decide) _ (primesTo X).length _ rfl (HOWN.out.alloc _) ⟨wr.heap.size, 0, none⟩ 1 1 [.int .i64 (X : Int)] rfl rfl (World.news_of_block (cs := #[.int .i64 (X : Int)]) (heap_alloc_new wr _)) (by intro v hv; rw [List.mem_singleton] at hv; rw [hv]; rfl) (by decide) HML.out HBY.out (HBS.out _) _ rfl ?_; intro g6 cap6 w6 hown6 hgr6 hat6 hlt6)
          have HBE6 := Lib.hid ((HBEL.out.alloc HBEL.out.size _).grown hgr6 (HBS.out _) (own_blk HOWN.out))
          have HOWN6 := Lib.hid hown6
          clear hown6 hgr6 hat6 hlt6
          go_roundw
          case rel =>
           have e : icells (primesTo X ++ [X]) = icells (primesTo X) ++ [.int .i64 (X : Int)] := by simp [icells]
           exact ⟨X + 1, by first | rfl | exact congrArg (Value.int .i64) HQ.out, HXX.out.1, HXX.out.2.1, ⟨_, _, _, rfl⟩, by rw [HE.out, e, List.length_append]; exact HOWN6.out, HBE6.out⟩
          case measure =>
           first | exact HXX.out.2.2 | (show 1000 - (intOf (Value.int .i64 (wrap64 ((X : Int) + 1)))).toNat < _; rw [HQ.out]; exact HXX.out.2.2)
  · have hno : ¬ (on : Int) < n64 := by have := EN.out; omega
    have hX : primesTo X = primes64 := by
      have h1 := HON.out
      rcases Nat.lt_or_ge X 312 with h | h
      · have := primes_few X HX.out.1 (by omega); omega
      · have e : X = 312 := by have := HX.out; omega
        rw [e, primes_full]
    have hd : IsD wr (.slice oa on oc) primes64 := by
      have h := HOWN.out
      rw [hX] at h
      exact DigAt.of_own h rfl
    have HDD := Lib.hid hd
    clear hX hd hgo
    go_wp2
    go_ret
    exact ⟨⟨_, rfl, HDD.out⟩, HBEL.out⟩
end Go.Proofs.YtcekammjpghjnaaDoor

/- The walk of the reference's roots. -/
namespace Go.Proofs.YtcekammjpghjnaaDoor
set_option linter.unusedVariables false
set_option linter.unusedSimpArgs false
open Go.ChangeShapes Go.WideShapes Go.ChangeAt Go.RowKit Go.Maps

theorem digs_shift (n : Nat) (h : ¬ n = 0) : digs (256 * n) = 0 :: digs n := by
 rw [digs_pos (by omega)]
 congr 1
 · omega
 · congr 1; omega
theorem dig_src {w : World} {b o n c : Nat} {ds : List Nat} (h : DigAt w (some ⟨b, o, none⟩) n c ds) : ∀ (j : Nat) u, (icells ds)[j]? = some u → w.cell? ((⟨b, o, none⟩ : Addr).add j) = some u := fun j u hu => by
 have hj := (List.getElem?_eq_some_iff.1 hu).1
 rw [icells_length, h.len] at hj
 obtain ⟨b', o', e, _, hc⟩ := h.at_ (by omega)
 injection e with e
 injection e with e1 e2 _
 subst e1 e2
 rw [Addr.add_mid, hc j hj]
 rw [icells_get ds j (by rw [h.len]; exact hj)] at hu
 exact hu
theorem root_top {p k : Nat} (hp : p < 512) (hk : k = 2 ∨ k = 3) : p * 256 ^ (4 * k) < 137438953472 ^ k := by
 rcases hk with rfl | rfl
 · have h : 512 * 256 ^ 8 ≤ 137438953472 ^ 2 := by decide
   have h2 : p * 256 ^ 8 < 512 * 256 ^ 8 := Nat.mul_lt_mul_of_pos_right hp (by decide)
   exact Nat.lt_of_lt_of_le h2 h
 · have h : 512 * 256 ^ 12 ≤ 137438953472 ^ 3 := by decide
   have h2 : p * 256 ^ 12 < 512 * 256 ^ 12 := Nat.mul_lt_mul_of_pos_right hp (by decide)
   exact Nat.lt_of_lt_of_le h2 h
theorem len_small (x k : Nat) (h : x < 256 ^ k) : (digs x).length ≤ k := (digs_len x k).2 h
theorem own_dig {w : World} {base : Nat} {v : Value} {ds : List Nat} (h : w.ownsRow base 3 1 v ds.length (icells ds)) : ∃ a c, v = .slice a ds.length c ∧ DigAt w a ds.length c ds := DigAt.of_own h rfl
theorem cmp_le {x y : Nat} : cmpN x y ≤ 0 ↔ x ≤ y := by
 unfold cmpN
 split
 · omega
 · split <;> omega
theorem mid_facts {lo hi d s m : Nat} (hl : lo < hi) (hh : hi ≤ 137438953472) (hd : d = hi - lo) (hs : s = lo + hi) (hm : m = s / 2) :
  IntKind.u64.wrap ((hi : Int) - (lo : Int)) = (d : Int) ∧ ((hi : Int) - (lo : Int)) % 18446744073709551616 = (d : Int) ∧ IntKind.u64.wrap ((lo : Int) + (hi : Int)) = (s : Int) ∧ ((lo : Int) + (hi : Int)) % 18446744073709551616 = (s : Int) ∧ Int.tdiv (s : Int) 2 = (m : Int) ∧ (s : Int) / 2 = (m : Int) ∧ IntKind.u64.wrap (m : Int) = (m : Int) ∧ (m : Int) % 18446744073709551616 = (m : Int) := by
 refine ⟨by rw [IntKind.wrap_u64]; omega, by omega, by rw [IntKind.wrap_u64]; omega, by omega, by rw [Int.tdiv_eq_ediv_of_nonneg (Int.natCast_nonneg _)]; omega, by omega, by rw [IntKind.wrap_u64]; omega, by omega⟩
theorem rest_facts {lo r : Nat} (hr : r = lo % 4294967296) : Int.tmod (lo : Int) 4294967296 = (r : Int) ∧ (lo : Int) % 4294967296 = (r : Int) ∧ IntKind.u64.wrap (r : Int) = (r : Int) ∧ (r : Int) % 18446744073709551616 = (r : Int) ∧ IntKind.u32.wrap (r : Int) = (r : Int) ∧ (r : Int) % 4294967296 = (r : Int) := by
 refine ⟨by rw [Int.tmod_eq_emod_of_nonneg (Int.natCast_nonneg _)]; omega, by omega, by rw [IntKind.wrap_u64]; omega, by omega, by rw [IntKind.wrap_u32]; omega, by omega⟩
set_option maxRecDepth 100000 in
set_option maxHeartbeats 4000000 in
theorem root_is (w : World) (p k : Nat) (hp0 : 0 < p) (hp : p < 512) (hk : k = 2 ∨ k = 3) : Calls Tryd.prog 24 #[.int .i64 (p : Int), .int .i64 (k : Int)] w fun e w' => (∃ r, e = .returned (.int .u32 ((r % 4294967296 : Nat) : Int)) ∧ RootIs k (p * 256 ^ (4 * k)) r) ∧ Below w.heap.size w w' := by
 obtain ⟨ii, his, his0, his1, his2⟩ := info_parts info_int
 have hof := of_is w p (by omega)
 have HOF := Lib.hid hof
 have HP := Lib.hid (And.intro hp0 hp)
 have HK := Lib.hid hk
 have hcv : IntKind.u64.wrap (p : Int) = (p : Int) := by rw [IntKind.wrap_u64]; omega
 have hcv2 : (p : Int) % 18446744073709551616 = (p : Int) := by omega
 clear hof hp0 hp hk
 go_enter Tryd.func24, Tryd.ntmps24
 go_wp2_with fail
 refine HOF.out.mono ?_
 rintro _ w1 ⟨⟨v', rfl, hd⟩, hb1⟩
 obtain ⟨a1, c1, rfl, hdg⟩ := hd
 have HB1 := Lib.hid hb1
 have HDG := Lib.hid hdg
 clear hb1 hdg HOF hcv hcv2
 have hk4 : wrap64 (4 * (k : Int)) = ((4 * k : Nat) : Int) := by have := HK.out; unfold wrap64; omega
 obtain ⟨k4, hk4e⟩ : ∃ q, q = 4 * k := ⟨_, rfl⟩
 rw [← hk4e] at hk4
 have EK4 := Lib.hid hk4e
 have HW4 := Lib.hid hk4
 clear hk4e
 go_wp2_with fail
 go_loopw [5, 6] (fun mv iv wr => ∃ (i n c : Nat) (a : Option Addr), iv = .int .i64 (i : Int) ∧ i ≤ k4 ∧ mv = .slice a n c ∧ n = (digs (256 ^ i * p)).length ∧ DigAt wr a n c (digs (256 ^ i * p)) ∧ Below w.heap.size w wr) (fun _ iv _ => k4 - (intOf iv).toNat)
 case atStart => exact ⟨0, _, _, _, rfl, Nat.zero_le _, rfl, by simp, by simpa using HDG.out, HB1.out⟩
 case round =>
  clear HDG HB1
  obtain ⟨i, n, c, a, rfl, hi, rfl, hn, hdg, hbel⟩ := hrel
  have HDG := Lib.hid hdg
  have HB := Lib.hid hbel
  have HN := Lib.hid hn
  clear hdg hbel hn
  by_cases hlt : i < k4
  · have hne : ¬ 256 ^ i * p = 0 := fun h => by
     have h1 : 0 < 256 ^ i := Nat.pow_pos (by decide)
     have := Nat.mul_pos h1 HP.out.1
     omega
    obtain ⟨M, hM⟩ : ∃ M, M = 256 ^ i * p := ⟨_, rfl⟩
    have hM2 : 256 ^ (i + 1) * p = 256 * M := by rw [hM, Nat.pow_succ, Nat.mul_comm (256 ^ i) 256, Nat.mul_assoc]
    have hsh : digs (256 ^ (i + 1) * p) = 0 :: digs M := by rw [hM2]; exact digs_shift M (by rw [hM]; exact hne)
    have hdg := HDG.out
    have hnl := HN.out
    rw [← hM] at hdg hnl
    have hn0 : 0 < n := by
     rw [hnl]
     refine Nat.pos_of_ne_zero fun h => ?_
     have := (digs_len M 0).1 (by omega)
     rw [hM] at this
     have := hne
     omega
    have hn13 : n ≤ 14 := by
     rw [hnl]
     refine len_small M 14 ?_
     have h1 : 256 ^ i ≤ 256 ^ 12 := Nat.pow_le_pow_right (by decide) (by have := EK4.out; have := HK.out; omega)
     have h2 := Nat.mul_le_mul h1 (Nat.le_of_lt HP.out.2)
     have h3 : 256 ^ 12 * 512 < 256 ^ 14 := by decide
     omega
    obtain ⟨sb, so, hA, hsb, -⟩ := hdg.at_ hn0
    subst hA
    have hown : (wr.alloc (.cells #[.int .i64 0] 3)).ownsRow w.heap.size 3 1 (.slice (some ⟨wr.heap.size, 0, none⟩) 1 1) 1 [.int .i64 0] :=
     ⟨by decide, .inr ⟨wr.heap.size, 1, #[.int .i64 0], rfl, HB.out.size, heap_alloc_new wr _, Nat.le_refl _, by decide, rfl, rfl⟩⟩
    have hbel0 : Below wr.heap.size wr (wr.alloc (.cells #[.int .i64 0] 3)) := (Below.refl _ _).alloc (Nat.le_refl _) _
    have hsrc := dig_src (hdg.below hbel0)
    have HSRC := Lib.hid hsrc
    have HOWN := Lib.hid hown
    have HLEN := Lib.hid (show (icells (digs M)).length = n * 1 by rw [icells_length, ← hnl, Nat.mul_one])
    have HML := Lib.hid (show 1 + n ≤ maxLen by unfold maxLen; omega)
    have HBY := Lib.hid (show (1 + n) * 8 ≤ 140737488355328 by omega)
    have HBS := Lib.hid (show ∀ z, w.heap.size ≤ (wr.alloc (.cells z 3)).heap.size from fun z => by have := HB.out.size; simp; omega)
    have HSH := Lib.hid hsh
    have HNL := Lib.hid hnl
    have HK2 := Lib.hid (And.intro hlt (show k4 - (i + 1) < k4 - i from Nat.sub_lt_sub_left hlt (Nat.lt_succ_self i)))
    have HN0 := Lib.hid hn0
    have hib : i < 4611686018427387904 := by have := EK4.out; have := HK.out; omega
    have hw4 := wrap64_succ i hib
    have HQ := Lib.hid hw4
    clear hne hM2 hsh hdg hnl hn0 hn13 hsb hown hbel0 hsrc hM hib
    go_wp2_with (at_builtin; refine wpList_append_lies _ rfl (.tmp 21) (.tmp 22) 101 rfl w.heap.size 3 ii (.int .i64 0) 1 8 Tryd.underlying101 his his0 his1 his2 rfl (by decide) _ 1 _ rfl HOWN.out ⟨sb, so, none⟩ n c (icells (digs M)) rfl HLEN.out HSRC.out (icells_one _) HN0.out HML.out HBY.out (HBS.out _) _ rfl ?_; intro g6 cap6 w6 hown6 hgr6 hat6 hlt6)
    have HBE6 := Lib.hid ((HB.out.alloc HB.out.size _).grown hgr6 (HBS.out _) (own_blk HOWN.out))
    have HOWN6 := Lib.hid hown6
    clear hown6 hgr6 hat6 hlt6
    go_roundw
    case rel =>
     have hl : 1 + n = (0 :: digs M).length := by rw [List.length_cons, ← HNL.out]; omega
     have hd : ∃ a c, Value.slice (some ⟨g6, 0, none⟩) (1 + n) cap6 = .slice a (0 :: digs M).length c ∧ DigAt w6 a (0 :: digs M).length c (0 :: digs M) := by
       refine own_dig (base := w.heap.size) ?_
       rw [← hl]
       exact HOWN6.out
     obtain ⟨a9, c9, e9, hd9⟩ := hd
     exact ⟨i + 1, _, _, _, by first | rfl | exact congrArg (Value.int .i64) HQ.out, HK2.out.1, by first | exact e9 | rfl, by rw [HSH.out], by rw [HSH.out]; exact hd9, HBE6.out⟩
    case measure =>
     first | exact HK2.out.2 | (show k4 - (intOf (Value.int .i64 (wrap64 ((i : Int) + 1)))).toNat < _; rw [HQ.out]; exact HK2.out.2)
  · have hno : ¬ (i : Int) < (k4 : Int) := by omega
    obtain ⟨N, hN⟩ : ∃ N, N = p * 256 ^ (4 * k) := ⟨_, rfl⟩
    have hMN : 256 ^ i * p = N := by
     have e : i = 4 * k := by have := EK4.out; omega
     rw [hN, e, Nat.mul_comm]
    have hdg := HDG.out
    have hnl := HN.out
    rw [hMN] at hdg hnl
    have htop : N < 137438953472 ^ k := by rw [hN]; exact root_top HP.out.2 HK.out
    have hn14 : n ≤ 14 := by
     rw [hnl]
     refine len_small N 14 ?_
     have h1 : 256 ^ (4 * k) ≤ 256 ^ 12 := Nat.pow_le_pow_right (by decide) (by have := HK.out; omega)
     have h2 := Nat.mul_le_mul (Nat.le_of_lt HP.out.2) h1
     have h3 : 512 * 256 ^ 12 < 256 ^ 14 := by decide
     omega
    have hk0 : 0 < k := by have := HK.out; omega
    have HD := Lib.hid hdg
    have HTOP := Lib.hid (And.intro (show 0 ^ k ≤ N by rw [Nat.zero_pow hk0]; exact Nat.zero_le _) htop)
    have HN14 := Lib.hid hn14
    have ENN := Lib.hid hN
    have HW1 := Lib.hid HB.out
    clear hMN hdg hnl htop hn14 hN hlt HDG HN HB
    go_wp2_with fail
    go_loopw [7, 8] (fun lv hv wy => ∃ (lo hi : Nat), lv = .int .u64 (lo : Int) ∧ hv = .int .u64 (hi : Int) ∧ lo < hi ∧ hi ≤ 137438953472 ∧ lo ^ k ≤ N ∧ N < hi ^ k ∧ Below wr.heap.size wr wy) (fun lv hv _ => (intOf hv).toNat - (intOf lv).toNat)
    case atStart => exact ⟨0, 137438953472, rfl, rfl, by decide, Nat.le_refl _, HTOP.out.1, HTOP.out.2, Below.refl _ _⟩
    case round =>
     clear HTOP
     obtain ⟨lo, hi, rfl, rfl, hl, hh, h1, h2, hb⟩ := hrel
     have HHI := Lib.hid (And.intro hl (And.intro hh (And.intro h1 h2)))
     have HB := Lib.hid hb
     clear h1 h2 hb
     obtain ⟨d, hd⟩ : ∃ d, d = hi - lo := ⟨_, rfl⟩
     obtain ⟨s, hs⟩ : ∃ s, s = lo + hi := ⟨_, rfl⟩
     obtain ⟨m, hm⟩ : ∃ m, m = s / 2 := ⟨_, rfl⟩
     by_cases hgo : 1 < d
     · have hgo' : (1 : Int) < (d : Int) := by omega
       have HMID := Lib.hid (show lo < m ∧ m < hi by omega)
       have HMI := Lib.hid (show m ≤ 137438953472 by omega)
       have HMS := Lib.hid (show hi - m < hi - lo ∧ m - lo < hi - lo by omega)
       have hm64 : m < 18446744073709551616 := by omega
       have hm6 : (digs m).length ≤ 6 := len_small m 6 (by
            have : 256 ^ 6 = 281474976710656 := by decide
            omega)
       have hof := of_is wr m hm64
       have HOF := Lib.hid hof
       have HM6 := Lib.hid (show (digs m).length ≤ 1000 by omega)
       have hm5 : m < 256 ^ 5 := by
         have : 256 ^ 5 = 1099511627776 := by decide
         omega
       have hmm : m * m < 256 ^ 10 := by
         have h := Nat.mul_lt_mul'' hm5 hm5
         rwa [← Nat.pow_add] at h
       have hmm3 : m * m * m < 256 ^ 15 := by
         have h := Nat.mul_lt_mul'' hmm hm5
         rwa [← Nat.pow_add] at h
       have HMM := Lib.hid (show (digs (m * m)).length ≤ 1000 by have := len_small (m * m) 10 hmm; omega)
       have HM3 := Lib.hid (show (digs (m * m * m)).length ≤ 1000000 by have := len_small (m * m * m) 15 hmm3; omega)
       obtain ⟨g1, g2, g3, g4, g5, g6, g7, g8⟩ := mid_facts hl hh hd hs hm
       clear hl hh hd hs hm hgo hm64 hm6 hof hm5 hmm hmm3
       obtain ⟨P, hP⟩ : ∃ P, P = m ^ k := ⟨_, rfl⟩
       by_cases hk3 : k = 3
       · have hk3' : ((k : Int) == 3) = true := beq_iff_eq.2 (by omega)
         have HPW := Lib.hid (show m * m * m = P by rw [hP, hk3, Nat.pow_succ, Nat.pow_two])
         have HPL := Lib.hid (show (digs P).length ≤ 1000000 by rw [← HPW.out]; exact HM3.out)
         clear hk3
         by_cases hle : P ≤ N
         · have HLE := Lib.hid hle
           have HLE2 := Lib.hid (show m ^ k ≤ N by rw [← hP]; exact hle)
           clear hle hP
           go_wp2_with fail
           refine HOF.out.mono ?_
           rintro _ w2 ⟨⟨v2, rfl, hd2⟩, hb2⟩
           obtain ⟨a2, c2, rfl, hx2⟩ := hd2
           have hmul := mul_is w2 a2 (digs m).length c2 m a2 (digs m).length c2 m hx2 hx2 HM6.out HM6.out
           have HMUL := Lib.hid hmul
           have HX2 := Lib.hid hx2
           have HB2 := Lib.hid (HB.out.trans (hb2.mono HB.out.size))
           clear hb2 hx2 hmul HOF
           go_wp2_with fail
           refine HMUL.out.mono ?_
           rintro _ w3 ⟨⟨v3, rfl, hd3⟩, hb3⟩
           obtain ⟨a3, c3, rfl, hx3⟩ := hd3
           have hmul3 := mul_is w3 a3 (digs (m * m)).length c3 (m * m) a2 (digs m).length c2 m hx3 (HX2.out.below hb3) HMM.out HM6.out
           have HMUL3 := Lib.hid hmul3
           have HB3 := Lib.hid (HB2.out.trans (hb3.mono HB2.out.size))
           clear hb3 hx3 hmul3 HMUL HX2
           go_wp2_with fail
           refine HMUL3.out.mono ?_
           rintro _ w4 ⟨⟨v4, rfl, hd4⟩, hb4⟩
           obtain ⟨a4, c4, rfl, hx4⟩ := hd4
           rw [HPW.out] at hx4 ⊢
           have HB4 := Lib.hid (HB3.out.trans (hb4.mono HB3.out.size))
           have hcmp := cmp_is w4 a4 (digs P).length c4 P a n c N hx4 (HD.out.below HB4.out) HPL.out (by have := HN14.out; omega)
           clear hb4 hx4 HMUL3
           obtain ⟨z, hz⟩ : ∃ z, z = cmpN P N := ⟨_, rfl⟩
           rw [← hz] at hcmp
           have HCMP := Lib.hid hcmp
           have hzl : z ≤ 0 := by rw [hz, cmp_le]; exact HLE.out
           clear hcmp hz
           go_wp2_with fail
           refine HCMP.out.mono ?_
           rintro _ w5 ⟨rfl, hb5⟩
           have HB5 := Lib.hid (HB4.out.trans (hb5.mono HB4.out.size))
           clear hb5 HCMP
           go_wp2
           go_roundw
           case rel => exact ⟨m, hi, rfl, rfl, HMID.out.2, HHI.out.2.1, HLE2.out, HHI.out.2.2.2, HB5.out⟩
           case measure => exact HMS.out.1
         · have HLE := Lib.hid hle
           have HLE2 := Lib.hid (show N < m ^ k by rw [← hP]; omega)
           clear hle hP
           go_wp2_with fail
           refine HOF.out.mono ?_
           rintro _ w2 ⟨⟨v2, rfl, hd2⟩, hb2⟩
           obtain ⟨a2, c2, rfl, hx2⟩ := hd2
           have hmul := mul_is w2 a2 (digs m).length c2 m a2 (digs m).length c2 m hx2 hx2 HM6.out HM6.out
           have HMUL := Lib.hid hmul
           have HX2 := Lib.hid hx2
           have HB2 := Lib.hid (HB.out.trans (hb2.mono HB.out.size))
           clear hb2 hx2 hmul HOF
           go_wp2_with fail
           refine HMUL.out.mono ?_
           rintro _ w3 ⟨⟨v3, rfl, hd3⟩, hb3⟩
           obtain ⟨a3, c3, rfl, hx3⟩ := hd3
           have hmul3 := mul_is w3 a3 (digs (m * m)).length c3 (m * m) a2 (digs m).length c2 m hx3 (HX2.out.below hb3) HMM.out HM6.out
           have HMUL3 := Lib.hid hmul3
           have HB3 := Lib.hid (HB2.out.trans (hb3.mono HB2.out.size))
           clear hb3 hx3 hmul3 HMUL HX2
           go_wp2_with fail
           refine HMUL3.out.mono ?_
           rintro _ w4 ⟨⟨v4, rfl, hd4⟩, hb4⟩
           obtain ⟨a4, c4, rfl, hx4⟩ := hd4
           rw [HPW.out] at hx4 ⊢
           have HB4 := Lib.hid (HB3.out.trans (hb4.mono HB3.out.size))
           have hcmp := cmp_is w4 a4 (digs P).length c4 P a n c N hx4 (HD.out.below HB4.out) HPL.out (by have := HN14.out; omega)
           clear hb4 hx4 HMUL3
           obtain ⟨z, hz⟩ : ∃ z, z = cmpN P N := ⟨_, rfl⟩
           rw [← hz] at hcmp
           have HCMP := Lib.hid hcmp
           have hzl : ¬ z ≤ 0 := by rw [hz, cmp_le]; exact HLE.out
           clear hcmp hz
           go_wp2_with fail
           refine HCMP.out.mono ?_
           rintro _ w5 ⟨rfl, hb5⟩
           have HB5 := Lib.hid (HB4.out.trans (hb5.mono HB4.out.size))
           clear hb5 HCMP
           go_wp2
           go_roundw
           case rel => exact ⟨lo, m, rfl, rfl, HMID.out.1, HMI.out, HHI.out.2.2.1, HLE2.out, HB5.out⟩
           case measure => exact HMS.out.2
       · have hk3' : ¬ (k : Int) = 3 := by omega
         have HPW := Lib.hid (show m * m = P by
           have : k = 2 := by have := HK.out; omega
           rw [hP, this, Nat.pow_two])
         have HPL := Lib.hid (show (digs P).length ≤ 1000000 by rw [← HPW.out]; have := HMM.out; omega)
         clear hk3
         by_cases hle : P ≤ N
         · have HLE := Lib.hid hle
           have HLE2 := Lib.hid (show m ^ k ≤ N by rw [← hP]; exact hle)
           clear hle hP
           go_wp2_with fail
           refine HOF.out.mono ?_
           rintro _ w2 ⟨⟨v2, rfl, hd2⟩, hb2⟩
           obtain ⟨a2, c2, rfl, hx2⟩ := hd2
           have hmul := mul_is w2 a2 (digs m).length c2 m a2 (digs m).length c2 m hx2 hx2 HM6.out HM6.out
           have HMUL := Lib.hid hmul
           have HX2 := Lib.hid hx2
           have HB2 := Lib.hid (HB.out.trans (hb2.mono HB.out.size))
           clear hb2 hx2 hmul HOF
           go_wp2_with fail
           refine HMUL.out.mono ?_
           rintro _ w3 ⟨⟨v3, rfl, hd3⟩, hb3⟩
           obtain ⟨a3, c3, rfl, hx3⟩ := hd3
           rw [HPW.out] at hx3 ⊢
           have HB4 := Lib.hid (HB2.out.trans (hb3.mono HB2.out.size))
           have hcmp := cmp_is w3 a3 (digs P).length c3 P a n c N hx3 (HD.out.below HB4.out) HPL.out (by have := HN14.out; omega)
           clear hb3 hx3 HMUL HX2
           obtain ⟨z, hz⟩ : ∃ z, z = cmpN P N := ⟨_, rfl⟩
           rw [← hz] at hcmp
           have HCMP := Lib.hid hcmp
           have hzl : z ≤ 0 := by rw [hz, cmp_le]; exact HLE.out
           clear hcmp hz
           go_wp2_with fail
           refine HCMP.out.mono ?_
           rintro _ w5 ⟨rfl, hb5⟩
           have HB5 := Lib.hid (HB4.out.trans (hb5.mono HB4.out.size))
           clear hb5 HCMP
           go_wp2
           go_roundw
           case rel => exact ⟨m, hi, rfl, rfl, HMID.out.2, HHI.out.2.1, HLE2.out, HHI.out.2.2.2, HB5.out⟩
           case measure => exact HMS.out.1
         · have HLE := Lib.hid hle
           have HLE2 := Lib.hid (show N < m ^ k by rw [← hP]; omega)
           clear hle hP
           go_wp2_with fail
           refine HOF.out.mono ?_
           rintro _ w2 ⟨⟨v2, rfl, hd2⟩, hb2⟩
           obtain ⟨a2, c2, rfl, hx2⟩ := hd2
           have hmul := mul_is w2 a2 (digs m).length c2 m a2 (digs m).length c2 m hx2 hx2 HM6.out HM6.out
           have HMUL := Lib.hid hmul
           have HX2 := Lib.hid hx2
           have HB2 := Lib.hid (HB.out.trans (hb2.mono HB.out.size))
           clear hb2 hx2 hmul HOF
           go_wp2_with fail
           refine HMUL.out.mono ?_
           rintro _ w3 ⟨⟨v3, rfl, hd3⟩, hb3⟩
           obtain ⟨a3, c3, rfl, hx3⟩ := hd3
           rw [HPW.out] at hx3 ⊢
           have HB4 := Lib.hid (HB2.out.trans (hb3.mono HB2.out.size))
           have hcmp := cmp_is w3 a3 (digs P).length c3 P a n c N hx3 (HD.out.below HB4.out) HPL.out (by have := HN14.out; omega)
           clear hb3 hx3 HMUL HX2
           obtain ⟨z, hz⟩ : ∃ z, z = cmpN P N := ⟨_, rfl⟩
           rw [← hz] at hcmp
           have HCMP := Lib.hid hcmp
           have hzl : ¬ z ≤ 0 := by rw [hz, cmp_le]; exact HLE.out
           clear hcmp hz
           go_wp2_with fail
           refine HCMP.out.mono ?_
           rintro _ w5 ⟨rfl, hb5⟩
           have HB5 := Lib.hid (HB4.out.trans (hb5.mono HB4.out.size))
           clear hb5 HCMP
           go_wp2
           go_roundw
           case rel => exact ⟨lo, m, rfl, rfl, HMID.out.1, HMI.out, HHI.out.2.2.1, HLE2.out, HB5.out⟩
           case measure => exact HMS.out.2
     · have hgo' : ¬ (1 : Int) < (d : Int) := by omega
       have HR := Lib.hid (show RootIs k N lo from ⟨HHI.out.2.2.1, by
         have e : lo + 1 = hi := by omega
         rw [e]; exact HHI.out.2.2.2⟩)
       obtain ⟨g1, g2, -, -, -, -, -, -⟩ := mid_facts hl hh hd hs hm
       obtain ⟨r, hr⟩ : ∃ r, r = lo % 4294967296 := ⟨_, rfl⟩
       obtain ⟨q1, q2, q3, q4, q5, q6⟩ := rest_facts hr
       have ER := Lib.hid hr
       clear hl hh hd hs hm hgo hr
       go_wp2
       go_ret
       exact ⟨⟨lo, by show Ending.returned (Value.int .u32 (r : Int)) = _; rw [ER.out]; congr 2, by rw [← ENN.out]; exact HR.out⟩, HW1.out.trans (HB.out.mono HW1.out.size)⟩
end Go.Proofs.YtcekammjpghjnaaDoor

/- The walk of the reference's tables. -/
namespace Go.Proofs.YtcekammjpghjnaaDoor
set_option linter.unusedVariables false
set_option linter.unusedSimpArgs false
open Go.ChangeShapes Go.WideShapes Go.ChangeAt Go.RowKit Go.Maps

def ucells (l : List Nat) : List Value := l.map fun (n : Nat) => Value.int .u32 (n : Int)
def tabL : List Value := ucells ss8 ++ ucells ks64
theorem tab_len : tabL.length = 72 := by kernel_rfl
theorem tab_one : tabL.toArray.all (·.oneCell') = true := by kernel_rfl
theorem ucells_get (l : List Nat) (i : Nat) (h : i < l.length) : (ucells l)[i]? = some (.int .u32 (l.getD i 0 : Nat)) := by simp [ucells, h]
theorem ss8_len : ss8.length = 8 := by decide
theorem ks64_len : ks64.length = 64 := by decide
theorem p64_len : primes64.length = 64 := by decide
theorem zero_tab : ∃ Z : Array Value, (∀ w, (Instr.build 36 #[]).run Tryd.prog w = .ok (.agg Z) w) ∧ (∀ w, (zeroValue 36).run Tryd.prog w = .ok (.agg Z) w) ∧ Z.size = 72 ∧ ¬ Z = #[] ∧ Z.all (·.oneCell') = true ∧ ∀ (i : Nat) v, Z[i]? = some v → v = .int .u32 0 := by
 have hs : (List.replicate 72 (Value.int .u32 0)).toArray.size = 72 := by kernel_rfl
 exact ⟨_, fun w => by kernel_rfl, fun w => by kernel_rfl, hs, (fun e => by rw [e] at hs; cases hs), by kernel_rfl, fun i v h => by rw [List.getElem?_toArray, List.getElem?_replicate] at h; split at h; (injection h with h; exact h.symm); cases h⟩
theorem p64_small (i : Nat) (h : i < 64) : 0 < primes64.getD i 0 ∧ primes64.getD i 0 < 512 := by
 have hg : primes64[i]? = some (primes64.getD i 0) := by
  rw [List.getD_eq_getElem?_getD, List.getElem?_eq_getElem (by rw [p64_len]; exact h)]; rfl
 have := primes_pos 312 _ (by rw [primes_full]; exact List.mem_of_getElem? hg)
 omega
structure TabAt (w : World) (B i : Nat) : Prop where
 ex : ∃ cs, Has w B 36 cs ∧ cs.size = 72 ∧ (∀ j, j < i → cs[8 + j]? = some (.int .u32 (ks64.getD j 0 : Nat))) ∧ ∀ j, j < i → j < 8 → cs[j]? = some (.int .u32 (ss8.getD j 0 : Nat))
theorem TabAt.kept {S : Nat → Prop} {w w' : World} {B i : Nat} (h : TabAt w B i) (hk : Kept S w w') (hs : ¬ S B) : TabAt w' B i := by
 obtain ⟨cs, h1, h2⟩ := h.ex
 exact ⟨cs, h1.kept hk hs, h2⟩
theorem TabAt.setK {w : World} {B i : Nat} (h : TabAt w B i) (hi : i < 64) : ∃ cs, Has (w.setCell ⟨B, 8 + i, none⟩ (.int .u32 ((ks64.getD i 0 : Nat) : Int))) B 36 cs ∧ cs.size = 72 ∧ (∀ j, j < i + 1 → cs[8 + j]? = some (.int .u32 (ks64.getD j 0 : Nat))) ∧ ∀ j, j < i → j < 8 → cs[j]? = some (.int .u32 (ss8.getD j 0 : Nat)) := by
 obtain ⟨cs, h1, h2, h3, h4⟩ := h.ex
 refine ⟨_, h1.set (8 + i) _, by simp [h2], fun j hj => ?_, fun j hj h8 => ?_⟩
 · by_cases e : j = i
   · rw [e, Array.getElem?_setIfInBounds_self_of_lt (by omega)]
   · rw [Array.getElem?_setIfInBounds_ne (by omega)]
     exact h3 j (by omega)
 · rw [Array.getElem?_setIfInBounds_ne (by omega)]
   exact h4 j hj h8
theorem tab_cell {w : World} {B o : Nat} {cs : Array Value} (h : Has w B 36 cs) (hs : cs.size = 72) (ho : o < 72) : (∃ v, w.cell? ⟨B, o, none⟩ = some v) ∧ w.frozen? ⟨B, o, none⟩ = false :=
 ⟨⟨cs[o]'(by omega), h.cell_is (Array.getElem?_eq_getElem (by omega))⟩, h.free _⟩
theorem root_3 (w : World) (i : Nat) (hi : i < 64) : Calls Tryd.prog 24 #[.int .i64 (primes64.getD i 0 : Nat), .int .i64 3] w fun e w' => e = .returned (.int .u32 (ks64.getD i 0 : Nat)) ∧ Below w.heap.size w w' := by
 obtain ⟨h1, h2⟩ := p64_small i hi
 refine (root_is w (primes64.getD i 0) 3 h1 h2 (.inr rfl)).mono fun e w' ⟨⟨r, hr, hrt⟩, hb⟩ => ⟨?_, hb⟩
 rw [hr]
 have e1 := root_k hi hrt
 congr 2
 omega
theorem root_2 (w : World) (i : Nat) (hi : i < 8) : Calls Tryd.prog 24 #[.int .i64 (primes64.getD i 0 : Nat), .int .i64 2] w fun e w' => e = .returned (.int .u32 (ss8.getD i 0 : Nat)) ∧ Below w.heap.size w w' := by
 obtain ⟨h1, h2⟩ := p64_small i (by omega)
 refine (root_is w (primes64.getD i 0) 2 h1 h2 (.inl rfl)).mono fun e w' ⟨⟨r, hr, hrt⟩, hb⟩ => ⟨?_, hb⟩
 rw [hr]
 have e1 := root_s hi hrt
 congr 2
 omega
set_option maxRecDepth 100000 in
set_option maxHeartbeats 4000000 in
theorem make_is (w : World) : Calls Tryd.prog 6 #[] w fun e w' => e = .returned (.agg tabL.toArray) ∧ Below w.heap.size w w' := by
 obtain ⟨Z, hbd, hzv, hZs, hZn, hZo, hZ0⟩ := zero_tab
 have s1 : ∀ (x : World) o, (x.alloc o).heap.size = x.heap.size + 1 := fun x o => by simp
 have b0 := (Has.new w 36 Z).alloc (.cells Z 36)
 have b1 := Has.new (w.alloc (.cells Z 36)) 36 Z
 rw [s1] at b1
 have hrow : ((w.alloc (.cells Z 36)).alloc (.cells Z 36)).setRow (w.heap.size + 1) Z = (w.alloc (.cells Z 36)).alloc (.cells Z 36) := by
  have := World.setRow_alloc_new (w.alloc (.cells Z 36)) Z Z 36
  rw [s1] at this
  exact this
 have hbel := ((Below.refl w.heap.size w).alloc (Nat.le_refl _) (.cells Z 36)).alloc (by rw [s1]; omega) (.cells Z 36)
 have HBD := Lib.hid hbd
 have HB1 := Lib.hid b1
 have HB0 := Lib.hid b0
 have HROW := Lib.hid hrow
 have HBEL := Lib.hid hbel
 have EZ := Lib.hid hZs
 have SZ := Lib.hid (show (Tryd.prog.info? 36).map (·.size) = some Z.size by rw [hZs]; kernel_rfl)
 have ONE := Lib.hid hZo
 clear hbd b0 b1 hrow hbel hZs hZo s1
 go_enter Tryd.func6, Tryd.ntmps6
 go_upto_region 2 with (first
  | (refine wpList_build_run (by kernel_rfl) 36 _ rfl #[] (by kernel_rfl) (.agg Z) (HBD.out _) ?_)
  | (refine wpList_store_row rfl 36 (.tmp 1) (.tmp 4) rfl (w.heap.size + 1) Z rfl rfl 36 Z HB1.out SZ.out rfl ONE.out ?_))
 rw [HROW.out]
 generalize (w.alloc (.cells Z 36)).alloc (.cells Z 36) = W0 at HB0 HB1 HBEL ⊢
 clear HROW HBD
 have hpr := primes_is W0
 have HPR := Lib.hid hpr
 clear hpr
 obtain ⟨B0, hB0⟩ : ∃ B, B = w.heap.size := ⟨_, rfl⟩
 obtain ⟨B1, hB1⟩ : ∃ B, B = w.heap.size + 1 := ⟨_, rfl⟩
 rw [← hB1] at HB1 ⊢
 rw [← hB0] at HB0 ⊢
 have EB := Lib.hid (And.intro hB0 hB1)
 clear hB0 hB1
 go_wp2_with fail
 refine HPR.out.mono ?_
 rintro _ w1 ⟨⟨v', rfl, hd⟩, hb1⟩
 obtain ⟨a, c, rfl, hdg⟩ := hd
 rw [p64_len] at hdg ⊢
 obtain ⟨sb, so, hA, hsb, hcl⟩ := hdg.at_ (by decide)
 subst hA
 have hsbne : sb ≠ B1 := fun e => by
  have h1 := hcl 0 (by decide)
  have h2 := HB1.out.below hb1 HB1.out.lt
  rw [e, h2.cell] at h1
  have h3 := hZ0 _ _ h1
  cases h3
 have HSB := Lib.hid hsbne
 obtain ⟨n64, hn64⟩ : ∃ n, n = 64 := ⟨64, rfl⟩
 rw [← hn64] at hdg ⊢
 have EN := Lib.hid hn64
 have HD := Lib.hid hdg
 have HT0 := Lib.hid (show TabAt w1 B1 0 from ⟨Z, HB1.out.below hb1 HB1.out.lt, EZ.out, fun j hj => absurd hj (Nat.not_lt_zero j), fun j hj => absurd hj (Nat.not_lt_zero j)⟩)
 have HR0 := Lib.hid (HB0.out.below hb1 HB0.out.lt)
 have HBE := Lib.hid (HBEL.out.trans (hb1.mono HBEL.out.size))
 clear hdg hsb hcl hsbne hZ0 hb1 hn64 HPR HB0 HB1 HBEL
 go_wp2_with fail
 go_loopw [7] (fun v wr => ∃ (i : Nat), v = .int .i64 (i : Int) ∧ i ≤ 64 ∧ TabAt wr B1 i ∧ Has wr B0 36 Z ∧ Below w.heap.size w wr ∧ DigAt wr (some ⟨sb, so, none⟩) n64 c primes64) (fun v _ => 64 - (intOf v).toNat)
 case atStart => exact ⟨0, rfl, Nat.zero_le _, HT0.out, HR0.out, HBE.out, HD.out⟩
 case round =>
  clear HT0 HR0 HBE HD
  obtain ⟨i, rfl, hi, ht, hr0, hbe, hdg⟩ := hrel
  have HTA := Lib.hid ht
  have HR0 := Lib.hid hr0
  have HBE := Lib.hid hbe
  have HD := Lib.hid hdg
  clear ht hr0 hbe hdg
  by_cases hlt : i < 64
  · obtain ⟨_, _, e0, _, hcl⟩ := HD.out.at_ (by rw [EN.out]; decide)
    injection e0 with e0
    injection e0 with e1 e2 _
    subst e1 e2
    have hn : i < n64 := by rw [EN.out]; exact hlt
    have hc0 := hcl i hn
    have hat := at_int sb so n64 c i hn
    have hroot := root_3 wr i hlt
    have hroot2 : i < 8 → ∀ v, Calls Tryd.prog 24 #[.int .i64 (primes64.getD i 0 : Nat), .int .i64 2] v fun e w' => e = .returned (.int .u32 (ss8.getD i 0 : Nat)) ∧ Below v.heap.size v w' := fun h v => root_2 v i h
    obtain ⟨p, hp⟩ : ∃ p, p = primes64.getD i 0 := ⟨_, rfl⟩
    rw [← hp] at hc0 hroot hroot2
    obtain ⟨kk, hkk⟩ : ∃ x, x = ks64.getD i 0 := ⟨_, rfl⟩
    obtain ⟨sk, hsk⟩ : ∃ x, x = ss8.getD i 0 := ⟨_, rfl⟩
    rw [← hkk] at hroot
    rw [← hsk] at hroot2
    have EK := Lib.hid hkk
    have ES := Lib.hid hsk
    have HRT := Lib.hid hroot
    have HRT2 := Lib.hid hroot2
    have hlt' : (i : Int) < (n64 : Int) := by omega
    have hlt2 : (i : Int) < 64 := by omega
    have HBB := Lib.hid (show w.heap.size ≤ B0 ∧ B0 < B1 ∧ w.heap.size ≤ B1 by have := EB.out; omega)
    have HK2 := Lib.hid (And.intro (show i + 1 ≤ 64 from hlt) (show 64 - (i + 1) < 64 - i from Nat.sub_lt_sub_left hlt (Nat.lt_succ_self i)))
    have HLT := Lib.hid hlt
    have hib : i < 4611686018427387904 := by omega
    have hw4 := wrap64_succ i hib
    have HQ := Lib.hid hw4
    clear hcl hn hroot hroot2 hp hkk hsk hlt hib
    go_wp2_with fail
    refine HRT.out.mono ?_
    rintro _ w2 ⟨rfl, hb2⟩
    obtain ⟨cs0, hc1, hc2, -⟩ := (HTA.out.kept (Kept.of_below (S := fun _ => False) hb2) (fun h => h)).ex
    obtain ⟨⟨v0, hv0⟩, hf0⟩ := tab_cell hc1 hc2 (show 8 + i < 72 by have := HLT.out; omega)
    have hset := (HTA.out.kept (Kept.of_below (S := fun _ => False) hb2) (fun h => h)).setK HLT.out
    rw [← EK.out] at hset
    have hk3 : Kept (· = B1) wr (w2.setCell ⟨B1, 8 + i, none⟩ (.int .u32 (kk : Int))) := ((Kept.of_below (S := fun k => k = B1) hb2)).set (p := ⟨B1, 8 + i, none⟩) (.inl rfl) _
    have HSET := Lib.hid hset
    have HK3 := Lib.hid hk3
    clear hb2 hc1 hc2 hset hk3 HRT
    by_cases h8 : i < 8
    · have h8' : (i : Int) < 8 := by omega
      have HRT3 := Lib.hid (HRT2.out h8)
      have H8 := Lib.hid h8
      clear h8
      go_upto_region 6 with (fail)
      clear hv0 hf0
      have hset := HSET.out
      have hk3 := HK3.out
      clear HSET HK3
      generalize w2.setCell ⟨B1, 8 + i, none⟩ (.int .u32 (kk : Int)) = W3 at hset hk3 ⊢
      obtain ⟨cs3, q1, q2, q3, q4⟩ := hset
      have HC3 := Lib.hid (And.intro q1 (And.intro q2 (And.intro q3 q4)))
      have HK3 := Lib.hid hk3
      clear q1 q2 q3 q4 hk3
      go_wp2_with fail
      refine (HRT3.out _).mono ?_
      rintro _ w4 ⟨rfl, hb4⟩
      have hc4 := HC3.out.1.below hb4 HC3.out.1.lt
      obtain ⟨⟨v0, hv0⟩, hf0⟩ := tab_cell hc4 HC3.out.2.1 (show i < 72 by have := HLT.out; omega)
      have hk5 : Kept (· = B1) wr (w4.setCell ⟨B1, i, none⟩ (.int .u32 (sk : Int))) := (HK3.out.trans (Kept.of_below (S := fun k => k = B1) hb4)).set (p := ⟨B1, i, none⟩) (.inl rfl) _
      have ht5 : TabAt (w4.setCell ⟨B1, i, none⟩ (.int .u32 (sk : Int))) B1 (i + 1) := by
        obtain ⟨q1, q2, q3, q4⟩ := HC3.out
        have hi64 := HLT.out
        refine ⟨_, hc4.set i _, by simp [q2], fun j hj => ?_, fun j hj h8 => ?_⟩
        · rw [Array.getElem?_setIfInBounds_ne (by have := H8.out; omega)]
          exact q3 j hj
        · by_cases e : j = i
          · rw [e, Array.getElem?_setIfInBounds_self_of_lt (by omega), ← ES.out]
          · rw [Array.getElem?_setIfInBounds_ne (by omega)]
            exact q4 j (by omega) h8
      have HT5 := Lib.hid ht5
      have HK5 := Lib.hid hk5
      clear hb4 hc4 hk5 ht5 HRT3
      go_wp2
      have ht5 := HT5.out
      have hk5 := HK5.out
      clear hv0 hf0 HT5 HK5
      generalize w4.setCell ⟨B1, i, none⟩ (.int .u32 (sk : Int)) = W5 at ht5 hk5 ⊢
      have HFIN := Lib.hid (show TabAt W5 B1 (i + 1) ∧ Has W5 B0 36 Z ∧ Below w.heap.size w W5 ∧ DigAt W5 (some ⟨sb, so, none⟩) n64 c primes64 from
        ⟨ht5, HR0.out.kept hk5 (by have := HBB.out; omega), HBE.out.trans (hk5.below HBE.out.size (fun j e => by have e' : j = B1 := e; have := HBB.out; omega)), HD.out.kept hk5 (fun b o e e' => by injection e with e; injection e with e1; exact HSB.out (e1.trans e'))⟩)
      go_roundw
      case rel => exact ⟨i + 1, by first | rfl | exact congrArg (Value.int .i64) HQ.out, HK2.out.1, HFIN.out⟩
      case measure =>
        first | exact HK2.out.2 | (show 64 - (intOf (Value.int .i64 (wrap64 ((i : Int) + 1)))).toNat < _; rw [HQ.out]; exact HK2.out.2)
    · have h8' : ¬ (i : Int) < 8 := by omega
      have H8 := Lib.hid h8
      clear h8
      go_upto_region 6 with (fail)
      clear hv0 hf0
      have hset := HSET.out
      have hk3 := HK3.out
      clear HSET HK3
      generalize w2.setCell ⟨B1, 8 + i, none⟩ (.int .u32 (kk : Int)) = W5 at hset hk3 ⊢
      have HFIN := Lib.hid (show TabAt W5 B1 (i + 1) ∧ Has W5 B0 36 Z ∧ Below w.heap.size w W5 ∧ DigAt W5 (some ⟨sb, so, none⟩) n64 c primes64 from by
        obtain ⟨cs3, q1, q2, q3, q4⟩ := hset
        exact ⟨⟨cs3, q1, q2, q3, fun j hj h8 => q4 j (by have := H8.out; omega) h8⟩, HR0.out.kept hk3 (by have := HBB.out; omega), HBE.out.trans (hk3.below HBE.out.size (fun j e => by have e' : j = B1 := e; have := HBB.out; omega)), HD.out.kept hk3 (fun b o e e' => by injection e with e; injection e with e1; exact HSB.out (e1.trans e'))⟩)
      clear hset hk3
      go_wp2
      go_roundw
      case rel => exact ⟨i + 1, by first | rfl | exact congrArg (Value.int .i64) HQ.out, HK2.out.1, HFIN.out⟩
      case measure =>
        first | exact HK2.out.2 | (show 64 - (intOf (Value.int .i64 (wrap64 ((i : Int) + 1)))).toNat < _; rw [HQ.out]; exact HK2.out.2)
  · have hno : ¬ (i : Int) < (n64 : Int) := by have := EN.out; omega
    obtain ⟨cs, q1, q2, q3, q4⟩ := HTA.out.ex
    have ecs : cs = tabL.toArray := by
      apply Array.toList_inj.1
      apply List.ext_getElem?
      intro j
      rw [Array.getElem?_toList]
      have h64 : i = 64 := by omega
      have l8 : (ucells ss8).length = 8 := by decide
      have l64 : (ucells ks64).length = 64 := by decide
      rcases Nat.lt_or_ge j 72 with hj | hj
      · show _ = tabL[j]?
        unfold tabL
        rcases Nat.lt_or_ge j 8 with h8 | h8
        · rw [q4 j (by omega) h8, List.getElem?_append_left (by omega), ucells_get ss8 j (by rw [ss8_len]; exact h8)]
        · have := q3 (j - 8) (by omega)
          rw [show 8 + (j - 8) = j by omega] at this
          rw [this, List.getElem?_append_right (by omega), l8, ucells_get ks64 (j - 8) (by rw [ks64_len]; omega)]
      · rw [Array.getElem?_eq_none (by omega), List.getElem?_eq_none (by show tabL.length ≤ j; rw [tab_len]; exact hj)]
    rw [ecs] at q1
    obtain ⟨LT, hLT⟩ : ∃ L, L = tabL.toArray := ⟨_, rfl⟩
    rw [← hLT] at q1
    have lt : LT.size = 72 := by rw [hLT, List.size_toArray, tab_len]
    have SZL := Lib.hid (show (Tryd.prog.info? 36).map (·.size) = some LT.size by rw [lt]; kernel_rfl)
    have ONEL := Lib.hid (show LT.all (·.oneCell') = true by rw [hLT]; exact tab_one)
    have HLZ := Lib.hid (show Z.size = LT.size by rw [lt, EZ.out])
    have hres : Has (wr.setRow B0 LT) B0 36 LT := HR0.out.setRow
    have hbf : Below w.heap.size w (wr.setRow B0 LT) := HBE.out.trans ((kept_setRow (g := B0) wr LT).below HBE.out.size (fun j e => by have e' : j = B0 := e; have := EB.out; omega))
    have HQ1 := Lib.hid q1
    have HRES := Lib.hid hres
    have HBF := Lib.hid hbf
    have ELT := Lib.hid hLT
    clear q1 q2 q3 q4 ecs lt hres hbf hLT hlt
    go_wp2_with (first
      | (refine wpList_load_row rfl 36 (.tmp 1) rfl B1 rfl 36 LT (0, 0) _ HQ1.out Tryd.underlying36 rfl SZL.out ?_)
      | (refine wpList_store_row rfl 36 (.tmp 0) (.tmp 25) rfl B0 LT rfl rfl 36 Z HR0.out SZL.out HLZ.out ONEL.out ?_))
    refine bodyPost_ret (results_cell_row rfl _ _ B0 36 LT (0, 0) _ rfl HRES.out Tryd.underlying36 rfl SZL.out) rfl ?_
    exact ⟨by rw [ELT.out], HBF.out⟩
end Go.Proofs.YtcekammjpghjnaaDoor

