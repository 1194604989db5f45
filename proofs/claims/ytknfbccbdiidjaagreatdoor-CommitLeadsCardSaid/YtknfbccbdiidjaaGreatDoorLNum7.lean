/- The walk of the reference's primes. -/
import Derived.Test.YtknfbccbdiidjaaGreatDoorWu
import Derived.Test.YtknfbccbdiidjaaGreatDoorLNum4
import Derived.Test.YtknfbccbdiidjaaGreatDoorLFc
import Derived.Test.YtknfbccbdiidjaaGreatDoorLSha7
import Derived.Deep.WholeRow
namespace Go.Proofs.YtknfbccbdiidjaaGreatDoor
set_option linter.unusedVariables false
set_option linter.unusedSimpArgs false
open Go.ChangeShapes Go.WideShapes Go.ChangeAt Go.RowKit Go.Maps

theorem at_int (b o n c k : Nat) (hk : k < n) (w : World) : (Instr.indexAt 62 (.slice (some ⟨b, o, none⟩) n c) (.int .i64 (k : Int))).run Tryz.prog w = .ok (.pointer (some ⟨b, o + k, none⟩)) w := by
 have hu : Tryz.prog.underlying 62 = some (.slice (Tryz.prog.elem 62)) := by kernel_rfl
 have he : Tryz.prog.elem 62 = 3 := by kernel_rfl
 rw [run_indexAt_slice w 62 ⟨b, o, none⟩ n c .i64 (k : Int) hu, if_pos ⟨by omega, by omega⟩, he, size_int]
 simp only [Result.andThen, Int.toNat_natCast, Nat.mul_one, Addr.add_mid]
theorem own_cell {w : World} {base : Nat} {v : Value} {ds : List Nat} (h : w.ownsRow base 3 1 v ds.length (icells ds)) (j : Nat) (hj : j < ds.length) : ∃ g cap, v = .slice (some ⟨g, 0, none⟩) ds.length cap ∧ base ≤ g ∧ w.cell? ⟨g, j, none⟩ = some (.int .i64 (ds.getD j 0 : Nat)) := by
 obtain ⟨g, cap, cur, rfl, hB, hh, h1, h2, h3, h4⟩ := own_open h (by omega)
 refine ⟨g, cap, rfl, hB, hh.cell_is ?_⟩
 rw [h4 j (by omega)]
 exact icells_get ds j hj
set_option maxRecDepth 100000 in
set_option maxHeartbeats 4000000 in
theorem primes_is (w : World) : Calls Tryz.prog 56 #[.int .i64 64] w fun e w' => (∃ v', e = .returned v' ∧ IsD w' v' primes64) ∧ Below w.heap.size w w' := by
 obtain ⟨ii, his, Au, Av, Aw⟩ := info_parts info_int
 obtain ⟨n64, Aj⟩ : ∃ n : Int, n = 64 := ⟨64, rfl⟩
 rw [← Aj]
 have EN := Hh Aj
 have Af : (w.alloc (.cells #[] 3)).ownsRow w.heap.size 3 1 (.slice (some ⟨w.heap.size, 0, none⟩) 0 0) 0 (icells []) := World.ownsRow_made w #[] 0 (Nat.le_refl _) (by decide) rfl
 have Ad := Hh Af
 clear Af Aj
 go_enter Tryz.func56, Tryz.ntmps56
 go_wp2_with fail
 go_loopw [3, 4] (fun ov xv wr => ∃ (X : Nat), xv = .int .i64 (X : Int) ∧ 2 ≤ X ∧ X ≤ 312 ∧ (∃ oa on oc, ov = .slice oa on oc) ∧ wr.ownsRow w.heap.size 3 1 ov (primesTo X).length (icells (primesTo X)) ∧ Below w.heap.size w wr) (fun _ xv _ => 1000 - (intOf xv).toNat)
 case atStart => exact ⟨2, rfl, Nat.le_refl _, by omega, ⟨_, _, _, rfl⟩, Ad.o, (Below.refl _ _).alloc (Nat.le_refl _) _⟩
 case round =>
  obtain ⟨X, rfl, hx2, hx3, ⟨oa, on, oc, rfl⟩, Ak, An⟩ := hrel
  clear Ad
  have hon : on = (primesTo X).length := by
    rcases Ak.2 with ⟨e, h0⟩ | ⟨g, cap, cur, e, _⟩
    · injection e with e1 e2 e3; omega
    · injection e with e1 e2 e3
  have Ai := Hh hon
  have Ac := Hh Ak
  have Ab := Hh An
  have HX := Hh (And.intro hx2 hx3)
  clear Ak An hon
  by_cases hgo : on < 64
  · have hgo' : (on : Int) < n64 := by have := EN.o; omega
    have hX311 : X ≤ 311 := by
      refine Nat.le_of_not_lt fun hc => ?_
      have e : X = 312 := by omega
      have := Ai.o
      rw [e, primes_full] at this
      have e2 : primes64.length = 64 := by decide
      omega
    have Ap := Hh hX311
    have Ar := Hh hgo
    clear hX311 hgo hx2 hx3
    go_wp2_with fail
    go_loopw [5, 17] (fun okv jv wy => ∃ (j : Nat), jv = .int .i64 (j : Int) ∧ j ≤ on ∧ okv = .bool (((primesTo X).take j).all (fun p => decide (¬ X % p = 0))) ∧ wy = wr) (fun _ jv _ => on - (intOf jv).toNat)
    case atStart => exact ⟨0, rfl, Nat.zero_le _, rfl, rfl⟩
    case round =>
      obtain ⟨j, rfl, hj, rfl, rfl⟩ := hrel
      by_cases hjl : j < on
      · obtain ⟨g, cap, e, hB, hc⟩ := own_cell Ac.o j (by rw [← Ai.o]; exact hjl)
        have hon := Ai.o
        obtain ⟨p, hp⟩ : ∃ p, p = (primesTo X).getD j 0 := ⟨_, rfl⟩
        rw [← hp] at hc
        injection e with e1 e2 e3
        subst e1
        have hat : ∀ w, (Instr.indexAt 62 (.slice (some ⟨g, 0, none⟩) on oc) (.int .i64 (j : Int))).run Tryz.prog w = .ok (.pointer (some ⟨g, j, none⟩)) w := fun w => by
          have := at_int g 0 on oc j hjl w
          rwa [Nat.zero_add] at this
        have hjp : (primesTo X)[j]? = some p := by
          rw [hp, List.getD_eq_getElem?_getD, List.getElem?_eq_getElem (by omega)]; rfl
        have hpp := primes_pos X p (List.mem_of_getElem? hjp)
        obtain ⟨okb, Aa⟩ : ∃ b, b = ((primesTo X).take j).all (fun p => decide (¬ X % p = 0)) := ⟨_, rfl⟩
        have Ah : ((primesTo X).take (j + 1)).all (fun p => decide (¬ X % p = 0)) = (okb && decide (¬ X % p = 0)) := by
          rw [List.take_add_one, hjp, List.all_append, ← Aa]; simp
        rw [← Aa]
        have A0 := Hh Ah
        have Al := Hh (And.intro hjl (show on - (j + 1) < on - j from Nat.sub_lt_sub_left hjl (Nat.lt_succ_self j)))
        obtain ⟨r, hr⟩ : ∃ r, r = X % p := ⟨_, rfl⟩
        have hrb : r < 4611686018427387904 := by have := Nat.mod_lt X hpp.1; have := HX.o; omega
        have hp0 : ¬ (p : Int) = 0 := by omega
        have hpn : (p == 0) = false := by simp; omega
        have hjb : j < 4611686018427387904 := by have := Ar.o; omega
        have ER := Hh hr
        have hm1 : (X : Int) % (p : Int) = (r : Int) := by rw [hr, Int.natCast_emod]
        have hm3 : Int.tmod (X : Int) (p : Int) = (r : Int) := by rw [Int.tmod_eq_emod_of_nonneg (Int.natCast_nonneg _)]; exact hm1
        have hz : r = 0 ∨ ¬ r = 0 := by omega
        have hrz : ¬ r = 0 → ¬ (r : Int) = 0 := by omega
        have hw3 := wrap64_nat r hrb
        have hw4 := wrap64_succ j hjb
        have HQ := Hh hw4
        clear hon hp hjp hpp Aa Ah hr hrb hjb hB e2 e3
        rcases hz with h0 | h0
        · have HE := Hh (show ((primesTo X).take (j + 1)).all (fun p => decide (¬ X % p = 0)) = false by rw [A0.o, ← ER.o, h0]; simp)
          subst h0
          go_wp2
          go_roundw
          case rel => exact ⟨j + 1, by first | rfl | exact congrArg (Value.int .i64) HQ.o, Al.o.1, by rw [HE.o], by first | rfl | trivial⟩
          case measure =>
           first | exact Al.o.2 | (show on - (intOf (Value.int .i64 (wrap64 ((j : Int) + 1)))).toNat < _; rw [HQ.o]; exact Al.o.2)
        · have HE := Hh (show ((primesTo X).take (j + 1)).all (fun p => decide (¬ X % p = 0)) = okb by rw [A0.o, ← ER.o, decide_eq_true h0, Bool.and_true])
          have h0' := hrz h0
          clear h0 hrz
          go_wp2
          go_roundw
          case rel => exact ⟨j + 1, by first | rfl | exact congrArg (Value.int .i64) HQ.o, Al.o.1, by rw [HE.o], by first | rfl | trivial⟩
          case measure =>
           first | exact Al.o.2 | (show on - (intOf (Value.int .i64 (wrap64 ((j : Int) + 1)))).toNat < _; rw [HQ.o]; exact Al.o.2)
      · have hjn : ¬ (j : Int) < (on : Int) := by omega
        have ej : (primesTo X).take j = primesTo X := List.take_of_length_le (by have := Ai.o; omega)
        rw [ej]
        obtain ⟨okb, Aa⟩ : ∃ b, b = (primesTo X).all (fun p => decide (¬ X % p = 0)) := ⟨_, rfl⟩
        rw [← Aa]
        have hps : primesTo (X + 1) = if okb = true then primesTo X ++ [X] else primesTo X := by
          rw [primes_step X HX.o.1, Aa]; rfl
        have Az := Hh hps
        have hxb : X < 4611686018427387904 := by have := HX.o; omega
        have Ae := Hh (show 2 ≤ X + 1 ∧ X + 1 ≤ 312 ∧ 1000 - (X + 1) < 1000 - X by have := Ap.o; have := HX.o; omega)
        have A3 := Hh (show (primesTo X).length + 1 ≤ maxLen by unfold maxLen; have := Ai.o; have := EN.o; omega)
        have A1 := Hh (show ((primesTo X).length + 1) * 8 ≤ 140737488355328 by have := Ai.o; have := EN.o; omega)
        have Ay := Hh (show ∀ z, w.heap.size ≤ (wr.alloc (.cells z 3)).heap.size from fun z => by have := Ab.o.size; simp; omega)
        have hw4 := wrap64_succ X hxb
        have HQ := Hh hw4
        clear Aa hps hxb ej hjl
        cases okb with
        | false =>
          have HE := Hh (show primesTo (X + 1) = primesTo X by rw [Az.o]; rfl)
          go_wp2
          go_roundw
          case rel => exact ⟨X + 1, by first | rfl | exact congrArg (Value.int .i64) HQ.o, Ae.o.1, Ae.o.2.1, ⟨_, _, _, rfl⟩, by rw [HE.o]; exact Ac.o, Ab.o⟩
          case measure =>
           first | exact Ae.o.2.2 | (show 1000 - (intOf (Value.int .i64 (wrap64 ((X : Int) + 1)))).toNat < _; rw [HQ.o]; exact Ae.o.2.2)
        | true =>
          have HE := Hh (show primesTo (X + 1) = primesTo X ++ [X] by rw [Az.o]; rfl)
          go_wp2_with (at_builtin; refine wpList_append_lies _ rfl (.tmp 27) (.tmp 29) 62 rfl w.heap.size 3 ii (.int .i64 0) 1 8 Tryz.underlying62 his Au Av Aw rfl (by decide) _ (primesTo X).length _ rfl (Ac.o.alloc _) ⟨wr.heap.size, 0, none⟩ 1 1 [.int .i64 (X : Int)] rfl rfl (World.news_of_block (cs := #[.int .i64 (X : Int)]) (heap_alloc_new wr _)) (by intro v hv; rw [List.mem_singleton] at hv; rw [hv]; rfl) (by decide) A3.o A1.o (Ay.o _) _ rfl ?_; intro g6 cap6 w6 Ag Ao As Ax)
          have Aq := Hh ((Ab.o.alloc Ab.o.size _).grown Ao (Ay.o _) (own_blk Ac.o))
          have Am := Hh Ag
          clear Ag Ao As Ax
          go_roundw
          case rel =>
           have e : icells (primesTo X ++ [X]) = icells (primesTo X) ++ [.int .i64 (X : Int)] := by simp [icells]
           exact ⟨X + 1, by first | rfl | exact congrArg (Value.int .i64) HQ.o, Ae.o.1, Ae.o.2.1, ⟨_, _, _, rfl⟩, by rw [HE.o, e, List.length_append]; exact Am.o, Aq.o⟩
          case measure =>
           first | exact Ae.o.2.2 | (show 1000 - (intOf (Value.int .i64 (wrap64 ((X : Int) + 1)))).toNat < _; rw [HQ.o]; exact Ae.o.2.2)
  · have hno : ¬ (on : Int) < n64 := by have := EN.o; omega
    have hX : primesTo X = primes64 := by
      have h1 := Ai.o
      rcases Nat.lt_or_ge X 312 with h | h
      · have := primes_few X HX.o.1 (by omega); omega
      · have e : X = 312 := by have := HX.o; omega
        rw [e, primes_full]
    have hd : IsD wr (.slice oa on oc) primes64 := by
      have h := Ac.o
      rw [hX] at h
      exact DigAt.of_own h rfl
    have A2 := Hh hd
    clear hX hd hgo
    go_wp2
    go_ret
    exact ⟨⟨_, rfl, A2.o⟩, Ab.o⟩

/- The walk of the reference's roots. -/

theorem digs_shift (n : Nat) (h : ¬ n = 0) : digs (256 * n) = 0 :: digs n := by
 rw [digs_pos (by omega)]
 congr 1
 · omega
 · congr 1; omega
theorem dig_src {w : World} {b o n c : Nat} {ds : List Nat} (h : DigAt w (some ⟨b, o, none⟩) n c ds) : ∀ (j : Nat) u, (icells ds)[j]? = some u → w.cell? ((⟨b, o, none⟩ : Addr).add j) = some u := fun j u hu => by
 have hj := (List.getElem?_eq_some_iff.1 hu).1
 rw [icells_length, h.len] at hj
 obtain ⟨b', o', e, _, hc⟩ := h.at_ (by omega)
 injection e with e
 injection e with e1 e2 _
 subst e1 e2
 rw [Addr.add_mid, hc j hj]
 rw [icells_get ds j (by rw [h.len]; exact hj)] at hu
 exact hu
theorem root_top {p k : Nat} (hp : p < 512) (hk : k = 2 ∨ k = 3) : p * 256 ^ (4 * k) < 137438953472 ^ k := by
 rcases hk with rfl | rfl
 · have h : 512 * 256 ^ 8 ≤ 137438953472 ^ 2 := by decide
   have h2 : p * 256 ^ 8 < 512 * 256 ^ 8 := Nat.mul_lt_mul_of_pos_right hp (by decide)
   exact Nat.lt_of_lt_of_le h2 h
 · have h : 512 * 256 ^ 12 ≤ 137438953472 ^ 3 := by decide
   have h2 : p * 256 ^ 12 < 512 * 256 ^ 12 := Nat.mul_lt_mul_of_pos_right hp (by decide)
   exact Nat.lt_of_lt_of_le h2 h
theorem len_small (x k : Nat) (h : x < 256 ^ k) : (digs x).length ≤ k := (digs_len x k).2 h
theorem own_dig {w : World} {base : Nat} {v : Value} {ds : List Nat} (h : w.ownsRow base 3 1 v ds.length (icells ds)) : ∃ a c, v = .slice a ds.length c ∧ DigAt w a ds.length c ds := DigAt.of_own h rfl
theorem cmp_le {x y : Nat} : cmpN x y ≤ 0 ↔ x ≤ y := by
 unfold cmpN
 split
 · omega
 · split <;> omega
theorem mid_facts {lo hi d s m : Nat} (hl : lo < hi) (hh : hi ≤ 137438953472) (hd : d = hi - lo) (hs : s = lo + hi) (hm : m = s / 2) :
  IntKind.u64.wrap ((hi : Int) - (lo : Int)) = (d : Int) ∧ ((hi : Int) - (lo : Int)) % 18446744073709551616 = (d : Int) ∧ IntKind.u64.wrap ((lo : Int) + (hi : Int)) = (s : Int) ∧ ((lo : Int) + (hi : Int)) % 18446744073709551616 = (s : Int) ∧ Int.tdiv (s : Int) 2 = (m : Int) ∧ (s : Int) / 2 = (m : Int) ∧ IntKind.u64.wrap (m : Int) = (m : Int) ∧ (m : Int) % 18446744073709551616 = (m : Int) := by
 refine ⟨by rw [IntKind.wrap_u64]; omega, by omega, by rw [IntKind.wrap_u64]; omega, by omega, by rw [Int.tdiv_eq_ediv_of_nonneg (Int.natCast_nonneg _)]; omega, by omega, by rw [IntKind.wrap_u64]; omega, by omega⟩
theorem rest_facts {lo r : Nat} (hr : r = lo % 4294967296) : Int.tmod (lo : Int) 4294967296 = (r : Int) ∧ (lo : Int) % 4294967296 = (r : Int) ∧ IntKind.u64.wrap (r : Int) = (r : Int) ∧ (r : Int) % 18446744073709551616 = (r : Int) ∧ IntKind.u32.wrap (r : Int) = (r : Int) ∧ (r : Int) % 4294967296 = (r : Int) := by
 refine ⟨by rw [Int.tmod_eq_emod_of_nonneg (Int.natCast_nonneg _)]; omega, by omega, by rw [IntKind.wrap_u64]; omega, by omega, by rw [IntKind.wrap_u32]; omega, by omega⟩
set_option maxRecDepth 100000 in
set_option maxHeartbeats 4000000 in
theorem root_is (w : World) (p k : Nat) (hp0 : 0 < p) (hp : p < 512) (hk : k = 2 ∨ k = 3) : Calls Tryz.prog 57 #[.int .i64 (p : Int), .int .i64 (k : Int)] w fun e w' => (∃ r, e = .returned (.int .u32 ((r % 4294967296 : Nat) : Int)) ∧ RootIs k (p * 256 ^ (4 * k)) r) ∧ Below w.heap.size w w' := by
 obtain ⟨ii, his, Bj, Bk, Bl⟩ := info_parts info_int
 have hof := of_is w p (by omega)
 have Aj := Hh hof
 have HP := Hh (And.intro hp0 hp)
 have HK := Hh hk
 have hcv : IntKind.u64.wrap (p : Int) = (p : Int) := by rw [IntKind.wrap_u64]; omega
 have Bi : (p : Int) % 18446744073709551616 = (p : Int) := by omega
 clear hof hp0 hp hk
 go_enter Tryz.func57, Tryz.ntmps57
 go_wp2_with fail
 refine Aj.o.mono ?_
 rintro _ w1 ⟨⟨v', rfl, hd⟩, hb1⟩
 obtain ⟨a1, c1, rfl, hdg⟩ := hd
 have Bo := Hh hb1
 have Ax := Hh hdg
 clear hb1 hdg Aj hcv Bi
 have hk4 : wrap64 (4 * (k : Int)) = ((4 * k : Nat) : Int) := by have := HK.o; unfold wrap64; omega
 obtain ⟨k4, Aw⟩ : ∃ q, q = 4 * k := ⟨_, rfl⟩
 rw [← Aw] at hk4
 have Bb := Hh Aw
 clear Aw
 go_wp2_with fail
 go_loopw [5, 6] (fun mv iv wr => ∃ (i n c : Nat) (a : Option Addr), iv = .int .i64 (i : Int) ∧ i ≤ k4 ∧ mv = .slice a n c ∧ n = (digs (256 ^ i * p)).length ∧ DigAt wr a n c (digs (256 ^ i * p)) ∧ Below w.heap.size w wr) (fun _ iv _ => k4 - (intOf iv).toNat)
 case atStart => exact ⟨0, _, _, _, rfl, Nat.zero_le _, rfl, by simp, by simpa using Ax.o, Bo.o⟩
 case round =>
  clear Ax Bo
  obtain ⟨i, n, c, a, rfl, hi, rfl, hn, hdg, A2⟩ := hrel
  have Ax := Hh hdg
  have HB := Hh A2
  have HN := Hh hn
  clear hdg A2 hn
  by_cases hlt : i < k4
  · have hne : ¬ 256 ^ i * p = 0 := fun h => by
     have h1 : 0 < 256 ^ i := Nat.pow_pos (by decide)
     have := Nat.mul_pos h1 HP.o.1
     omega
    obtain ⟨M, hM⟩ : ∃ M, M = 256 ^ i * p := ⟨_, rfl⟩
    have hM2 : 256 ^ (i + 1) * p = 256 * M := by rw [hM, Nat.pow_succ, Nat.mul_comm (256 ^ i) 256, Nat.mul_assoc]
    have hsh : digs (256 ^ (i + 1) * p) = 0 :: digs M := by rw [hM2]; exact digs_shift M (by rw [hM]; exact hne)
    have hdg := Ax.o
    have hnl := HN.o
    rw [← hM] at hdg hnl
    have hn0 : 0 < n := by
     rw [hnl]
     refine Nat.pos_of_ne_zero fun h => ?_
     have := (digs_len M 0).1 (by omega)
     rw [hM] at this
     have := hne
     omega
    have Bn : n ≤ 14 := by
     rw [hnl]
     refine len_small M 14 ?_
     have h1 : 256 ^ i ≤ 256 ^ 12 := Nat.pow_le_pow_right (by decide) (by have := Bb.o; have := HK.o; omega)
     have h2 := Nat.mul_le_mul h1 (Nat.le_of_lt HP.o.2)
     have h3 : 256 ^ 12 * 512 < 256 ^ 14 := by decide
     omega
    obtain ⟨sb, so, hA, hsb, -⟩ := hdg.at_ hn0
    subst hA
    have A7 : (wr.alloc (.cells #[.int .i64 0] 3)).ownsRow w.heap.size 3 1 (.slice (some ⟨wr.heap.size, 0, none⟩) 1 1) 1 [.int .i64 0] :=
     ⟨by decide, .inr ⟨wr.heap.size, 1, #[.int .i64 0], rfl, HB.o.size, heap_alloc_new wr _, Nat.le_refl _, by decide, rfl, rfl⟩⟩
    have Ap : Below wr.heap.size wr (wr.alloc (.cells #[.int .i64 0] 3)) := (Below.refl _ _).alloc (Nat.le_refl _) _
    have A8 := dig_src (hdg.below Ap)
    have Bg := Hh A8
    have Az := Hh A7
    have Be := Hh (show (icells (digs M)).length = n * 1 by rw [icells_length, ← hnl, Nat.mul_one])
    have Bw := Hh (show 1 + n ≤ maxLen by unfold maxLen; omega)
    have Bu := Hh (show (1 + n) * 8 ≤ 140737488355328 by omega)
    have Bp := Hh (show ∀ z, w.heap.size ≤ (wr.alloc (.cells z 3)).heap.size from fun z => by have := HB.o.size; simp; omega)
    have Br := Hh hsh
    have By := Hh hnl
    have Bd := Hh (And.intro hlt (show k4 - (i + 1) < k4 - i from Nat.sub_lt_sub_left hlt (Nat.lt_succ_self i)))
    have Bx := Hh hn0
    have hib : i < 4611686018427387904 := by have := Bb.o; have := HK.o; omega
    have hw4 := wrap64_succ i hib
    have HQ := Hh hw4
    clear hne hM2 hsh hdg hnl hn0 Bn hsb A7 Ap A8 hM hib
    go_wp2_with (at_builtin; refine wpList_append_lies _ rfl (.tmp 21) (.tmp 22) 63 rfl w.heap.size 3 ii (.int .i64 0) 1 8 Tryz.underlying63 his Bj Bk Bl rfl (by decide) _ 1 _ rfl Az.o ⟨sb, so, none⟩ n c (icells (digs M)) rfl Be.o Bg.o (icells_one _) Bx.o Bw.o Bu.o (Bp.o _) _ rfl ?_; intro g6 cap6 w6 Aq A3 Bh Bm)
    have Bc := Hh ((HB.o.alloc HB.o.size _).grown A3 (Bp.o _) (own_blk Az.o))
    have A0 := Hh Aq
    clear Aq A3 Bh Bm
    go_roundw
    case rel =>
     have hl : 1 + n = (0 :: digs M).length := by rw [List.length_cons, ← By.o]; omega
     have hd : ∃ a c, Value.slice (some ⟨g6, 0, none⟩) (1 + n) cap6 = .slice a (0 :: digs M).length c ∧ DigAt w6 a (0 :: digs M).length c (0 :: digs M) := by
       refine own_dig (base := w.heap.size) ?_
       rw [← hl]
       exact A0.o
     obtain ⟨a9, c9, e9, hd9⟩ := hd
     exact ⟨i + 1, _, _, _, by first | rfl | exact congrArg (Value.int .i64) HQ.o, Bd.o.1, by first | exact e9 | rfl, by rw [Br.o], by rw [Br.o]; exact hd9, Bc.o⟩
    case measure =>
     first | exact Bd.o.2 | (show k4 - (intOf (Value.int .i64 (wrap64 ((i : Int) + 1)))).toNat < _; rw [HQ.o]; exact Bd.o.2)
  · have hno : ¬ (i : Int) < (k4 : Int) := by omega
    obtain ⟨N, hN⟩ : ∃ N, N = p * 256 ^ (4 * k) := ⟨_, rfl⟩
    have hMN : 256 ^ i * p = N := by
     have e : i = 4 * k := by have := Bb.o; omega
     rw [hN, e, Nat.mul_comm]
    have hdg := Ax.o
    have hnl := HN.o
    rw [hMN] at hdg hnl
    have A9 : N < 137438953472 ^ k := by rw [hN]; exact root_top HP.o.2 HK.o
    have A6 : n ≤ 14 := by
     rw [hnl]
     refine len_small N 14 ?_
     have h1 : 256 ^ (4 * k) ≤ 256 ^ 12 := Nat.pow_le_pow_right (by decide) (by have := HK.o; omega)
     have h2 := Nat.mul_le_mul (Nat.le_of_lt HP.o.2) h1
     have h3 : 512 * 256 ^ 12 < 256 ^ 14 := by decide
     omega
    have hk0 : 0 < k := by have := HK.o; omega
    have HD := Hh hdg
    have Av := Hh (And.intro (show 0 ^ k ≤ N by rw [Nat.zero_pow hk0]; exact Nat.zero_le _) A9)
    have Am := Hh A6
    have Bt := Hh hN
    have Bs := Hh HB.o
    clear hMN hdg hnl A9 A6 hN hlt Ax HN HB
    go_wp2_with fail
    go_loopw [7, 8] (fun lv hv wy => ∃ (lo hi : Nat), lv = .int .u64 (lo : Int) ∧ hv = .int .u64 (hi : Int) ∧ lo < hi ∧ hi ≤ 137438953472 ∧ lo ^ k ≤ N ∧ N < hi ^ k ∧ Below wr.heap.size wr wy) (fun lv hv _ => (intOf hv).toNat - (intOf lv).toNat)
    case atStart => exact ⟨0, 137438953472, rfl, rfl, by decide, Nat.le_refl _, Av.o.1, Av.o.2, Below.refl _ _⟩
    case round =>
     clear Av
     obtain ⟨lo, hi, rfl, rfl, hl, hh, h1, h2, hb⟩ := hrel
     have Ao := Hh (And.intro hl (And.intro hh (And.intro h1 h2)))
     have HB := Hh hb
     clear h1 h2 hb
     obtain ⟨d, hd⟩ : ∃ d, d = hi - lo := ⟨_, rfl⟩
     obtain ⟨s, hs⟩ : ∃ s, s = lo + hi := ⟨_, rfl⟩
     obtain ⟨m, hm⟩ : ∃ m, m = s / 2 := ⟨_, rfl⟩
     by_cases hgo : 1 < d
     · have hgo' : (1 : Int) < (d : Int) := by omega
       have Al := Hh (show lo < m ∧ m < hi by omega)
       have Bq := Hh (show m ≤ 137438953472 by omega)
       have Ba := Hh (show hi - m < hi - lo ∧ m - lo < hi - lo by omega)
       have A4 : m < 18446744073709551616 := by omega
       have hm6 : (digs m).length ≤ 6 := len_small m 6 (by
            have : 256 ^ 6 = 281474976710656 := by decide
            omega)
       have hof := of_is wr m A4
       have Aj := Hh hof
       have Ak := Hh (show (digs m).length ≤ 1000 by omega)
       have hm5 : m < 256 ^ 5 := by
         have : 256 ^ 5 = 1099511627776 := by decide
         omega
       have hmm : m * m < 256 ^ 10 := by
         have h := Nat.mul_lt_mul'' hm5 hm5
         rwa [← Nat.pow_add] at h
       have A5 : m * m * m < 256 ^ 15 := by
         have h := Nat.mul_lt_mul'' hmm hm5
         rwa [← Nat.pow_add] at h
       have Bf := Hh (show (digs (m * m)).length ≤ 1000 by have := len_small (m * m) 10 hmm; omega)
       have Bv := Hh (show (digs (m * m * m)).length ≤ 1000000 by have := len_small (m * m * m) 15 A5; omega)
       obtain ⟨g1, g2, g3, g4, g5, g6, g7, g8⟩ := mid_facts hl hh hd hs hm
       clear hl hh hd hs hm hgo A4 hm6 hof hm5 hmm A5
       obtain ⟨P, hP⟩ : ∃ P, P = m ^ k := ⟨_, rfl⟩
       by_cases hk3 : k = 3
       · have hk3' : ((k : Int) == 3) = true := beq_iff_eq.2 (by omega)
         have Au := Hh (show m * m * m = P by rw [hP, hk3, Nat.pow_succ, Nat.pow_two])
         have A1 := Hh (show (digs P).length ≤ 1000000 by rw [← Au.o]; exact Bv.o)
         clear hk3
         by_cases hle : P ≤ N
         · have As := Hh hle
           have Ah := Hh (show m ^ k ≤ N by rw [← hP]; exact hle)
           clear hle hP
           go_wp2_with fail
           refine Aj.o.mono ?_
           rintro _ w2 ⟨⟨v2, rfl, hd2⟩, hb2⟩
           obtain ⟨a2, c2, rfl, hx2⟩ := hd2
           have Ad := mul_is w2 a2 (digs m).length c2 m a2 (digs m).length c2 m hx2 hx2 Ak.o Ak.o
           have Ac := Hh Ad
           have An := Hh hx2
           have Ai := Hh (HB.o.trans (hb2.mono HB.o.size))
           clear hb2 hx2 Ad Aj
           go_wp2_with fail
           refine Ac.o.mono ?_
           rintro _ w3 ⟨⟨v3, rfl, hd3⟩, hb3⟩
           obtain ⟨a3, c3, rfl, hx3⟩ := hd3
           have Af := mul_is w3 a3 (digs (m * m)).length c3 (m * m) a2 (digs m).length c2 m hx3 (An.o.below hb3) Bf.o Ak.o
           have Ae := Hh Af
           have Ay := Hh (Ai.o.trans (hb3.mono Ai.o.size))
           clear hb3 hx3 Af Ac An
           go_wp2_with fail
           refine Ae.o.mono ?_
           rintro _ w4 ⟨⟨v4, rfl, hd4⟩, hb4⟩
           obtain ⟨a4, c4, rfl, hx4⟩ := hd4
           rw [Au.o] at hx4 ⊢
           have Ag := Hh (Ay.o.trans (hb4.mono Ay.o.size))
           have Aa := cmp_is w4 a4 (digs P).length c4 P a n c N hx4 (HD.o.below Ag.o) A1.o (by have := Am.o; omega)
           clear hb4 hx4 Ae
           obtain ⟨z, hz⟩ : ∃ z, z = cmpN P N := ⟨_, rfl⟩
           rw [← hz] at Aa
           have Ab := Hh Aa
           have hzl : z ≤ 0 := by rw [hz, cmp_le]; exact As.o
           clear Aa hz
           go_wp2_with fail
           refine Ab.o.mono ?_
           rintro _ w5 ⟨rfl, hb5⟩
           have Ar := Hh (Ag.o.trans (hb5.mono Ag.o.size))
           clear hb5 Ab
           go_wp2
           go_roundw
           case rel => exact ⟨m, hi, rfl, rfl, Al.o.2, Ao.o.2.1, Ah.o, Ao.o.2.2.2, Ar.o⟩
           case measure => exact Ba.o.1
         · have As := Hh hle
           have Ah := Hh (show N < m ^ k by rw [← hP]; omega)
           clear hle hP
           go_wp2_with fail
           refine Aj.o.mono ?_
           rintro _ w2 ⟨⟨v2, rfl, hd2⟩, hb2⟩
           obtain ⟨a2, c2, rfl, hx2⟩ := hd2
           have Ad := mul_is w2 a2 (digs m).length c2 m a2 (digs m).length c2 m hx2 hx2 Ak.o Ak.o
           have Ac := Hh Ad
           have An := Hh hx2
           have Ai := Hh (HB.o.trans (hb2.mono HB.o.size))
           clear hb2 hx2 Ad Aj
           go_wp2_with fail
           refine Ac.o.mono ?_
           rintro _ w3 ⟨⟨v3, rfl, hd3⟩, hb3⟩
           obtain ⟨a3, c3, rfl, hx3⟩ := hd3
           have Af := mul_is w3 a3 (digs (m * m)).length c3 (m * m) a2 (digs m).length c2 m hx3 (An.o.below hb3) Bf.o Ak.o
           have Ae := Hh Af
           have Ay := Hh (Ai.o.trans (hb3.mono Ai.o.size))
           clear hb3 hx3 Af Ac An
           go_wp2_with fail
           refine Ae.o.mono ?_
           rintro _ w4 ⟨⟨v4, rfl, hd4⟩, hb4⟩
           obtain ⟨a4, c4, rfl, hx4⟩ := hd4
           rw [Au.o] at hx4 ⊢
           have Ag := Hh (Ay.o.trans (hb4.mono Ay.o.size))
           have Aa := cmp_is w4 a4 (digs P).length c4 P a n c N hx4 (HD.o.below Ag.o) A1.o (by have := Am.o; omega)
           clear hb4 hx4 Ae
           obtain ⟨z, hz⟩ : ∃ z, z = cmpN P N := ⟨_, rfl⟩
           rw [← hz] at Aa
           have Ab := Hh Aa
           have hzl : ¬ z ≤ 0 := by rw [hz, cmp_le]; exact As.o
           clear Aa hz
           go_wp2_with fail
           refine Ab.o.mono ?_
           rintro _ w5 ⟨rfl, hb5⟩
           have Ar := Hh (Ag.o.trans (hb5.mono Ag.o.size))
           clear hb5 Ab
           go_wp2
           go_roundw
           case rel => exact ⟨lo, m, rfl, rfl, Al.o.1, Bq.o, Ao.o.2.2.1, Ah.o, Ar.o⟩
           case measure => exact Ba.o.2
       · have hk3' : ¬ (k : Int) = 3 := by omega
         have Au := Hh (show m * m = P by
           have : k = 2 := by have := HK.o; omega
           rw [hP, this, Nat.pow_two])
         have A1 := Hh (show (digs P).length ≤ 1000000 by rw [← Au.o]; have := Bf.o; omega)
         clear hk3
         by_cases hle : P ≤ N
         · have As := Hh hle
           have Ah := Hh (show m ^ k ≤ N by rw [← hP]; exact hle)
           clear hle hP
           go_wp2_with fail
           refine Aj.o.mono ?_
           rintro _ w2 ⟨⟨v2, rfl, hd2⟩, hb2⟩
           obtain ⟨a2, c2, rfl, hx2⟩ := hd2
           have Ad := mul_is w2 a2 (digs m).length c2 m a2 (digs m).length c2 m hx2 hx2 Ak.o Ak.o
           have Ac := Hh Ad
           have An := Hh hx2
           have Ai := Hh (HB.o.trans (hb2.mono HB.o.size))
           clear hb2 hx2 Ad Aj
           go_wp2_with fail
           refine Ac.o.mono ?_
           rintro _ w3 ⟨⟨v3, rfl, hd3⟩, hb3⟩
           obtain ⟨a3, c3, rfl, hx3⟩ := hd3
           rw [Au.o] at hx3 ⊢
           have Ag := Hh (Ai.o.trans (hb3.mono Ai.o.size))
           have Aa := cmp_is w3 a3 (digs P).length c3 P a n c N hx3 (HD.o.below Ag.o) A1.o (by have := Am.o; omega)
           clear hb3 hx3 Ac An
           obtain ⟨z, hz⟩ : ∃ z, z = cmpN P N := ⟨_, rfl⟩
           rw [← hz] at Aa
           have Ab := Hh Aa
           have hzl : z ≤ 0 := by rw [hz, cmp_le]; exact As.o
           clear Aa hz
           go_wp2_with fail
           refine Ab.o.mono ?_
           rintro _ w5 ⟨rfl, hb5⟩
           have Ar := Hh (Ag.o.trans (hb5.mono Ag.o.size))
           clear hb5 Ab
           go_wp2
           go_roundw
           case rel => exact ⟨m, hi, rfl, rfl, Al.o.2, Ao.o.2.1, Ah.o, Ao.o.2.2.2, Ar.o⟩
           case measure => exact Ba.o.1
         · have As := Hh hle
           have Ah := Hh (show N < m ^ k by rw [← hP]; omega)
           clear hle hP
           go_wp2_with fail
           refine Aj.o.mono ?_
           rintro _ w2 ⟨⟨v2, rfl, hd2⟩, hb2⟩
           obtain ⟨a2, c2, rfl, hx2⟩ := hd2
           have Ad := mul_is w2 a2 (digs m).length c2 m a2 (digs m).length c2 m hx2 hx2 Ak.o Ak.o
           have Ac := Hh Ad
           have An := Hh hx2
           have Ai := Hh (HB.o.trans (hb2.mono HB.o.size))
           clear hb2 hx2 Ad Aj
           go_wp2_with fail
           refine Ac.o.mono ?_
           rintro _ w3 ⟨⟨v3, rfl, hd3⟩, hb3⟩
           obtain ⟨a3, c3, rfl, hx3⟩ := hd3
           rw [Au.o] at hx3 ⊢
           have Ag := Hh (Ai.o.trans (hb3.mono Ai.o.size))
           have Aa := cmp_is w3 a3 (digs P).length c3 P a n c N hx3 (HD.o.below Ag.o) A1.o (by have := Am.o; omega)
           clear hb3 hx3 Ac An
           obtain ⟨z, hz⟩ : ∃ z, z = cmpN P N := ⟨_, rfl⟩
           rw [← hz] at Aa
           have Ab := Hh Aa
           have hzl : ¬ z ≤ 0 := by rw [hz, cmp_le]; exact As.o
           clear Aa hz
           go_wp2_with fail
           refine Ab.o.mono ?_
           rintro _ w5 ⟨rfl, hb5⟩
           have Ar := Hh (Ag.o.trans (hb5.mono Ag.o.size))
           clear hb5 Ab
           go_wp2
           go_roundw
           case rel => exact ⟨lo, m, rfl, rfl, Al.o.1, Bq.o, Ao.o.2.2.1, Ah.o, Ar.o⟩
           case measure => exact Ba.o.2
     · have hgo' : ¬ (1 : Int) < (d : Int) := by omega
       have HR := Hh (show RootIs k N lo from ⟨Ao.o.2.2.1, by
         have e : lo + 1 = hi := by omega
         rw [e]; exact Ao.o.2.2.2⟩)
       obtain ⟨g1, g2, -, -, -, -, -, -⟩ := mid_facts hl hh hd hs hm
       obtain ⟨r, hr⟩ : ∃ r, r = lo % 4294967296 := ⟨_, rfl⟩
       obtain ⟨q1, q2, q3, q4, q5, q6⟩ := rest_facts hr
       have ER := Hh hr
       clear hl hh hd hs hm hgo hr
       go_wp2
       go_ret
       exact ⟨⟨lo, by show Ending.returned (Value.int .u32 (r : Int)) = _; rw [ER.o]; congr 2, by rw [← Bt.o]; exact HR.o⟩, Bs.o.trans (HB.o.mono Bs.o.size)⟩

/- The walk of the reference's tables. -/

def ucells (l : List Nat) : List Value := l.map fun (n : Nat) => Value.int .u32 (n : Int)
def tabL : List Value := ucells ss8 ++ ucells ks64
theorem tab_len : tabL.length = 72 := by kernel_rfl
theorem tab_one : tabL.toArray.all (·.oneCell') = true := by kernel_rfl
theorem ucells_get (l : List Nat) (i : Nat) (h : i < l.length) : (ucells l)[i]? = some (.int .u32 (l.getD i 0 : Nat)) := by simp [ucells, h]
theorem ss8_len : ss8.length = 8 := by decide
theorem ks64_len : ks64.length = 64 := by decide
theorem p64_len : primes64.length = 64 := by decide
theorem zero_tab : ∃ Z : Array Value, (∀ w, (Instr.build 56 #[]).run Tryz.prog w = .ok (.agg Z) w) ∧ (∀ w, (zeroValue 56).run Tryz.prog w = .ok (.agg Z) w) ∧ Z.size = 72 ∧ ¬ Z = #[] ∧ Z.all (·.oneCell') = true ∧ ∀ (i : Nat) v, Z[i]? = some v → v = .int .u32 0 := by
 have hs : (List.replicate 72 (Value.int .u32 0)).toArray.size = 72 := by kernel_rfl
 exact ⟨_, fun w => by kernel_rfl, fun w => by kernel_rfl, hs, (fun e => by rw [e] at hs; cases hs), by kernel_rfl, fun i v h => by rw [List.getElem?_toArray, List.getElem?_replicate] at h; split at h; (injection h with h; exact h.symm); cases h⟩
theorem p64_small (i : Nat) (h : i < 64) : 0 < primes64.getD i 0 ∧ primes64.getD i 0 < 512 := by
 have hg : primes64[i]? = some (primes64.getD i 0) := by
  rw [List.getD_eq_getElem?_getD, List.getElem?_eq_getElem (by rw [p64_len]; exact h)]; rfl
 have := primes_pos 312 _ (by rw [primes_full]; exact List.mem_of_getElem? hg)
 omega
structure TabAt (w : World) (B i : Nat) : Prop where
 ex : ∃ cs, Has w B 56 cs ∧ cs.size = 72 ∧ (∀ j, j < i → cs[8 + j]? = some (.int .u32 (ks64.getD j 0 : Nat))) ∧ ∀ j, j < i → j < 8 → cs[j]? = some (.int .u32 (ss8.getD j 0 : Nat))
theorem TabAt.kept {S : Nat → Prop} {w w' : World} {B i : Nat} (h : TabAt w B i) (hk : Kept S w w') (hs : ¬ S B) : TabAt w' B i := by
 obtain ⟨cs, h1, h2⟩ := h.ex
 exact ⟨cs, h1.kept hk hs, h2⟩
theorem TabAt.setK {w : World} {B i : Nat} (h : TabAt w B i) (hi : i < 64) : ∃ cs, Has (w.setCell ⟨B, 8 + i, none⟩ (.int .u32 ((ks64.getD i 0 : Nat) : Int))) B 56 cs ∧ cs.size = 72 ∧ (∀ j, j < i + 1 → cs[8 + j]? = some (.int .u32 (ks64.getD j 0 : Nat))) ∧ ∀ j, j < i → j < 8 → cs[j]? = some (.int .u32 (ss8.getD j 0 : Nat)) := by
 obtain ⟨cs, h1, h2, h3, h4⟩ := h.ex
 refine ⟨_, h1.set (8 + i) _, by simp [h2], fun j hj => ?_, fun j hj h8 => ?_⟩
 · by_cases e : j = i
   · rw [e, Array.getElem?_setIfInBounds_self_of_lt (by omega)]
   · rw [Array.getElem?_setIfInBounds_ne (by omega)]
     exact h3 j (by omega)
 · rw [Array.getElem?_setIfInBounds_ne (by omega)]
   exact h4 j hj h8
theorem tab_cell {w : World} {B o : Nat} {cs : Array Value} (h : Has w B 56 cs) (hs : cs.size = 72) (ho : o < 72) : (∃ v, w.cell? ⟨B, o, none⟩ = some v) ∧ w.frozen? ⟨B, o, none⟩ = false :=
 ⟨⟨cs[o]'(by omega), h.cell_is (Array.getElem?_eq_getElem (by omega))⟩, h.free _⟩
theorem root_3 (w : World) (i : Nat) (hi : i < 64) : Calls Tryz.prog 57 #[.int .i64 (primes64.getD i 0 : Nat), .int .i64 3] w fun e w' => e = .returned (.int .u32 (ks64.getD i 0 : Nat)) ∧ Below w.heap.size w w' := by
 obtain ⟨h1, h2⟩ := p64_small i hi
 refine (root_is w (primes64.getD i 0) 3 h1 h2 (.inr rfl)).mono fun e w' ⟨⟨r, hr, hrt⟩, hb⟩ => ⟨?_, hb⟩
 rw [hr]
 have e1 := root_k hi hrt
 congr 2
 omega
theorem root_2 (w : World) (i : Nat) (hi : i < 8) : Calls Tryz.prog 57 #[.int .i64 (primes64.getD i 0 : Nat), .int .i64 2] w fun e w' => e = .returned (.int .u32 (ss8.getD i 0 : Nat)) ∧ Below w.heap.size w w' := by
 obtain ⟨h1, h2⟩ := p64_small i (by omega)
 refine (root_is w (primes64.getD i 0) 2 h1 h2 (.inl rfl)).mono fun e w' ⟨⟨r, hr, hrt⟩, hb⟩ => ⟨?_, hb⟩
 rw [hr]
 have e1 := root_s hi hrt
 congr 2
 omega
set_option maxRecDepth 100000 in
set_option maxHeartbeats 4000000 in
theorem make_is (w : World) : Calls Tryz.prog 19 #[] w fun e w' => e = .returned (.agg tabL.toArray) ∧ Below w.heap.size w w' := by
 obtain ⟨Z, hbd, hzv, hZs, hZn, hZo, hZ0⟩ := zero_tab
 have s1 : ∀ (x : World) o, (x.alloc o).heap.size = x.heap.size + 1 := fun x o => by simp
 have b0 := (Has.new w 56 Z).alloc (.cells Z 56)
 have b1 := Has.new (w.alloc (.cells Z 56)) 56 Z
 rw [s1] at b1
 have As : ((w.alloc (.cells Z 56)).alloc (.cells Z 56)).setRow (w.heap.size + 1) Z = (w.alloc (.cells Z 56)).alloc (.cells Z 56) := by
  have := World.setRow_alloc_new (w.alloc (.cells Z 56)) Z Z 56
  rw [s1] at this
  exact this
 have Aq := ((Below.refl w.heap.size w).alloc (Nat.le_refl _) (.cells Z 56)).alloc (by rw [s1]; omega) (.cells Z 56)
 have A2 := Hh hbd
 have Ag := Hh b1
 have An := Hh b0
 have Ao := Hh As
 have Ae := Hh Aq
 have EZ := Hh hZs
 have SZ := Hh (show (Tryz.prog.info? 56).map (·.size) = some Z.size by rw [hZs]; kernel_rfl)
 have Bd := Hh hZo
 clear hbd b0 b1 As Aq hZs hZo s1
 go_enter Tryz.func19, Tryz.ntmps19
 go_upto_region 2 with (first
  | (refine wpList_build_run (by kernel_rfl) 56 _ rfl #[] (by kernel_rfl) (.agg Z) (A2.o _) ?_)
  | (refine wpList_store_row rfl 56 (.tmp 1) (.tmp 4) rfl (w.heap.size + 1) Z rfl rfl 56 Z Ag.o SZ.o rfl Bd.o ?_))
 rw [Ao.o]
 generalize (w.alloc (.cells Z 56)).alloc (.cells Z 56) = W0 at An Ag Ae ⊢
 clear Ao A2
 have hpr := primes_is W0
 have A4 := Hh hpr
 clear hpr
 obtain ⟨B0, hB0⟩ : ∃ B, B = w.heap.size := ⟨_, rfl⟩
 obtain ⟨B1, hB1⟩ : ∃ B, B = w.heap.size + 1 := ⟨_, rfl⟩
 rw [← hB1] at Ag ⊢
 rw [← hB0] at An ⊢
 have EB := Hh (And.intro hB0 hB1)
 clear hB0 hB1
 go_wp2_with fail
 refine A4.o.mono ?_
 rintro _ w1 ⟨⟨v', rfl, hd⟩, hb1⟩
 obtain ⟨a, c, rfl, hdg⟩ := hd
 rw [p64_len] at hdg ⊢
 obtain ⟨sb, so, hA, hsb, hcl⟩ := hdg.at_ (by decide)
 subst hA
 have Ah : sb ≠ B1 := fun e => by
  have h1 := hcl 0 (by decide)
  have h2 := Ag.o.below hb1 Ag.o.lt
  rw [e, h2.cell] at h1
  have h3 := hZ0 _ _ h1
  cases h3
 have A6 := Hh Ah
 obtain ⟨n64, Ak⟩ : ∃ n, n = 64 := ⟨64, rfl⟩
 rw [← Ak] at hdg ⊢
 have EN := Hh Ak
 have HD := Hh hdg
 have A7 := Hh (show TabAt w1 B1 0 from ⟨Z, Ag.o.below hb1 Ag.o.lt, EZ.o, fun j hj => absurd hj (Nat.not_lt_zero j), fun j hj => absurd hj (Nat.not_lt_zero j)⟩)
 have Aj := Hh (An.o.below hb1 An.o.lt)
 have Ad := Hh (Ae.o.trans (hb1.mono Ae.o.size))
 clear hdg hsb hcl Ah hZ0 hb1 Ak A4 An Ag Ae
 go_wp2_with fail
 go_loopw [7] (fun v wr => ∃ (i : Nat), v = .int .i64 (i : Int) ∧ i ≤ 64 ∧ TabAt wr B1 i ∧ Has wr B0 56 Z ∧ Below w.heap.size w wr ∧ DigAt wr (some ⟨sb, so, none⟩) n64 c primes64) (fun v _ => 64 - (intOf v).toNat)
 case atStart => exact ⟨0, rfl, Nat.zero_le _, A7.o, Aj.o, Ad.o, HD.o⟩
 case round =>
  clear A7 Aj Ad HD
  obtain ⟨i, rfl, hi, ht, hr0, hbe, hdg⟩ := hrel
  have Az := Hh ht
  have Aj := Hh hr0
  have Ad := Hh hbe
  have HD := Hh hdg
  clear ht hr0 hbe hdg
  by_cases hlt : i < 64
  · obtain ⟨_, _, e0, _, hcl⟩ := HD.o.at_ (by rw [EN.o]; decide)
    injection e0 with e0
    injection e0 with e1 e2 _
    subst e1 e2
    have hn : i < n64 := by rw [EN.o]; exact hlt
    have hc0 := hcl i hn
    have hat := at_int sb so n64 c i hn
    have Ac := root_3 wr i hlt
    have Ab : i < 8 → ∀ v, Calls Tryz.prog 57 #[.int .i64 (primes64.getD i 0 : Nat), .int .i64 2] v fun e w' => e = .returned (.int .u32 (ss8.getD i 0 : Nat)) ∧ Below v.heap.size v w' := fun h v => root_2 v i h
    obtain ⟨p, hp⟩ : ∃ p, p = primes64.getD i 0 := ⟨_, rfl⟩
    rw [← hp] at hc0 Ac Ab
    obtain ⟨kk, hkk⟩ : ∃ x, x = ks64.getD i 0 := ⟨_, rfl⟩
    obtain ⟨sk, hsk⟩ : ∃ x, x = ss8.getD i 0 := ⟨_, rfl⟩
    rw [← hkk] at Ac
    rw [← hsk] at Ab
    have EK := Hh hkk
    have ES := Hh hsk
    have A5 := Hh Ac
    have Ay := Hh Ab
    have hlt' : (i : Int) < (n64 : Int) := by omega
    have hlt2 : (i : Int) < 64 := by omega
    have Au := Hh (show w.heap.size ≤ B0 ∧ B0 < B1 ∧ w.heap.size ≤ B1 by have := EB.o; omega)
    have Al := Hh (And.intro (show i + 1 ≤ 64 from hlt) (show 64 - (i + 1) < 64 - i from Nat.sub_lt_sub_left hlt (Nat.lt_succ_self i)))
    have Aw := Hh hlt
    have hib : i < 4611686018427387904 := by omega
    have hw4 := wrap64_succ i hib
    have HQ := Hh hw4
    clear hcl hn Ac Ab hp hkk hsk hlt hib
    go_wp2_with fail
    refine A5.o.mono ?_
    rintro _ w2 ⟨rfl, hb2⟩
    obtain ⟨cs0, hc1, hc2, -⟩ := (Az.o.kept (Kept.of_below (S := fun _ => False) hb2) (fun h => h)).ex
    obtain ⟨⟨v0, hv0⟩, hf0⟩ := tab_cell hc1 hc2 (show 8 + i < 72 by have := Aw.o; omega)
    have Aa := (Az.o.kept (Kept.of_below (S := fun _ => False) hb2) (fun h => h)).setK Aw.o
    rw [← EK.o] at Aa
    have hk3 : Kept (· = B1) wr (w2.setCell ⟨B1, 8 + i, none⟩ (.int .u32 (kk : Int))) := ((Kept.of_below (S := fun k => k = B1) hb2)).set (p := ⟨B1, 8 + i, none⟩) (.inl rfl) _
    have Af := Hh Aa
    have Am := Hh hk3
    clear hb2 hc1 hc2 Aa hk3 A5
    by_cases h8 : i < 8
    · have h8' : (i : Int) < 8 := by omega
      have Ap := Hh (Ay.o h8)
      have H8 := Hh h8
      clear h8
      go_upto_region 6 with (fail)
      clear hv0 hf0
      have Aa := Af.o
      have hk3 := Am.o
      clear Af Am
      generalize w2.setCell ⟨B1, 8 + i, none⟩ (.int .u32 (kk : Int)) = W3 at Aa hk3 ⊢
      obtain ⟨cs3, q1, q2, q3, q4⟩ := Aa
      have Av := Hh (And.intro q1 (And.intro q2 (And.intro q3 q4)))
      have Am := Hh hk3
      clear q1 q2 q3 q4 hk3
      go_wp2_with fail
      refine (Ap.o _).mono ?_
      rintro _ w4 ⟨rfl, hb4⟩
      have hc4 := Av.o.1.below hb4 Av.o.1.lt
      obtain ⟨⟨v0, hv0⟩, hf0⟩ := tab_cell hc4 Av.o.2.1 (show i < 72 by have := Aw.o; omega)
      have hk5 : Kept (· = B1) wr (w4.setCell ⟨B1, i, none⟩ (.int .u32 (sk : Int))) := (Am.o.trans (Kept.of_below (S := fun k => k = B1) hb4)).set (p := ⟨B1, i, none⟩) (.inl rfl) _
      have ht5 : TabAt (w4.setCell ⟨B1, i, none⟩ (.int .u32 (sk : Int))) B1 (i + 1) := by
        obtain ⟨q1, q2, q3, q4⟩ := Av.o
        have hi64 := Aw.o
        refine ⟨_, hc4.set i _, by simp [q2], fun j hj => ?_, fun j hj h8 => ?_⟩
        · rw [Array.getElem?_setIfInBounds_ne (by have := H8.o; omega)]
          exact q3 j hj
        · by_cases e : j = i
          · rw [e, Array.getElem?_setIfInBounds_self_of_lt (by omega), ← ES.o]
          · rw [Array.getElem?_setIfInBounds_ne (by omega)]
            exact q4 j (by omega) h8
      have A8 := Hh ht5
      have A3 := Hh hk5
      clear hb4 hc4 hk5 ht5 Ap
      go_wp2
      have ht5 := A8.o
      have hk5 := A3.o
      clear hv0 hf0 A8 A3
      generalize w4.setCell ⟨B1, i, none⟩ (.int .u32 (sk : Int)) = W5 at ht5 hk5 ⊢
      have Ai := Hh (show TabAt W5 B1 (i + 1) ∧ Has W5 B0 56 Z ∧ Below w.heap.size w W5 ∧ DigAt W5 (some ⟨sb, so, none⟩) n64 c primes64 from
        ⟨ht5, Aj.o.kept hk5 (by have := Au.o; omega), Ad.o.trans (hk5.below Ad.o.size (fun j e => by have e' : j = B1 := e; have := Au.o; omega)), HD.o.kept hk5 (fun b o e e' => by injection e with e; injection e with e1; exact A6.o (e1.trans e'))⟩)
      go_roundw
      case rel => exact ⟨i + 1, by first | rfl | exact congrArg (Value.int .i64) HQ.o, Al.o.1, Ai.o⟩
      case measure =>
        first | exact Al.o.2 | (show 64 - (intOf (Value.int .i64 (wrap64 ((i : Int) + 1)))).toNat < _; rw [HQ.o]; exact Al.o.2)
    · have h8' : ¬ (i : Int) < 8 := by omega
      have H8 := Hh h8
      clear h8
      go_upto_region 6 with (fail)
      clear hv0 hf0
      have Aa := Af.o
      have hk3 := Am.o
      clear Af Am
      generalize w2.setCell ⟨B1, 8 + i, none⟩ (.int .u32 (kk : Int)) = W5 at Aa hk3 ⊢
      have Ai := Hh (show TabAt W5 B1 (i + 1) ∧ Has W5 B0 56 Z ∧ Below w.heap.size w W5 ∧ DigAt W5 (some ⟨sb, so, none⟩) n64 c primes64 from by
        obtain ⟨cs3, q1, q2, q3, q4⟩ := Aa
        exact ⟨⟨cs3, q1, q2, q3, fun j hj h8 => q4 j (by have := H8.o; omega) h8⟩, Aj.o.kept hk3 (by have := Au.o; omega), Ad.o.trans (hk3.below Ad.o.size (fun j e => by have e' : j = B1 := e; have := Au.o; omega)), HD.o.kept hk3 (fun b o e e' => by injection e with e; injection e with e1; exact A6.o (e1.trans e'))⟩)
      clear Aa hk3
      go_wp2
      go_roundw
      case rel => exact ⟨i + 1, by first | rfl | exact congrArg (Value.int .i64) HQ.o, Al.o.1, Ai.o⟩
      case measure =>
        first | exact Al.o.2 | (show 64 - (intOf (Value.int .i64 (wrap64 ((i : Int) + 1)))).toNat < _; rw [HQ.o]; exact Al.o.2)
  · have hno : ¬ (i : Int) < (n64 : Int) := by have := EN.o; omega
    obtain ⟨cs, q1, q2, q3, q4⟩ := Az.o.ex
    have ecs : cs = tabL.toArray := by
      apply Array.toList_inj.1
      apply List.ext_getElem?
      intro j
      rw [Array.getElem?_toList]
      have h64 : i = 64 := by omega
      have l8 : (ucells ss8).length = 8 := by decide
      have l64 : (ucells ks64).length = 64 := by decide
      rcases Nat.lt_or_ge j 72 with hj | hj
      · show _ = tabL[j]?
        unfold tabL
        rcases Nat.lt_or_ge j 8 with h8 | h8
        · rw [q4 j (by omega) h8, List.getElem?_append_left (by omega), ucells_get ss8 j (by rw [ss8_len]; exact h8)]
        · have := q3 (j - 8) (by omega)
          rw [show 8 + (j - 8) = j by omega] at this
          rw [this, List.getElem?_append_right (by omega), l8, ucells_get ks64 (j - 8) (by rw [ks64_len]; omega)]
      · rw [Array.getElem?_eq_none (by omega), List.getElem?_eq_none (by show tabL.length ≤ j; rw [tab_len]; exact hj)]
    rw [ecs] at q1
    obtain ⟨LT, hLT⟩ : ∃ L, L = tabL.toArray := ⟨_, rfl⟩
    rw [← hLT] at q1
    have lt : LT.size = 72 := by rw [hLT, List.size_toArray, tab_len]
    have A1 := Hh (show (Tryz.prog.info? 56).map (·.size) = some LT.size by rw [lt]; kernel_rfl)
    have A0 := Hh (show LT.all (·.oneCell') = true by rw [hLT]; exact tab_one)
    have Bb := Hh (show Z.size = LT.size by rw [lt, EZ.o])
    have Ar : Has (wr.setRow B0 LT) B0 56 LT := Aj.o.setRow
    have hbf : Below w.heap.size w (wr.setRow B0 LT) := Ad.o.trans ((kept_setRow (g := B0) wr LT).below Ad.o.size (fun j e => by have e' : j = B0 := e; have := EB.o; omega))
    have Bc := Hh q1
    have Ax := Hh Ar
    have Ba := Hh hbf
    have A9 := Hh hLT
    clear q1 q2 q3 q4 ecs lt Ar hbf hLT hlt
    go_wp2_with (first
      | (refine wpList_load_row rfl 56 (.tmp 1) rfl B1 rfl 56 LT (0, 0) _ Bc.o Tryz.underlying56 rfl A1.o ?_)
      | (refine wpList_store_row rfl 56 (.tmp 0) (.tmp 25) rfl B0 LT rfl rfl 56 Z Aj.o A1.o Bb.o A0.o ?_))
    refine bodyPost_ret (results_cell_row rfl _ _ B0 56 LT (0, 0) _ rfl Ax.o Tryz.underlying56 rfl A1.o) rfl ?_
    exact ⟨by rw [A9.o], Ba.o⟩
end Go.Proofs.YtknfbccbdiidjaaGreatDoor
