/- The walk of the reference's primes. -/
import Derived.Test.YtngmpcmeebcdmaaDoorNum4
import Derived.Test.YtngmpcmeebcdmaaDoorRef0
namespace Go.Proofs.YtngmpcmeebcdmaaDoor
set_option linter.unusedVariables false
set_option linter.unusedSimpArgs false
open Go.ChangeShapes Go.WideShapes Go.ChangeAt Go.RowKit Go.Maps

theorem at_int (b o n c k : Nat) (hk : k < n) (w : World) : (Instr.indexAt 35 (.slice (some ⟨b, o, none⟩) n c) (.int .i64 (k : Int))).run Tryd.prog w = .ok (.pointer (some ⟨b, o + k, none⟩)) w := by
  have hu : Tryd.prog.underlying 35 = some (.slice (Tryd.prog.elem 35)) := by kernel_rfl
  have he : Tryd.prog.elem 35 = 3 := by kernel_rfl
  rw [run_indexAt_slice w 35 ⟨b, o, none⟩ n c .i64 (k : Int) hu, if_pos ⟨by omega, by omega⟩, he, size_int]
  simp only [Result.andThen, Int.toNat_natCast, Nat.mul_one, Addr.add_mid]
theorem own_cell {w : World} {base : Nat} {v : Value} {ds : List Nat} (h : w.ownsRow base 3 1 v ds.length (icells ds)) (j : Nat) (hj : j < ds.length) : ∃ g cap, v = .slice (some ⟨g, 0, none⟩) ds.length cap ∧ base ≤ g ∧ w.cell? ⟨g, j, none⟩ = some (.int .i64 (ds.getD j 0 : Nat)) := by
  obtain ⟨g, cap, cur, rfl, hB, hh, h1, h2, h3, h4⟩ := own_open h (by omega)
  refine ⟨g, cap, rfl, hB, hh.cell_is ?_⟩
  rw [h4 j (by omega)]
  exact icells_get ds j hj
set_option maxRecDepth 100000 in
set_option maxHeartbeats 4000000 in
theorem primes_is (w : World) : Calls Tryd.prog 61 #[.int .i64 64] w fun e w' => (∃ v', e = .returned v' ∧ IsD w' v' primes64) ∧ Below w.heap.size w w' := by
  obtain ⟨ii, his, his0, his1, his2⟩ := info_parts info_int
  obtain ⟨n64, hn64⟩ : ∃ n : Int, n = 64 := ⟨64, rfl⟩
  rw [← hn64]
  have EN := Lib.hid hn64
  have hmade : (w.alloc (.cells #[] 3)).ownsRow w.heap.size 3 1 (.slice (some ⟨w.heap.size, 0, none⟩) 0 0) 0 (icells []) := World.ownsRow_made w #[] 0 (Nat.le_refl _) (by decide) rfl
  have HMADE := Lib.hid hmade
  clear hmade hn64
  go_enter Tryd.func61, Tryd.ntmps61
  go_wp2_with fail
  go_loopw [3, 4] (fun ov xv wr => ∃ (X : Nat), xv = .int .i64 (X : Int) ∧ 2 ≤ X ∧ X ≤ 312 ∧ (∃ oa on oc, ov = .slice oa on oc) ∧ wr.ownsRow w.heap.size 3 1 ov (primesTo X).length (icells (primesTo X)) ∧ Below w.heap.size w wr) (fun _ xv _ => 1000 - (intOf xv).toNat)
  case atStart => exact ⟨2, rfl, Nat.le_refl _, by omega, ⟨_, _, _, rfl⟩, HMADE.out, (Below.refl _ _).alloc (Nat.le_refl _) _⟩
  case round =>
    obtain ⟨X, rfl, hx2, hx3, ⟨oa, on, oc, rfl⟩, hown, hbel⟩ := hrel
    clear HMADE
    have hon : on = (primesTo X).length := by
      rcases hown.2 with ⟨e, h0⟩ | ⟨g, cap, cur, e, _⟩
      · injection e with e1 e2 e3; omega
      · injection e with e1 e2 e3
    have HON := Lib.hid hon
    have HOWN := Lib.hid hown
    have HBEL := Lib.hid hbel
    have HX := Lib.hid (And.intro hx2 hx3)
    clear hown hbel hon
    by_cases hgo : on < 64
    · have hgo' : (on : Int) < n64 := by have := EN.out; omega
      have hX311 : X ≤ 311 := by
        refine Nat.le_of_not_lt fun hc => ?_
        have e : X = 312 := by omega
        have := HON.out
        rw [e, primes_full] at this
        have e2 : primes64.length = 64 := by decide
        omega
      have H311 := Lib.hid hX311
      have HG64 := Lib.hid hgo
      clear hX311 hgo hx2 hx3
      go_wp2_with fail
      go_loopw [5, 17] (fun okv jv wy => ∃ (j : Nat), jv = .int .i64 (j : Int) ∧ j ≤ on ∧ okv = .bool (((primesTo X).take j).all (fun p => decide (¬ X % p = 0))) ∧ wy = wr) (fun _ jv _ => on - (intOf jv).toNat)
      case atStart => exact ⟨0, rfl, Nat.zero_le _, rfl, rfl⟩
      case round =>
        obtain ⟨j, rfl, hj, rfl, rfl⟩ := hrel
        by_cases hjl : j < on
        · obtain ⟨g, cap, e, hB, hc⟩ := own_cell HOWN.out j (by rw [← HON.out]; exact hjl)
          have hon := HON.out
          obtain ⟨p, hp⟩ : ∃ p, p = (primesTo X).getD j 0 := ⟨_, rfl⟩
          rw [← hp] at hc
          injection e with e1 e2 e3
          subst e1
          have hat : ∀ w, (Instr.indexAt 35 (.slice (some ⟨g, 0, none⟩) on oc) (.int .i64 (j : Int))).run Tryd.prog w = .ok (.pointer (some ⟨g, j, none⟩)) w := fun w => by
            have := at_int g 0 on oc j hjl w
            rwa [Nat.zero_add] at this
          have hjp : (primesTo X)[j]? = some p := by
            rw [hp, List.getD_eq_getElem?_getD, List.getElem?_eq_getElem (by omega)]; rfl
          have hpp := primes_pos X p (List.mem_of_getElem? hjp)
          obtain ⟨okb, hokb⟩ : ∃ b, b = ((primesTo X).take j).all (fun p => decide (¬ X % p = 0)) := ⟨_, rfl⟩
          have hstep : ((primesTo X).take (j + 1)).all (fun p => decide (¬ X % p = 0)) = (okb && decide (¬ X % p = 0)) := by
            rw [List.take_add_one, hjp, List.all_append, ← hokb]; simp
          rw [← hokb]
          have HST := Lib.hid hstep
          have HK2 := Lib.hid (And.intro hjl (show on - (j + 1) < on - j from Nat.sub_lt_sub_left hjl (Nat.lt_succ_self j)))
          obtain ⟨r, hr⟩ : ∃ r, r = X % p := ⟨_, rfl⟩
          have hrb : r < 4611686018427387904 := by have := Nat.mod_lt X hpp.1; have := HX.out; omega
          have hp0 : ¬ (p : Int) = 0 := by omega
          have hpn : (p == 0) = false := by simp; omega
          have hjb : j < 4611686018427387904 := by have := HG64.out; omega
          have ER := Lib.hid hr
          have hm1 : (X : Int) % (p : Int) = (r : Int) := by rw [hr, Int.natCast_emod]
          have hm3 : Int.tmod (X : Int) (p : Int) = (r : Int) := by rw [Int.tmod_eq_emod_of_nonneg (Int.natCast_nonneg _)]; exact hm1
          have hz : r = 0 ∨ ¬ r = 0 := by omega
          have hrz : ¬ r = 0 → ¬ (r : Int) = 0 := by omega
          have hw3 := wrap64_nat r hrb
          have hw4 := wrap64_succ j hjb
          have HQ := Lib.hid hw4
          clear hon hp hjp hpp hokb hstep hr hrb hjb hB e2 e3
          rcases hz with h0 | h0
          · have HE := Lib.hid (show ((primesTo X).take (j + 1)).all (fun p => decide (¬ X % p = 0)) = false by rw [HST.out, ← ER.out, h0]; simp)
            subst h0
            go_wp2
            go_roundw
            case rel => exact ⟨j + 1, by first | rfl | exact congrArg (Value.int .i64) HQ.out, HK2.out.1, by rw [HE.out], by first | rfl | trivial⟩
            case measure =>
              first | exact HK2.out.2 | (show on - (intOf (Value.int .i64 (wrap64 ((j : Int) + 1)))).toNat < _; rw [HQ.out]; exact HK2.out.2)
          · have HE := Lib.hid (show ((primesTo X).take (j + 1)).all (fun p => decide (¬ X % p = 0)) = okb by rw [HST.out, ← ER.out, decide_eq_true h0, Bool.and_true])
            have h0' := hrz h0
            clear h0 hrz
            go_wp2
            go_roundw
            case rel => exact ⟨j + 1, by first | rfl | exact congrArg (Value.int .i64) HQ.out, HK2.out.1, by rw [HE.out], by first | rfl | trivial⟩
            case measure =>
              first | exact HK2.out.2 | (show on - (intOf (Value.int .i64 (wrap64 ((j : Int) + 1)))).toNat < _; rw [HQ.out]; exact HK2.out.2)
        · have hjn : ¬ (j : Int) < (on : Int) := by omega
          have ej : (primesTo X).take j = primesTo X := List.take_of_length_le (by have := HON.out; omega)
          rw [ej]
          obtain ⟨okb, hokb⟩ : ∃ b, b = (primesTo X).all (fun p => decide (¬ X % p = 0)) := ⟨_, rfl⟩
          rw [← hokb]
          have hps : primesTo (X + 1) = if okb = true then primesTo X ++ [X] else primesTo X := by
            rw [primes_step X HX.out.1, hokb]; rfl
          have HPS := Lib.hid hps
          have hxb : X < 4611686018427387904 := by have := HX.out; omega
          have HXX := Lib.hid (show 2 ≤ X + 1 ∧ X + 1 ≤ 312 ∧ 1000 - (X + 1) < 1000 - X by have := H311.out; have := HX.out; omega)
          have HML := Lib.hid (show (primesTo X).length + 1 ≤ maxLen by unfold maxLen; have := HON.out; have := EN.out; omega)
          have HBY := Lib.hid (show ((primesTo X).length + 1) * 8 ≤ 140737488355328 by have := HON.out; have := EN.out; omega)
          have HBS := Lib.hid (show ∀ z, w.heap.size ≤ (wr.alloc (.cells z 3)).heap.size from fun z => by have := HBEL.out.size; simp; omega)
          have hw4 := wrap64_succ X hxb
          have HQ := Lib.hid hw4
          clear hokb hps hxb ej hjl
          cases okb with
          | false =>
            have HE := Lib.hid (show primesTo (X + 1) = primesTo X by rw [HPS.out]; rfl)
            go_wp2
            go_roundw
            case rel => exact ⟨X + 1, by first | rfl | exact congrArg (Value.int .i64) HQ.out, HXX.out.1, HXX.out.2.1, ⟨_, _, _, rfl⟩, by rw [HE.out]; exact HOWN.out, HBEL.out⟩
            case measure =>
              first | exact HXX.out.2.2 | (show 1000 - (intOf (Value.int .i64 (wrap64 ((X : Int) + 1)))).toNat < _; rw [HQ.out]; exact HXX.out.2.2)
          | true =>
            have HE := Lib.hid (show primesTo (X + 1) = primesTo X ++ [X] by rw [HPS.out]; rfl)
            go_wp2_with (at_builtin; refine wpList_append_lies _ rfl (.tmp 27) (.tmp 29) 35 rfl w.heap.size 3 ii (.int .i64 0) 1 8 Tryd.underlying35 his his0 his1 his2 rfl (by decide) _ (primesTo X).length _ rfl (HOWN.out.alloc _) ⟨wr.heap.size, 0, none⟩ 1 1 [.int .i64 (X : Int)] rfl rfl (World.news_of_block (cs := #[.int .i64 (X : Int)]) (heap_alloc_new wr _)) (by intro v hv; rw [List.mem_singleton] at hv; rw [hv]; rfl) (by decide) HML.out HBY.out (HBS.out _) _ rfl ?_; intro g6 cap6 w6 hown6 hgr6 hat6 hlt6)
            have HBE6 := Lib.hid ((HBEL.out.alloc HBEL.out.size _).grown hgr6 (HBS.out _) (own_blk HOWN.out))
            have HOWN6 := Lib.hid hown6
            clear hown6 hgr6 hat6 hlt6
            go_roundw
            case rel =>
              have e : icells (primesTo X ++ [X]) = icells (primesTo X) ++ [.int .i64 (X : Int)] := by simp [icells]
              exact ⟨X + 1, by first | rfl | exact congrArg (Value.int .i64) HQ.out, HXX.out.1, HXX.out.2.1, ⟨_, _, _, rfl⟩, by rw [HE.out, e, List.length_append]; exact HOWN6.out, HBE6.out⟩
            case measure =>
              first | exact HXX.out.2.2 | (show 1000 - (intOf (Value.int .i64 (wrap64 ((X : Int) + 1)))).toNat < _; rw [HQ.out]; exact HXX.out.2.2)
    · have hno : ¬ (on : Int) < n64 := by have := EN.out; omega
      have hX : primesTo X = primes64 := by
        have h1 := HON.out
        rcases Nat.lt_or_ge X 312 with h | h
        · have := primes_few X HX.out.1 (by omega); omega
        · have e : X = 312 := by have := HX.out; omega
          rw [e, primes_full]
      have hd : IsD wr (.slice oa on oc) primes64 := by
        have h := HOWN.out
        rw [hX] at h
        exact DigAt.of_own h rfl
      have HDD := Lib.hid hd
      clear hX hd hgo
      go_wp2
      go_ret
      exact ⟨⟨_, rfl, HDD.out⟩, HBEL.out⟩
end Go.Proofs.YtngmpcmeebcdmaaDoor
