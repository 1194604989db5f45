/- The walk of the reference's sum of two numbers. -/
import Derived.Test.YtcekammjpghjnaaDoorWs
import Derived.Test.YtcekammjpghjnaaDoorUNum2
namespace Go.Proofs.YtcekammjpghjnaaDoor
set_option linter.unusedVariables false
set_option linter.unusedSimpArgs false
open Go.ChangeShapes Go.WideShapes Go.ChangeAt Go.RowKit Go.Maps

theorem digit_far {x n i : Nat} (h : (digs x).length = n) (hi : n ≤ i) : x / 256 ^ i % 256 = 0 := by
 rw [digs_over (by rw [h]; exact hi)]
theorem mod_far {x n i : Nat} (h : (digs x).length = n) (hi : n ≤ i) : x % 256 ^ i = x := Nat.mod_eq_of_lt ((digs_len x i).1 (by omega))
theorem add_fin {i k X x y : Nat} {l : List Nat} (hv : valD l + 256 ^ i * k = x % 256 ^ i + y % 256 ^ i) (hl : ∀ d ∈ l, d < 256) (hll : l.length = i) (hX : X = k + x / 256 ^ i % 256 + y / 256 ^ i % 256) :
   (∀ d ∈ l ++ [X % 256], d < 256) ∧ valD (l ++ [X % 256]) + 256 ^ (i + 1) * (X / 256) = x % 256 ^ (i + 1) + y % 256 ^ (i + 1) := by
 refine ⟨fun d hd => ?_, ?_⟩
 · rcases List.mem_append.1 hd with h | h
   · exact hl d h
   · rw [List.mem_singleton] at h; omega
 · have := add_step hv
   rw [val_app, hll]
   have e : valD [X % 256] = X % 256 := by simp [valD]
   rw [e, hX]
   exact this
set_option maxRecDepth 100000 in
set_option maxHeartbeats 4000000 in
theorem add_is (w : World) (a : Option Addr) (n c : Nat) (x : Nat) (a2 : Option Addr) (n2 c2 : Nat) (y : Nat) (hd : DigAt w a n c (digs x)) (hd2 : DigAt w a2 n2 c2 (digs y)) (hn : n ≤ 1000) (hn2 : n2 ≤ 1000) :
  Calls Tryd.prog 48 #[.slice a n c, .slice a2 n2 c2] w fun e w' => (∃ v', e = .returned v' ∧ IsD w' v' (digs (x + y))) ∧ Below w.heap.size w w' := by
 obtain ⟨ii, his, his0, his1, his2⟩ := info_parts info_int
 have hmade : (w.alloc (.cells #[] 3)).ownsRow w.heap.size 3 1 (.slice (some ⟨w.heap.size, 0, none⟩) 0 0) 0 (icells []) := World.ownsRow_made w #[] 0 (Nat.le_refl _) (by decide) rfl
 have HMADE := Lib.hid hmade
 have HD := Lib.hid hd
 have HD2 := Lib.hid hd2
 clear hmade hd hd2
 go_enter Tryd.func48, Tryd.ntmps48
 go_wp2_with fail
 go_loopw [5, 6, 7] (fun ov cv iv wr => ∃ (i k : Nat) (l : List Nat), iv = .int .i64 (i : Int) ∧ cv = .int .i64 (k : Int) ∧ i ≤ 1001 ∧ k ≤ 1 ∧ (i ≤ 1000 ∨ k = 0) ∧ l.length = i ∧ (∀ d ∈ l, d < 256) ∧ valD l + 256 ^ i * k = x % 256 ^ i + y % 256 ^ i ∧ (∃ oa on oc, ov = .slice oa on oc) ∧ wr.ownsRow w.heap.size 3 1 ov l.length (icells l) ∧ Below w.heap.size w wr) (fun _ _ iv _ => 1002 - (intOf iv).toNat)
 case atStart => exact ⟨0, 0, [], rfl, rfl, by omega, by omega, .inl (by omega), rfl, (fun d h => by cases h), by simp [valD, Nat.mod_one], ⟨_, _, _, rfl⟩, HMADE.out, (Below.refl _ _).alloc (Nat.le_refl _) _⟩
 case round =>
  obtain ⟨i, k, l, rfl, rfl, hi, hk, hik, hll, hl, hv, ⟨oa, on, oc, rfl⟩, hown, hbel⟩ := hrel
  have HOWN := Lib.hid hown
  have HBEL := Lib.hid hbel
  have HLL := Lib.hid hll
  have HLT := Lib.hid hl
  have HV := Lib.hid hv
  clear hown hbel HMADE hll hl hv
  obtain ⟨da, hda⟩ : ∃ d, d = x / 256 ^ i % 256 := ⟨_, rfl⟩
  obtain ⟨db, hdb⟩ : ∃ d, d = y / 256 ^ i % 256 := ⟨_, rfl⟩
  have hdl : da < 256 ∧ db < 256 := ⟨by rw [hda]; exact Nat.mod_lt _ (by decide), by rw [hdb]; exact Nat.mod_lt _ (by decide)⟩
  have EDA := Lib.hid hda
  have EDB := Lib.hid hdb
  have HDL := Lib.hid hdl
  have HI := Lib.hid (show i ≤ 1001 ∧ k ≤ 1 ∧ (i ≤ 1000 ∨ k = 0) ∧ n ≤ 1000 ∧ n2 ≤ 1000 from ⟨hi, hk, hik, hn, hn2⟩)
  clear hda hdb hdl hi hk hik
  go_upto_region 4 with (fail)
  go_cut [23] from 10 to 53 (fun cc wx => wr = wx ∧ cc = .bool (decide (i < n ∨ i < n2 ∨ 0 < k)))
  case first =>
    by_cases g1 : i < n
    · have g1' : (i : Int) < (n : Int) := by omega
      have HD1 := Lib.hid (show decide (i < n ∨ i < n2 ∨ 0 < k) = true from decide_eq_true (.inl g1))
      go_wp2
      go_meet
      case rel => exact ⟨rfl, by rw [HD1.out]⟩
    · have g1' : ¬ (i : Int) < (n : Int) := by omega
      by_cases g2 : i < n2
      · have g2' : (i : Int) < (n2 : Int) := by omega
        have HD1 := Lib.hid (show decide (i < n ∨ i < n2 ∨ 0 < k) = true from decide_eq_true (.inr (.inl g2)))
        go_wp2
        go_meet
        case rel => exact ⟨rfl, by rw [HD1.out]⟩
      · have g2' : ¬ (i : Int) < (n2 : Int) := by omega
        have HD1 := Lib.hid (show decide (0 < k) = decide (i < n ∨ i < n2 ∨ 0 < k) from by
         by_cases h : 0 < k
         · rw [decide_eq_true h, decide_eq_true (.inr (.inr h))]
         · rw [decide_eq_false h, decide_eq_false (fun e => by omega)])
        go_wp2
        go_meet
        case rel => exact ⟨rfl, by rw [← HD1.out]⟩
  case rest =>
  obtain ⟨wy, hwy⟩ : ∃ y, y = wc := ⟨_, rfl⟩
  subst hwy
  obtain ⟨rfl, rfl⟩ := hcut
  by_cases hgo : i < n ∨ i < n2 ∨ 0 < k
  · rw [decide_eq_true hgo]
    have HGO := Lib.hid hgo
    clear hgo
    go_upto_if 30 with (fail)
    go_cut [8] from 10 to 53 (fun xv wx => wr = wx ∧ xv = .int .i64 ((k + da : Nat) : Int))
    case first =>
      by_cases g1 : i < n
      · have g1' : (i : Int) < (n : Int) := by omega
        obtain ⟨bA, oA, haA, hbA, hclA⟩ := (HD.out.below HBEL.out).at_ (by omega)
        subst haA
        have hcA := hclA i g1
        rw [digs_at, ← EDA.out] at hcA
        have hatA := at_dig bA oA n c i g1
        have hx1 : wrap64 ((k : Int) + (da : Int)) = ((k + da : Nat) : Int) := by have := HDL.out; have := HI.out; unfold wrap64; omega
        clear hclA
        go_wp2
        go_meet
        case rel => exact ⟨rfl, by first | rfl | rw [hx1] | (congr 1; omega)⟩
      · have g1' : ¬ (i : Int) < (n : Int) := by omega
        have HZ := Lib.hid (show k = k + da by rw [EDA.out, digit_far HD.out.len (by omega)]; rfl)
        go_wp2
        go_meet
        case rel => exact ⟨rfl, by rw [← HZ.out]⟩
    case rest =>
    obtain ⟨wy, hwy⟩ : ∃ y, y = wc := ⟨_, rfl⟩
    subst hwy
    obtain ⟨rfl, rfl⟩ := hcut
    obtain ⟨ka, hka⟩ : ∃ a, a = k + da := ⟨_, rfl⟩
    rw [← hka]
    have EKA := Lib.hid hka
    clear hka
    go_upto_if 40 with (fail)
    go_cut [8] from 10 to 53 (fun xv wx => wr = wx ∧ xv = .int .i64 ((ka + db : Nat) : Int))
    case first =>
      by_cases g1 : i < n2
      · have g1' : (i : Int) < (n2 : Int) := by omega
        obtain ⟨bB, oB, haB, hbB, hclB⟩ := (HD2.out.below HBEL.out).at_ (by omega)
        subst haB
        have hcB := hclB i g1
        rw [digs_at, ← EDB.out] at hcB
        have hatB := at_dig bB oB n2 c2 i g1
        have hx1 : wrap64 ((ka : Int) + (db : Int)) = ((ka + db : Nat) : Int) := by have := HDL.out; have := HI.out; have := EKA.out; unfold wrap64; omega
        clear hclB
        go_wp2
        go_meet
        case rel => exact ⟨rfl, by first | rfl | rw [hx1] | (congr 1; omega)⟩
      · have g1' : ¬ (i : Int) < (n2 : Int) := by omega
        have HZ := Lib.hid (show ka = ka + db by rw [EDB.out, digit_far HD2.out.len (by omega)]; rfl)
        go_wp2
        go_meet
        case rel => exact ⟨rfl, by rw [← HZ.out]⟩
    case rest =>
    obtain ⟨wy, hwy⟩ : ∃ y, y = wc := ⟨_, rfl⟩
    subst hwy
    obtain ⟨rfl, rfl⟩ := hcut
    obtain ⟨X, hX⟩ : ∃ a, a = ka + db := ⟨_, rfl⟩
    rw [← hX]
    obtain ⟨d, hdd⟩ : ∃ d, d = X % 256 := ⟨_, rfl⟩
    obtain ⟨q, hqq⟩ : ∃ q, q = X / 256 := ⟨_, rfl⟩
    have hXl : X ≤ 511 := by have := HDL.out; have := HI.out; have := EKA.out; omega
    have hm1 : (X : Int) % 256 = (d : Int) := by omega
    have hm2 : (X : Int) / 256 = (q : Int) := by omega
    have hfin := add_fin (i := i) (k := k) (l := l) HV.out HLT.out HLL.out (show X = k + x / 256 ^ i % 256 + y / 256 ^ i % 256 by rw [hX, EKA.out, EDA.out, EDB.out])
    rw [← hdd, ← hqq] at hfin
    have hdq : d < 256 ∧ q ≤ 1 := by omega
    have hbig : i < 4611686018427387904 := by have := HI.out; omega
    have HQ := Lib.hid (show q ≤ 1 ∧ (i + 1 ≤ 1000 ∨ q = 0) ∧ i + 1 ≤ 1001 ∧ 1002 - (i + 1) < 1002 - i by
      have h1 := HI.out
      have h2 := HGO.out
      refine ⟨by omega, ?_, by omega, by omega⟩
      by_cases h3 : i < n ∨ i < n2
      · exact .inl (by omega)
      · right
        have e1 : da = 0 := by rw [EDA.out]; exact digit_far HD.out.len (by omega)
        have e2 : db = 0 := by rw [EDB.out]; exact digit_far HD2.out.len (by omega)
        have := EKA.out
        omega)
    have HFIN := Lib.hid hfin
    have HML := Lib.hid (show l.length + 1 ≤ maxLen by unfold maxLen; have := HLL.out; have := HI.out; omega)
    have HBY := Lib.hid (show (l.length + 1) * 8 ≤ 140737488355328 by have := HLL.out; have := HI.out; omega)
    have HBS := Lib.hid (show ∀ z, w.heap.size ≤ (wr.alloc (.cells z 3)).heap.size from fun z => by have := HBEL.out.size; simp; omega)
    have hm3 : Int.tmod (X : Int) 256 = (d : Int) := by rw [Int.tmod_eq_emod_of_nonneg (by omega)]; exact hm1
    have hm4 : Int.tdiv (X : Int) 256 = (q : Int) := by rw [Int.tdiv_eq_ediv_of_nonneg (by omega)]; exact hm2
    have hm5 : wrap64 (d : Int) = (d : Int) := wrap64_nat d (Nat.lt_trans hdq.1 (by decide))
    have hm6 : wrap64 (q : Int) = (q : Int) := wrap64_nat q (Nat.lt_of_le_of_lt hdq.2 (by decide))
    have hm7 : wrap64 ((i : Int) + 1) = ((i + 1 : Nat) : Int) := wrap64_succ i hbig
    have HQ7 := Lib.hid hm7
    have HQ6 := Lib.hid hm6
    clear hX hdd hqq hXl hfin hdq hbig
    go_wp2_with (at_builtin; refine wpList_append_lies _ rfl (.tmp 47) (.tmp 50) 101 rfl w.heap.size 3 ii (.int .i64 0) 1 8 Tryd.underlying101 his his0 his1 his2 rfl (by decide) _ l.length _ rfl (HOWN.out.alloc _) ⟨wr.heap.size, 0, none⟩ 1 1 [.int .i64 (d : Int)] rfl rfl (World.news_of_block (cs := #[.int .i64 (d : Int)]) (heap_alloc_new wr _)) (by intro v hv; rw [List.mem_singleton] at hv; rw [hv]; rfl) (by decide) HML.out HBY.out (HBS.out _) _ rfl ?_; intro g6 cap6 w6 hown6 hgr6 hat6 hlt6)
    have HBE6 := Lib.hid ((HBEL.out.alloc HBEL.out.size _).grown hgr6 (HBS.out _) (own_blk HOWN.out))
    have HOWN6 := Lib.hid hown6
    clear hown6 hgr6 hat6 hlt6
    go_roundw
    case rel =>
      have e : icells (l ++ [d]) = icells l ++ [.int .i64 (d : Int)] := by simp [icells]
      exact ⟨i + 1, q, l ++ [d], by first | rfl | exact congrArg (Value.int .i64) HQ7.out, by first | rfl | exact congrArg (Value.int .i64) HQ6.out, HQ.out.2.2.1, HQ.out.1, HQ.out.2.1, by rw [List.length_append, HLL.out]; rfl, HFIN.out.1, HFIN.out.2, ⟨_, _, _, rfl⟩, by rw [List.length_append, e]; exact HOWN6.out, HBE6.out⟩
    case measure =>
      first | exact HQ.out.2.2.2 | (show 1002 - (intOf (Value.int .i64 (wrap64 ((i : Int) + 1)))).toNat < _; rw [HQ7.out]; exact HQ.out.2.2.2)
  · rw [decide_eq_false hgo]
    have hi := HI.out
    have hk0 : k = 0 := by omega
    subst hk0
    have hval : valD l = x + y := by
      have h := HV.out
      rw [mod_far HD.out.len (by omega), mod_far HD2.out.len (by omega)] at h
      omega
    obtain ⟨ra, rc, hrv, hrd⟩ := DigAt.of_own HOWN.out rfl
    injection hrv with e1 e2 e3
    subst e1 e2 e3
    have htr := trim_is wr _ _ _ l hrd (by have := HLL.out; omega) HLT.out
    rw [hval] at htr
    have HTR := Lib.hid htr
    clear htr hval hrd
    go_wp2_with fail
    refine HTR.out.mono ?_
    rintro _ w2 ⟨⟨v', rfl, hv'⟩, rfl⟩
    have HV' := Lib.hid hv'
    clear hv'
    go_wp2
    go_ret
    exact ⟨⟨_, rfl, HV'.out⟩, HBEL.out⟩
end Go.Proofs.YtcekammjpghjnaaDoor

