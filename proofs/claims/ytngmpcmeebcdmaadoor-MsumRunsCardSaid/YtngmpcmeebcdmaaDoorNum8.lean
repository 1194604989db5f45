/- Digits once more: of what Of and Add give it is told where it lies. -/
import Derived.Test.YtngmpcmeebcdmaaDoorNum3
namespace Go.Proofs.YtngmpcmeebcdmaaDoor
set_option linter.unusedVariables false
set_option linter.unusedSimpArgs false
open Go.ChangeShapes Go.WideShapes Go.ChangeAt Go.RowKit Go.Maps

/-- digits that lie in blocks from one on. -/
def IsDN (lo : Nat) (w : World) (v : Value) (ds : List Nat) : Prop := IsD w v ds ∧ ∀ A m k, v = .slice (some A) m k → lo ≤ A.block
theorem IsDN.kept {lo : Nat} {S : Nat → Prop} {w w' : World} {v : Value} {ds : List Nat} (h : IsDN lo w v ds) (hk : Kept S w w') (hs : ∀ k, S k → k < w.heap.size → ¬ lo ≤ k) : IsDN lo w' v ds := by
  obtain ⟨⟨a, c, rfl, hd⟩, h2⟩ := h
  refine ⟨⟨a, c, rfl, hd.len, hd.cap, fun hn => ?_⟩, h2⟩
  obtain ⟨b, o, e, hb, hr⟩ := hd.at_ hn
  subst e
  have hlo := h2 _ _ _ rfl
  exact ⟨b, o, rfl, by have := hk.size; omega, fun i hi => cell_held hk (hr i hi) (fun e => hs b e hb hlo)⟩
theorem IsDN.below {lo : Nat} {w w' : World} {v : Value} {ds : List Nat} (h : IsDN lo w v ds) (hb : Below w.heap.size w w') : IsDN lo w' v ds := h.kept (S := fun _ => False) (Kept.of_below hb) (fun _ e _ => e.elim)
theorem IsDN.mono {lo lo' : Nat} {w : World} {v : Value} {ds : List Nat} (h : IsDN lo w v ds) (hl : lo' ≤ lo) : IsDN lo' w v ds := ⟨h.1, fun A m k e => Nat.le_trans hl (h.2 A m k e)⟩
theorem DigAt.cutN {w : World} {b o n c : Nat} {ds : List Nat} (h : DigAt w (some ⟨b, o, none⟩) n c ds) (p : Nat) (hp : p ≤ n) (hn : 0 < n) :
    (∀ w', (Instr.slice 36 (.slice (some ⟨b, o, none⟩) n c) none (some (.int .i64 (p : Int))) none).run Tryd.prog w' = .ok (.slice (some ⟨b, o, none⟩) p c) w') ∧ DigAt w (some ⟨b, o, none⟩) p c (ds.take p) := by
  have hu : Tryd.prog.underlying 36 = some (.slice (Tryd.prog.elem 36)) := by kernel_rfl
  have he : Tryd.prog.elem 36 = 3 := by kernel_rfl
  have hc := h.cap
  refine ⟨fun w' => ?_, by rw [List.length_take, h.len]; omega, by omega, fun h0 => ?_⟩
  · rw [run_slice_h w' 36 _ n c hu .i64 (p : Int) (by omega) (by omega), he, size_int]
    simp only [Result.andThen, sliced, Int.toNat_natCast, Nat.zero_mul, Nat.sub_zero]
    rw [if_neg (by omega), Option.map_some, Addr.add_mid, Nat.add_zero]
  · obtain ⟨b', o', e, hb, hcl⟩ := h.at_ hn
    injection e with e
    injection e with e1 e2 _
    subst e1; subst e2
    refine ⟨b, o, rfl, hb, fun i hi => ?_⟩
    rw [hcl i (by omega), List.getD_eq_getElem?_getD, List.getD_eq_getElem?_getD, List.getElem?_take_of_lt hi]
set_option maxRecDepth 100000 in
theorem trimN_is (lo : Nat) (w : World) (a : Option Addr) (n c : Nat) (ds : List Nat) (hd : DigAt w a n c ds) (hlo : ∀ A, a = some A → lo ≤ A.block) (hn : n ≤ 1000000) (hlt : ∀ d ∈ ds, d < 256) :
    Calls Tryd.prog 50 #[.slice a n c] w fun e w' => (∃ v', e = .returned v' ∧ IsDN lo w' v' (digs (valD ds))) ∧ w' = w := by
  have HD := Lib.hid hd
  have HLT := Lib.hid hlt
  have HLO := Lib.hid hlo
  clear hd hlt hlo
  go_enter Tryd.func50, Tryd.ntmps50
  go_wp2_with fail
  go_loopw [0] (fun v wr => ∃ a' k, v = .slice a' k c ∧ k ≤ n ∧ DigAt w a' k c (ds.take k) ∧ (∀ A, a' = some A → lo ≤ A.block) ∧ valD (ds.take k) = valD ds ∧ wr = w) (fun v _ => lenD v)
  case atStart => exact ⟨a, n, rfl, Nat.le_refl _, by rw [List.take_of_length_le (by rw [HD.out.len]; exact Nat.le_refl _)]; exact HD.out, HLO.out, by rw [List.take_of_length_le (by rw [HD.out.len]; exact Nat.le_refl _)], rfl⟩
  case round =>
    obtain ⟨a', k, rfl, hk, hda, hlo', hv, rfl⟩ := hrel
    have HLA := Lib.hid hlo'
    clear hlo'
    have HDA := Lib.hid hda
    have HV := Lib.hid hv
    clear hda hv
    rcases Nat.eq_zero_or_pos k with h0 | h0
    · subst h0
      go_wp2
      go_ret
      have e : digs (valD ds) = [] := by rw [← HV.out]; exact digs_zero
      rw [e]
      exact ⟨⟨_, rfl, ⟨a', c, rfl, HDA.out⟩, fun A m k e => by injection e with e; exact HLA.out A e⟩, rfl⟩
    · obtain ⟨m, rfl⟩ : ∃ m, k = m + 1 := ⟨k - 1, by omega⟩
      obtain ⟨b, o, ha, hb, hcl⟩ := HDA.out.at_ (by omega)
      subst ha
      have hc0 := hcl m (by omega)
      have hg : (ds.take (m + 1)).getD m 0 = ds.getD m 0 := by
        rw [List.getD_eq_getElem?_getD, List.getD_eq_getElem?_getD, List.getElem?_take_of_lt (by omega)]
      rw [hg] at hc0
      have hat := at_dig b o (m + 1) c m (by omega)
      obtain ⟨d, hdd⟩ : ∃ d, d = ds.getD m 0 := ⟨_, rfl⟩
      rw [← hdd] at hc0
      have hlen : (0 : Int) < ((m + 1 : Nat) : Int) := by omega
      have hw : wrap64 (((m + 1 : Nat) : Int) - 1) = (m : Int) := by unfold wrap64; omega
      obtain ⟨hcut, hda1⟩ := HDA.out.cutN m (by omega) (by omega)
      have HDA1 := Lib.hid hda1
      have HDD := Lib.hid hdd
      clear hda1 hcl hg hdd
      by_cases hz : d = 0
      · have hz' : (d : Int) = 0 := by omega
        go_wp2
        go_roundw
        case rel =>
          refine ⟨_, m, rfl, by omega, ?_, HLA.out, ?_, by first | rfl | trivial⟩
          · have := HDA1.out
            rwa [List.take_take, Nat.min_eq_left (by omega)] at this
          · rw [← HV.out, val_take ds m (by have := HD.out.len; omega) (by rw [← HDD.out]; exact hz)]
        case measure => simp [lenD]
      · have hz' : ¬ (d : Int) = 0 := by omega
        go_wp2
        go_ret
        have e : digs (valD ds) = ds.take (m + 1) := by
          rw [← HV.out]
          refine val_digs _ (fun x hx => HLT.out x (List.mem_of_mem_take hx)) (fun _ => ?_)
          have hl : (ds.take (m + 1)).length = m + 1 := by rw [List.length_take, HD.out.len]; omega
          rw [hl, Nat.add_sub_cancel, List.getD_eq_getElem?_getD, List.getElem?_take_of_lt (by omega), ← List.getD_eq_getElem?_getD, ← HDD.out]
          exact hz
        have hl : (digs (valD ds)).length = m + 1 := by rw [e, List.length_take, HD.out.len]; omega
        exact ⟨⟨_, rfl, ⟨_, c, by rw [hl]; rfl, by rw [hl, e]; exact HDA.out⟩, fun A m k e => by injection e with e; exact HLA.out A e⟩, rfl⟩
set_option maxRecDepth 100000 in
set_option maxHeartbeats 1000000 in
theorem ofN_is (w : World) (x : Nat) (hx : x < 18446744073709551616) :
    Calls Tryd.prog 16 #[.int .u64 (x : Int)] w fun e w' => (∃ v', e = .returned v' ∧ IsDN w.heap.size w' v' (digs x)) ∧ Below w.heap.size w w' := by
  obtain ⟨ii, his, his0, his1, his2⟩ := info_parts info_int
  have hmade : (w.alloc (.cells #[] 3)).ownsRow w.heap.size 3 1 (.slice (some ⟨w.heap.size, 0, none⟩) 0 0) 0 (icells []) := World.ownsRow_made w #[] 0 (Nat.le_refl _) (by decide) rfl
  have HMADE := Lib.hid hmade
  clear hmade
  go_enter Tryd.func16, Tryd.ntmps16
  go_wp2_with fail
  go_loopw [3, 0] (fun ov v wr => ∃ l y, v = .int .u64 ((y : Nat) : Int) ∧ y ≤ x ∧ digs x = l ++ digs y ∧ (∃ oa on oc, ov = .slice oa on oc) ∧ wr.ownsRow w.heap.size 3 1 ov l.length (icells l) ∧ Below w.heap.size w wr) (fun _ v _ => (intOf v).toNat)
  case atStart => exact ⟨[], x, rfl, Nat.le_refl _, rfl, ⟨_, _, _, rfl⟩, HMADE.out, (Below.refl _ _).alloc (Nat.le_refl _) _⟩
  case round =>
    obtain ⟨l, y, rfl, hy, hl, ⟨oa, on, oc, rfl⟩, hown, hbel⟩ := hrel
    have hl8 : (digs x).length ≤ 8 := (digs_len x 8).2 (by omega)
    have HOWN := Lib.hid hown
    have HBEL := Lib.hid hbel
    have HL := Lib.hid hl
    clear hown hbel HMADE
    by_cases h0 : y = 0
    · subst h0
      go_wp2
      go_ret
      refine ⟨⟨_, rfl, ?_⟩, HBEL.out⟩
      have e := HL.out
      rw [digs_zero, List.append_nil] at e
      rw [e]
      exact ⟨DigAt.of_own HOWN.out rfl, fun A m k e => own_blk HOWN.out A.block (congrArg Value.ownBlock (show Value.slice oa on oc = _ from e))⟩
    · have hpos : (0 : Int) < (y : Int) := by omega
      have hm : (y : Int) % 256 = ((y % 256 : Nat) : Int) := by omega
      have hq : (y : Int) / 256 = ((y / 256 : Nat) : Int) := by omega
      have HLL := Lib.hid (show l.length + 1 ≤ 8 by
        have h1 := hl8
        rw [HL.out, List.length_append, digs_pos h0] at h1
        simp at h1; omega)
      obtain ⟨d, hd⟩ : ∃ d, d = y % 256 := ⟨_, rfl⟩
      obtain ⟨z, hz⟩ : ∃ z, z = y / 256 := ⟨_, rfl⟩
      have hd256 : d < 256 := by omega
      rw [← hd] at hm
      rw [← hz] at hq
      have HN := Lib.hid (show digs x = (l ++ [d]) ++ digs z by rw [HL.out, digs_pos h0, hd, hz]; simp)
      have HZ := Lib.hid (show z < y by omega)
      clear hd hz
      have HML := Lib.hid (show l.length + 1 ≤ maxLen by unfold maxLen; have := HLL.out; omega)
      have HBY := Lib.hid (show (l.length + 1) * 8 ≤ 140737488355328 by have := HLL.out; omega)
      have HBS := Lib.hid (show w.heap.size ≤ (wr.alloc (.cells #[.int .i64 (d : Int)] 3)).heap.size by have := HBEL.out.size; simp; omega)
      go_wp2_with (at_builtin; refine wpList_append_lies _ rfl (.tmp 7) (.tmp 11) 36 rfl w.heap.size 3 ii (.int .i64 0) 1 8 Tryd.underlying36 his his0 his1 his2 rfl (by decide) _ l.length _ rfl (HOWN.out.alloc _) ⟨wr.heap.size, 0, none⟩ 1 1 [.int .i64 (d : Int)] rfl rfl (World.news_of_block (cs := #[.int .i64 (d : Int)]) (heap_alloc_new wr _)) (by intro v hv; rw [List.mem_singleton] at hv; rw [hv]; rfl) (by decide) HML.out HBY.out HBS.out _ rfl ?_; intro g6 cap6 w6 hown6 hgr6 hat6 hlt6)
      go_roundw
      case rel =>
        refine ⟨l ++ [d], z, rfl, by have := HZ.out; omega, HN.out, ⟨_, _, _, rfl⟩, ?_, ?_⟩
        · rw [List.length_append]
          have e : icells (l ++ [d]) = icells l ++ [.int .i64 (d : Int)] := by simp [icells]
          rw [e]
          exact hown6
        · exact (HBEL.out.alloc HBEL.out.size _).grown hgr6 HBS.out (own_blk HOWN.out)
      case measure => have := HZ.out; simp [intOf]; omega
set_option maxRecDepth 100000 in
set_option maxHeartbeats 4000000 in
theorem addN_is (w : World) (a : Option Addr) (n c : Nat) (x : Nat) (a2 : Option Addr) (n2 c2 : Nat) (y : Nat) (hd : DigAt w a n c (digs x)) (hd2 : DigAt w a2 n2 c2 (digs y)) (hn : n ≤ 1000) (hn2 : n2 ≤ 1000) :
    Calls Tryd.prog 15 #[.slice a n c, .slice a2 n2 c2] w fun e w' => (∃ v', e = .returned v' ∧ IsDN w.heap.size w' v' (digs (x + y))) ∧ Below w.heap.size w w' := by
  obtain ⟨ii, his, his0, his1, his2⟩ := info_parts info_int
  have hmade : (w.alloc (.cells #[] 3)).ownsRow w.heap.size 3 1 (.slice (some ⟨w.heap.size, 0, none⟩) 0 0) 0 (icells []) := World.ownsRow_made w #[] 0 (Nat.le_refl _) (by decide) rfl
  have HMADE := Lib.hid hmade
  have HD := Lib.hid hd
  have HD2 := Lib.hid hd2
  clear hmade hd hd2
  go_enter Tryd.func15, Tryd.ntmps15
  go_wp2_with fail
  go_loopw [5, 6, 7] (fun ov cv iv wr => ∃ (i k : Nat) (l : List Nat), iv = .int .i64 (i : Int) ∧ cv = .int .i64 (k : Int) ∧ i ≤ 1001 ∧ k ≤ 1 ∧ (i ≤ 1000 ∨ k = 0) ∧ l.length = i ∧ (∀ d ∈ l, d < 256) ∧ valD l + 256 ^ i * k = x % 256 ^ i + y % 256 ^ i ∧ (∃ oa on oc, ov = .slice oa on oc) ∧ wr.ownsRow w.heap.size 3 1 ov l.length (icells l) ∧ Below w.heap.size w wr) (fun _ _ iv _ => 1002 - (intOf iv).toNat)
  case atStart => exact ⟨0, 0, [], rfl, rfl, by omega, by omega, .inl (by omega), rfl, (fun d h => by cases h), by simp [valD, Nat.mod_one], ⟨_, _, _, rfl⟩, HMADE.out, (Below.refl _ _).alloc (Nat.le_refl _) _⟩
  case round =>
    obtain ⟨i, k, l, rfl, rfl, hi, hk, hik, hll, hl, hv, ⟨oa, on, oc, rfl⟩, hown, hbel⟩ := hrel
    have HOWN := Lib.hid hown
    have HBEL := Lib.hid hbel
    have HLL := Lib.hid hll
    have HLT := Lib.hid hl
    have HV := Lib.hid hv
    clear hown hbel HMADE hll hl hv
    obtain ⟨da, hda⟩ : ∃ d, d = x / 256 ^ i % 256 := ⟨_, rfl⟩
    obtain ⟨db, hdb⟩ : ∃ d, d = y / 256 ^ i % 256 := ⟨_, rfl⟩
    have hdl : da < 256 ∧ db < 256 := ⟨by rw [hda]; exact Nat.mod_lt _ (by decide), by rw [hdb]; exact Nat.mod_lt _ (by decide)⟩
    have EDA := Lib.hid hda
    have EDB := Lib.hid hdb
    have HDL := Lib.hid hdl
    have HI := Lib.hid (show i ≤ 1001 ∧ k ≤ 1 ∧ (i ≤ 1000 ∨ k = 0) ∧ n ≤ 1000 ∧ n2 ≤ 1000 from ⟨hi, hk, hik, hn, hn2⟩)
    clear hda hdb hdl hi hk hik
    go_upto_region 4 with (fail)
    go_cut [23] from 10 to 53 (fun cc wx => wr = wx ∧ cc = .bool (decide (i < n ∨ i < n2 ∨ 0 < k)))
    case first =>
      by_cases g1 : i < n
      · have g1' : (i : Int) < (n : Int) := by omega
        have HD1 := Lib.hid (show decide (i < n ∨ i < n2 ∨ 0 < k) = true from decide_eq_true (.inl g1))
        go_wp2
        go_meet
        case rel => exact ⟨rfl, by rw [HD1.out]⟩
      · have g1' : ¬ (i : Int) < (n : Int) := by omega
        by_cases g2 : i < n2
        · have g2' : (i : Int) < (n2 : Int) := by omega
          have HD1 := Lib.hid (show decide (i < n ∨ i < n2 ∨ 0 < k) = true from decide_eq_true (.inr (.inl g2)))
          go_wp2
          go_meet
          case rel => exact ⟨rfl, by rw [HD1.out]⟩
        · have g2' : ¬ (i : Int) < (n2 : Int) := by omega
          have HD1 := Lib.hid (show decide (0 < k) = decide (i < n ∨ i < n2 ∨ 0 < k) from by
            by_cases h : 0 < k
            · rw [decide_eq_true h, decide_eq_true (.inr (.inr h))]
            · rw [decide_eq_false h, decide_eq_false (fun e => by omega)])
          go_wp2
          go_meet
          case rel => exact ⟨rfl, by rw [← HD1.out]⟩
    case rest =>
    obtain ⟨wy, hwy⟩ : ∃ y, y = wc := ⟨_, rfl⟩
    subst hwy
    obtain ⟨rfl, rfl⟩ := hcut
    by_cases hgo : i < n ∨ i < n2 ∨ 0 < k
    · rw [decide_eq_true hgo]
      have HGO := Lib.hid hgo
      clear hgo
      go_upto_if 30 with (fail)
      go_cut [8] from 10 to 53 (fun xv wx => wr = wx ∧ xv = .int .i64 ((k + da : Nat) : Int))
      case first =>
        by_cases g1 : i < n
        · have g1' : (i : Int) < (n : Int) := by omega
          obtain ⟨bA, oA, haA, hbA, hclA⟩ := (HD.out.below HBEL.out).at_ (by omega)
          subst haA
          have hcA := hclA i g1
          rw [digs_at, ← EDA.out] at hcA
          have hatA := at_dig bA oA n c i g1
          have hx1 : wrap64 ((k : Int) + (da : Int)) = ((k + da : Nat) : Int) := by have := HDL.out; have := HI.out; unfold wrap64; omega
          clear hclA
          go_wp2
          go_meet
          case rel => exact ⟨rfl, by first | rfl | rw [hx1] | (congr 1; omega)⟩
        · have g1' : ¬ (i : Int) < (n : Int) := by omega
          have HZ := Lib.hid (show k = k + da by rw [EDA.out, digit_far HD.out.len (by omega)]; rfl)
          go_wp2
          go_meet
          case rel => exact ⟨rfl, by rw [← HZ.out]⟩
      case rest =>
      obtain ⟨wy, hwy⟩ : ∃ y, y = wc := ⟨_, rfl⟩
      subst hwy
      obtain ⟨rfl, rfl⟩ := hcut
      obtain ⟨ka, hka⟩ : ∃ a, a = k + da := ⟨_, rfl⟩
      rw [← hka]
      have EKA := Lib.hid hka
      clear hka
      go_upto_if 40 with (fail)
      go_cut [8] from 10 to 53 (fun xv wx => wr = wx ∧ xv = .int .i64 ((ka + db : Nat) : Int))
      case first =>
        by_cases g1 : i < n2
        · have g1' : (i : Int) < (n2 : Int) := by omega
          obtain ⟨bB, oB, haB, hbB, hclB⟩ := (HD2.out.below HBEL.out).at_ (by omega)
          subst haB
          have hcB := hclB i g1
          rw [digs_at, ← EDB.out] at hcB
          have hatB := at_dig bB oB n2 c2 i g1
          have hx1 : wrap64 ((ka : Int) + (db : Int)) = ((ka + db : Nat) : Int) := by have := HDL.out; have := HI.out; have := EKA.out; unfold wrap64; omega
          clear hclB
          go_wp2
          go_meet
          case rel => exact ⟨rfl, by first | rfl | rw [hx1] | (congr 1; omega)⟩
        · have g1' : ¬ (i : Int) < (n2 : Int) := by omega
          have HZ := Lib.hid (show ka = ka + db by rw [EDB.out, digit_far HD2.out.len (by omega)]; rfl)
          go_wp2
          go_meet
          case rel => exact ⟨rfl, by rw [← HZ.out]⟩
      case rest =>
      obtain ⟨wy, hwy⟩ : ∃ y, y = wc := ⟨_, rfl⟩
      subst hwy
      obtain ⟨rfl, rfl⟩ := hcut
      obtain ⟨X, hX⟩ : ∃ a, a = ka + db := ⟨_, rfl⟩
      rw [← hX]
      obtain ⟨d, hdd⟩ : ∃ d, d = X % 256 := ⟨_, rfl⟩
      obtain ⟨q, hqq⟩ : ∃ q, q = X / 256 := ⟨_, rfl⟩
      have hXl : X ≤ 511 := by have := HDL.out; have := HI.out; have := EKA.out; omega
      have hm1 : (X : Int) % 256 = (d : Int) := by omega
      have hm2 : (X : Int) / 256 = (q : Int) := by omega
      have hfin := add_fin (i := i) (k := k) (l := l) HV.out HLT.out HLL.out (show X = k + x / 256 ^ i % 256 + y / 256 ^ i % 256 by rw [hX, EKA.out, EDA.out, EDB.out])
      rw [← hdd, ← hqq] at hfin
      have hdq : d < 256 ∧ q ≤ 1 := by omega
      have hbig : i < 4611686018427387904 := by have := HI.out; omega
      have HQ := Lib.hid (show q ≤ 1 ∧ (i + 1 ≤ 1000 ∨ q = 0) ∧ i + 1 ≤ 1001 ∧ 1002 - (i + 1) < 1002 - i by
        have h1 := HI.out
        have h2 := HGO.out
        refine ⟨by omega, ?_, by omega, by omega⟩
        by_cases h3 : i < n ∨ i < n2
        · exact .inl (by omega)
        · right
          have e1 : da = 0 := by rw [EDA.out]; exact digit_far HD.out.len (by omega)
          have e2 : db = 0 := by rw [EDB.out]; exact digit_far HD2.out.len (by omega)
          have := EKA.out
          omega)
      have HFIN := Lib.hid hfin
      have HML := Lib.hid (show l.length + 1 ≤ maxLen by unfold maxLen; have := HLL.out; have := HI.out; omega)
      have HBY := Lib.hid (show (l.length + 1) * 8 ≤ 140737488355328 by have := HLL.out; have := HI.out; omega)
      have HBS := Lib.hid (show ∀ z, w.heap.size ≤ (wr.alloc (.cells z 3)).heap.size from fun z => by have := HBEL.out.size; simp; omega)
      have hm3 : Int.tmod (X : Int) 256 = (d : Int) := by rw [Int.tmod_eq_emod_of_nonneg (by omega)]; exact hm1
      have hm4 : Int.tdiv (X : Int) 256 = (q : Int) := by rw [Int.tdiv_eq_ediv_of_nonneg (by omega)]; exact hm2
      have hm5 : wrap64 (d : Int) = (d : Int) := wrap64_nat d (Nat.lt_trans hdq.1 (by decide))
      have hm6 : wrap64 (q : Int) = (q : Int) := wrap64_nat q (Nat.lt_of_le_of_lt hdq.2 (by decide))
      have hm7 : wrap64 ((i : Int) + 1) = ((i + 1 : Nat) : Int) := wrap64_succ i hbig
      have HQ7 := Lib.hid hm7
      have HQ6 := Lib.hid hm6
      clear hX hdd hqq hXl hfin hdq hbig
      go_wp2_with (at_builtin; refine wpList_append_lies _ rfl (.tmp 47) (.tmp 50) 36 rfl w.heap.size 3 ii (.int .i64 0) 1 8 Tryd.underlying36 his his0 his1 his2 rfl (by decide) _ l.length _ rfl (HOWN.out.alloc _) ⟨wr.heap.size, 0, none⟩ 1 1 [.int .i64 (d : Int)] rfl rfl (World.news_of_block (cs := #[.int .i64 (d : Int)]) (heap_alloc_new wr _)) (by intro v hv; rw [List.mem_singleton] at hv; rw [hv]; rfl) (by decide) HML.out HBY.out (HBS.out _) _ rfl ?_; intro g6 cap6 w6 hown6 hgr6 hat6 hlt6)
      have HBE6 := Lib.hid ((HBEL.out.alloc HBEL.out.size _).grown hgr6 (HBS.out _) (own_blk HOWN.out))
      have HOWN6 := Lib.hid hown6
      clear hown6 hgr6 hat6 hlt6
      go_roundw
      case rel =>
        have e : icells (l ++ [d]) = icells l ++ [.int .i64 (d : Int)] := by simp [icells]
        exact ⟨i + 1, q, l ++ [d], by first | rfl | exact congrArg (Value.int .i64) HQ7.out, by first | rfl | exact congrArg (Value.int .i64) HQ6.out, HQ.out.2.2.1, HQ.out.1, HQ.out.2.1, by rw [List.length_append, HLL.out]; rfl, HFIN.out.1, HFIN.out.2, ⟨_, _, _, rfl⟩, by rw [List.length_append, e]; exact HOWN6.out, HBE6.out⟩
      case measure =>
        first | exact HQ.out.2.2.2 | (show 1002 - (intOf (Value.int .i64 (wrap64 ((i : Int) + 1)))).toNat < _; rw [HQ7.out]; exact HQ.out.2.2.2)
    · rw [decide_eq_false hgo]
      have hi := HI.out
      have hk0 : k = 0 := by omega
      subst hk0
      have hval : valD l = x + y := by
        have h := HV.out
        rw [mod_far HD.out.len (by omega), mod_far HD2.out.len (by omega)] at h
        omega
      obtain ⟨ra, rc, hrv, hrd⟩ := DigAt.of_own HOWN.out rfl
      injection hrv with e1 e2 e3
      subst e1 e2 e3
      have htr := trimN_is w.heap.size wr _ _ _ l hrd (fun A e => own_blk HOWN.out A.block (congrArg Value.ownBlock (show Value.slice _ _ _ = .slice (some A) _ _ by rw [e]))) (by have := HLL.out; omega) HLT.out
      rw [hval] at htr
      have HTR := Lib.hid htr
      clear htr hval hrd
      go_wp2_with fail
      refine HTR.out.mono ?_
      rintro _ w2 ⟨⟨v', rfl, hv'⟩, rfl⟩
      have HV' := Lib.hid hv'
      clear hv'
      go_wp2
      go_ret
      exact ⟨⟨_, rfl, HV'.out⟩, HBEL.out⟩
end Go.Proofs.YtngmpcmeebcdmaaDoor
