/- The walks of the reference's order and product of two numbers. -/
import Derived.Test.YtcekammjpghjnaaDoorWs
import Derived.Test.YtcekammjpghjnaaDoorUNum3
import Derived.Test.YtcekammjpghjnaaDoorUMem
namespace Go.Proofs.YtcekammjpghjnaaDoor
set_option linter.unusedVariables false
set_option linter.unusedSimpArgs false
open Go.ChangeShapes Go.WideShapes Go.ChangeAt Go.RowKit Go.Maps

set_option maxRecDepth 100000 in
set_option maxHeartbeats 2000000 in
theorem cmp_is (w : World) (a : Option Addr) (n c : Nat) (x : Nat) (a2 : Option Addr) (n2 c2 : Nat) (y : Nat) (hd : DigAt w a n c (digs x)) (hd2 : DigAt w a2 n2 c2 (digs y)) (hn : n ≤ 1000000) (hn2 : n2 ≤ 1000000) :
   Calls Tryd.prog 47 #[.slice a n c, .slice a2 n2 c2] w fun e w' => e = .returned (.int .i64 (cmpN x y)) ∧ Below w.heap.size w w' := by
 have HD := Lib.hid hd
 have HD2 := Lib.hid hd2
 have hl := hd.len
 have hl2 := hd2.len
 have HL := Lib.hid hl
 have HL2 := Lib.hid hl2
 clear hd hd2
 have hlt : n < n2 → cmpN x y = -1 := fun h => by
   have := cmp_len (m := x) (n := y) (by omega)
   unfold cmpN; rw [if_pos this]
 have hgt : n2 < n → cmpN x y = 1 := fun h => by
   have := cmp_len (m := y) (n := x) (by omega)
   unfold cmpN; rw [if_neg (by omega), if_neg (by omega)]
 have HLT := Lib.hid hlt
 have HGT := Lib.hid hgt
 clear hl hl2 hlt hgt
 go_enter Tryd.func47, Tryd.ntmps47
 by_cases h1 : n < n2
 · have h1' : (n : Int) < (n2 : Int) := by omega
   have HE := Lib.hid (HLT.out h1)
   clear h1
   go_wp2
   go_ret
   exact ⟨by rw [HE.out]; rfl, Below.refl _ _⟩
 have h1' : ¬ (n : Int) < (n2 : Int) := by omega
 by_cases h2 : n2 < n
 · have h2' : (n2 : Int) < (n : Int) := by omega
   have HE := Lib.hid (HGT.out h2)
   clear h2
   go_wp2
   go_ret
   exact ⟨by rw [HE.out]; rfl, Below.refl _ _⟩
 have h2' : ¬ (n2 : Int) < (n : Int) := by omega
 have EN := Lib.hid (show n2 = n by omega)
 have hw : wrap64 ((n : Int) - 1) = (n : Int) - 1 := by unfold wrap64; omega
 clear h1 h2
 go_wp2_with fail
 go_loopw [5] (fun iv wr => ∃ i : Int, iv = .int .i64 i ∧ -1 ≤ i ∧ i < n ∧ x / 256 ^ (i + 1).toNat = y / 256 ^ (i + 1).toNat ∧ Below w.heap.size w wr) (fun iv _ => (intOf iv + 1).toNat)
 case atStart =>
   refine ⟨(n : Int) - 1, by go_num, by omega, by omega, ?_, Below.refl _ _⟩
   have e : ((n : Int) - 1 + 1).toNat = n := by omega
   rw [e, digs_over (by rw [HL.out]; exact Nat.le_refl _), digs_over (by rw [HL2.out, EN.out]; exact Nat.le_refl _)]
 case round =>
   obtain ⟨i, rfl, hi1, hi2, hsame, hbel⟩ := hrel
   have HBEL := Lib.hid hbel
   have HS := Lib.hid hsame
   clear hbel hsame hw
   by_cases h0 : 0 ≤ i
   · obtain ⟨j, rfl⟩ : ∃ j : Nat, i = (j : Int) := ⟨i.toNat, by omega⟩
     have hj : j < n := by omega
     obtain ⟨bA, oA, haA, hbA, hclA⟩ := (HD.out.below HBEL.out).at_ (by omega)
     obtain ⟨bB, oB, haB, hbB, hclB⟩ := (HD2.out.below HBEL.out).at_ (by have := EN.out; omega)
     subst haA haB
     have hcA := hclA j hj
     have hcB := hclB j (by have := EN.out; omega)
     rw [digs_at] at hcA hcB
     have hatA := at_dig bA oA n c j hj
     have hatB := at_dig bB oB n2 c2 j (by have := EN.out; omega)
     obtain ⟨da, hda⟩ : ∃ d, d = x / 256 ^ j % 256 := ⟨_, rfl⟩
     obtain ⟨db, hdb⟩ : ∃ d, d = y / 256 ^ j % 256 := ⟨_, rfl⟩
     have hs := HS.out
     have e1 : ((j : Int) + 1).toNat = j + 1 := by omega
     rw [e1] at hs
     rw [← hda] at hcA
     rw [← hdb] at hcB
     have HEQ := Lib.hid (show da = db → x / 256 ^ j = y / 256 ^ j from fun h => cmp_same hs (by rw [← hda, ← hdb]; exact h))
     have HLO := Lib.hid (show da < db → cmpN x y = -1 from fun h => by
       have := cmp_digit hs (by rw [← hda, ← hdb]; exact h)
       unfold cmpN; rw [if_pos this])
     have HHI := Lib.hid (show db < da → cmpN x y = 1 from fun h => by
       have := cmp_digit hs.symm (by rw [← hda, ← hdb]; exact h)
       unfold cmpN; rw [if_neg (by omega), if_neg (by omega)])
     have hw2 : wrap64 ((j : Int) - 1) = (j : Int) - 1 := by unfold wrap64; omega
     clear hclA hclB hda hdb hs e1
     by_cases hq : da = db
     · have hq' : (da : Int) = (db : Int) := by omega
       have HJ := Lib.hid (HEQ.out hq)
       clear hq
       go_upto_region 8 with (fail)
       go_quiet (fail)
       go_wp2
       go_roundw
       case rel =>
         refine ⟨(j : Int) - 1, by go_num, by omega, by omega, ?_, ?_⟩
         · have e : ((j : Int) - 1 + 1).toNat = j := by omega
           rw [e]; exact HJ.out
         · exact below_drewN HBEL.out _
       case measure => first | (simp [intOf]; done) | (simp [intOf]; omega)
     · have hq' : ¬ (da : Int) = (db : Int) := by omega
       by_cases hlo : da < db
       · have hlo' : (da : Int) < (db : Int) := by omega
         have HR := Lib.hid (HLO.out hlo)
         clear hq hlo
         go_upto_region 8 with (fail)
         go_quiet (fail)
         go_upto_region 9 with (fail)
         go_quiet (fail)
         go_wp2
         go_ret
         exact ⟨by rw [HR.out]; rfl, by first | exact below_drewN (below_drewN HBEL.out _) _ | exact below_drewN HBEL.out _⟩
       · have hlo' : ¬ (da : Int) < (db : Int) := by omega
         have HR := Lib.hid (HHI.out (by omega))
         clear hq hlo
         go_upto_region 8 with (fail)
         go_quiet (fail)
         go_upto_region 9 with (fail)
         go_quiet (fail)
         go_wp2
         go_ret
         exact ⟨by rw [HR.out]; rfl, by first | exact below_drewN (below_drewN HBEL.out _) _ | exact below_drewN HBEL.out _⟩
   · have e : i = -1 := by omega
     have HE := Lib.hid (show cmpN x y = 0 by
       have h := HS.out
       rw [e] at h
       have h' : x / 256 ^ 0 = y / 256 ^ 0 := h
       rw [Nat.pow_zero, Nat.div_one, Nat.div_one] at h'
       unfold cmpN; rw [if_neg (by omega), if_pos h'])
     clear e
     go_wp2
     go_ret
     exact ⟨by rw [HE.out]; rfl, HBEL.out⟩

theorem icells_set (ds : List Nat) (p q : Nat) : (icells (ds.set p q)).toArray = (icells ds).toArray.setIfInBounds p (.int .i64 (q : Int)) := by
 rw [List.setIfInBounds_toArray]
 congr 1
 simp [icells, List.map_set]
theorem made_d (w : World) (N : Nat) (hN : N ≤ 1000000000) : (Instr.makeSlice 101 (.int .i64 (N : Int)) (.int .i64 (N : Int))).run Tryd.prog w = .ok (.slice (some ⟨w.heap.size, 0, none⟩) N N) (w.alloc (.cells (icells (List.replicate N 0)).toArray 3)) := by
 obtain ⟨i, h, h0, h1, h2⟩ := info_parts info_int
 have := run_make (P := Tryd.prog) w 101 3 i _ Tryd.underlying101 h h0 .i64 .i64 N N (by omega) (by omega) (by rw [h2]; omega) (by omega)
 rw [h1, Int.toNat_natCast, Nat.mul_one] at this
 have e : madeCells (Value.int .i64 0).cells N = (icells (List.replicate N 0)).toArray := by
  apply Array.ext
  · simp [madeCells, icells]
  · intro j h1 h2
    simp [madeCells, icells, Value.cells, Nat.mod_one]
 rw [e] at this
 exact this
theorem has_dig {w : World} {g : Nat} {out : List Nat} (h : Has w g 3 (icells out).toArray) : DigAt w (some ⟨g, 0, none⟩) out.length out.length out :=
 ⟨rfl, Nat.le_refl _, fun _ => ⟨g, 0, rfl, h.lt, fun i hi => by
  rw [Nat.zero_add]
  refine h.cell_is ?_
  rw [List.getElem?_toArray]
  exact icells_get out i hi⟩⟩
theorem at_out (g n k : Nat) (hk : k < n) (w : World) : (Instr.indexAt 101 (.slice (some ⟨g, 0, none⟩) n n) (.int .i64 (k : Int))).run Tryd.prog w = .ok (.pointer (some ⟨g, k, none⟩)) w := by
 have := at_dig g 0 n n k hk w
 rwa [Nat.zero_add] at this
theorem has_set {w : World} {g : Nat} {out : List Nat} (h : Has w g 3 (icells out).toArray) (p q : Nat) : Has (w.setCell ⟨g, p, none⟩ (.int .i64 (q : Int))) g 3 (icells (out.set p q)).toArray := by
 rw [icells_set]
 exact h.set p _
theorem mul_small {n n2 i k : Nat} (hn : n ≤ 1000) (hn2 : n2 ≤ 1000) (hi : i < n) (hk : k < n2) : (i * n2 + k) * 65025 ≤ 65089960025 := by
 have h1 : i * n2 ≤ 999 * 1000 := Nat.mul_le_mul (by omega) hn2
 omega
theorem wrap64_mul (a b : Nat) (h : a * b < 4611686018427387904) : wrap64 ((a : Int) * (b : Int)) = ((a * b : Nat) : Int) := by
 rw [← Int.natCast_mul]
 exact wrap64_nat _ h
theorem i64_add (a b : Nat) (h : a + b < 4611686018427387904) : IntKind.i64.wrap ((a : Int) + (b : Int)) = ((a + b : Nat) : Int) := by rw [IntKind.wrap_i64]; omega
theorem i64_mul (a b : Nat) (h : a * b < 4611686018427387904) : IntKind.i64.wrap ((a : Int) * (b : Int)) = ((a * b : Nat) : Int) := by
 rw [← Int.natCast_mul]
 generalize a * b = m at h
 rw [IntKind.wrap_i64]; omega
set_option maxRecDepth 100000 in
set_option maxHeartbeats 4000000 in
theorem mul_is (w : World) (a : Option Addr) (n c : Nat) (x : Nat) (a2 : Option Addr) (n2 c2 : Nat) (y : Nat) (hd : DigAt w a n c (digs x)) (hd2 : DigAt w a2 n2 c2 (digs y)) (hn : n ≤ 1000) (hn2 : n2 ≤ 1000) :
  Calls Tryd.prog 46 #[.slice a n c, .slice a2 n2 c2] w fun e w' => (∃ v', e = .returned v' ∧ IsD w' v' (digs (x * y))) ∧ Below w.heap.size w w' := by
 obtain ⟨N, hN⟩ : ∃ N, N = n + n2 + 4 := ⟨_, rfl⟩
 have hs1 : wrap64 ((n : Int) + (n2 : Int)) = (n : Int) + (n2 : Int) := by unfold wrap64; omega
 have hs2 : wrap64 ((n : Int) + (n2 : Int) + 4) = (N : Int) := by unfold wrap64; omega
 have hmk := made_d w N (by omega)
 have HD := Lib.hid hd
 have HD2 := Lib.hid hd2
 have EN := Lib.hid hN
 have HN := Lib.hid (And.intro hn hn2)
 have hla := hd.len
 have hlb := hd2.len
 obtain ⟨A, hA⟩ : ∃ A, A = digs x := ⟨_, rfl⟩
 obtain ⟨B, hB⟩ : ∃ A, A = digs y := ⟨_, rfl⟩
 have hA256 : ∀ d ∈ A, d < 256 := by rw [hA]; exact digs_lt x
 have hB256 : ∀ d ∈ B, d < 256 := by rw [hB]; exact digs_lt y
 have hvA : valD A = x := by rw [hA]; exact digs_val x
 have hvB : valD B = y := by rw [hB]; exact digs_val y
 rw [← hA] at HD hla
 rw [← hB] at HD2 hlb
 have h0 := Has.new w 3 (icells (List.replicate N 0)).toArray
 have hm0 : MulAt A B (List.replicate N 0) 0 0 := by
  have := MulAt.start A B
  rw [hla, hlb, ← hN] at this
  exact this
 have H0 := Lib.hid h0
 have HM0 := Lib.hid hm0
 have LA := Lib.hid (And.intro hla hlb)
 have H256 := Lib.hid (And.intro hA256 hB256)
 have HV := Lib.hid (And.intro hvA hvB)
 clear hd hd2 hN hla hlb hA hB hA256 hB256 hvA hvB h0 hm0 hn hn2
 go_enter Tryd.func46, Tryd.ntmps46
 go_upto_region 2 with (fail)
 clear hmk hs1 hs2
 have hb0 : Below w.heap.size w (w.alloc (.cells (icells (List.replicate N 0)).toArray 3)) := (Below.refl _ _).alloc (Nat.le_refl _) _
 have HB0 := Lib.hid hb0
 clear hb0
 generalize w.alloc (.cells (icells (List.replicate N 0)).toArray 3) = W0 at H0 HB0 ⊢
 obtain ⟨g, hg⟩ : ∃ g, g = w.heap.size := ⟨_, rfl⟩
 rw [← hg] at H0 ⊢
 have EG := Lib.hid hg
 clear hg
 go_wp2_with fail
 go_loopw [19] (fun v wr => ∃ (i : Nat) (out : List Nat), v = .int .i64 (i : Int) ∧ i ≤ n ∧ MulAt A B out i 0 ∧ Has wr g 3 (icells out).toArray ∧ Below w.heap.size w wr) (fun v _ => n - (intOf v).toNat)
 case atStart => exact ⟨0, _, rfl, Nat.zero_le _, HM0.out, H0.out, HB0.out⟩
 case round =>
  obtain ⟨i, out, rfl, hi, hm, hh, hb⟩ := hrel
  have HM := Lib.hid hm
  have HH := Lib.hid hh
  have HB := Lib.hid hb
  clear hm hh hb HM0 H0 HB0
  by_cases hlt : i < n
  · go_wp2_with fail
    go_loopw [24] (fun v wy => ∃ (k : Nat) (out : List Nat), v = .int .i64 (k : Int) ∧ k ≤ n2 ∧ MulAt A B out i k ∧ Has wy g 3 (icells out).toArray ∧ Below w.heap.size w wy) (fun v _ => n2 - (intOf v).toNat)
    case atStart => exact ⟨0, out, rfl, Nat.zero_le _, HM.out, HH.out, HB.out⟩
    case round =>
     obtain ⟨k, ou, rfl, hk, hm, hh, hb⟩ := hrel
     have HM := Lib.hid hm
     have HH := Lib.hid hh
     have HB := Lib.hid hb
     clear hm hh hb
     by_cases hlk : k < n2
     · obtain ⟨bA, oA, haA, hbA, hclA⟩ := (HD.out.below HB.out).at_ (by omega)
       obtain ⟨bB, oB, haB, hbB, hclB⟩ := (HD2.out.below HB.out).at_ (by omega)
       subst haA haB
       have hcA := hclA i hlt
       have hcB := hclB k hlk
       have hatA := at_dig bA oA n c i hlt
       have hatB := at_dig bB oB n2 c2 k hlk
       have hol : ou.length = N := by rw [HM.out.len, LA.out.1, LA.out.2, EN.out]
       obtain ⟨p, hp⟩ : ∃ p, p = i + k := ⟨_, rfl⟩
       have hpN : p < N := by have := EN.out; omega
       have hatO := at_out g N p hpN
       obtain ⟨o, ho⟩ : ∃ o, o = ou.getD p 0 := ⟨_, rfl⟩
       have hcO : wr.cell? ⟨g, p, none⟩ = some (.int .i64 (o : Int)) := by
        refine HH.out.cell_is ?_
        rw [List.getElem?_toArray, icells_get ou p (by omega), ← ho]
       have hfO : wr.frozen? ⟨g, p, none⟩ = false := HH.out.free _
       obtain ⟨da, hda⟩ : ∃ d, d = A.getD i 0 := ⟨_, rfl⟩
       obtain ⟨db, hdb⟩ : ∃ d, d = B.getD k 0 := ⟨_, rfl⟩
       obtain ⟨m, hm⟩ : ∃ m, m = da * db := ⟨_, rfl⟩
       obtain ⟨q, hq⟩ : ∃ q, q = o + m := ⟨_, rfl⟩
       have hst := HM.out.step (i := i) (k := k) (by rw [LA.out.1]; exact hlt) (by rw [LA.out.2]; exact hlk) H256.out.1 H256.out.2
       rw [← hp, ← ho, ← hda, ← hdb, ← hm, ← hq] at hst
       have hob : o ≤ 65089960025 := by
        rw [ho]
        refine getD_le (fun d hd => Nat.le_trans (HM.out.low d hd) ?_) p
        rw [LA.out.2]
        exact mul_small HN.out.1 HN.out.2 hlt hlk
       have hmb : m ≤ 255 * 255 := by
        rw [hm]
        exact Nat.mul_le_mul (by rw [hda]; exact getD_le (fun d hd => Nat.le_of_lt_succ (H256.out.1 d hd)) i) (by rw [hdb]; exact getD_le (fun d hd => Nat.le_of_lt_succ (H256.out.2 d hd)) k)
       have hb1 : i + k < 4611686018427387904 := by have := HN.out; omega
       have hb2 : da * db < 4611686018427387904 := by rw [← hm]; omega
       have hb3 : o + m < 4611686018427387904 := by omega
       have hb4 : k < 4611686018427387904 := by have := HN.out; omega
       rw [← hda] at hcA
       rw [← hdb] at hcB
       have HM2 := Lib.hid hst
       have hkw : Kept (· = g) wr ((wr.setCell ⟨g, p, none⟩ (.int .i64 (q : Int))).drew) := ((Kept.refl (· = g) wr).set (p := ⟨g, p, none⟩) (.inl rfl) _).drew
       have hhw : Has ((wr.setCell ⟨g, p, none⟩ (.int .i64 (q : Int))).drew) g 3 (icells (ou.set p q)).toArray := has_set HH.out p q
       have hbw : Below w.heap.size w ((wr.setCell ⟨g, p, none⟩ (.int .i64 (q : Int))).drew) := HB.out.trans (hkw.below HB.out.size (fun j e => by have e' : j = g := e; have := EG.out; omega))
       have hgA : bA ≠ g := fun e => by
        obtain ⟨b', o', e1, h1, _⟩ := HD.out.at_ (by omega)
        injection e1 with e1
        injection e1 with e1 e2
        have := EG.out; omega
       have hgB : bB ≠ g := fun e => by
        obtain ⟨b', o', e1, h1, _⟩ := HD2.out.at_ (by omega)
        injection e1 with e1
        injection e1 with e1 e2
        have := EG.out; omega
       have hS0 : wr.cell? ⟨bA, oA + i, none⟩ = some (.int .i64 (da : Int)) ∧ wr.cell? ⟨bB, oB + k, none⟩ = some (.int .i64 (db : Int)) := ⟨hcA, hcB⟩
       have hS2 : ((wr.setCell ⟨g, p, none⟩ (.int .i64 (q : Int))).drew).cell? ⟨bA, oA + i, none⟩ = some (.int .i64 (da : Int)) ∧ ((wr.setCell ⟨g, p, none⟩ (.int .i64 (q : Int))).drew).cell? ⟨bB, oB + k, none⟩ = some (.int .i64 (db : Int)) := ⟨cell_held hkw hcA hgA, cell_held hkw hcB hgB⟩
       have HHW := Lib.hid hhw
       have HBW := Lib.hid hbw
       have HK2 := Lib.hid (And.intro hlk (show n2 - (k + 1) < n2 - k from Nat.sub_lt_sub_left hlk (Nat.lt_succ_self k)))
       have hw1 := wrap64_add i k hb1
       have hw2 := wrap64_mul da db hb2
       have hw3 := wrap64_add o m hb3
       have hw4 := wrap64_succ k hb4
       have hv1 := i64_add i k hb1
       have hv2 := i64_mul da db hb2
       have hv3 := i64_add o m hb3
       rw [← hp] at hw1 hv1
       rw [← hm] at hw2 hv2
       rw [← hq] at hw3 hv3
       have HQ4 := Lib.hid hw4
       clear hclA hclB hp ho hda hdb hm hq hst hob hmb hb1 hb2 hb3 hb4 hkw hhw hbw hgA hgB hcA hcB hol hpN
       go_upto_region 8 with (fail)
       refine wp_region_noPanic ?_
       refine wp_region_held_drew (S := (fun v => v.cell? ⟨bA, oA + i, none⟩ = some (.int .i64 (da : Int)) ∧ v.cell? ⟨bB, oB + k, none⟩ = some (.int .i64 (db : Int)))) (by kernel_rfl) hS0 (fun hH0 => ?_)
       refine tk 0 (v := ((.slice (some ⟨g, 0, none⟩) N N))) rfl (Or.inl ⟨by kernel_rfl, by intro w' hS; obtain ⟨e0, e1⟩ := hS; go_simp⟩) hH0 ?_
       simp only [Act.put, qa]
       refine tk 1 (v := (.int .i64 (i : Int))) rfl (Or.inl ⟨by kernel_rfl, by intro w' hS; obtain ⟨e0, e1⟩ := hS; go_simp⟩) hH0 ?_
       simp only [Act.put, qa]
       refine tk 2 (v := (.int .i64 (k : Int))) rfl (Or.inl ⟨by kernel_rfl, by intro w' hS; obtain ⟨e0, e1⟩ := hS; go_simp⟩) hH0 ?_
       simp only [Act.put, qa]
       refine tk 3 (v := (.int .i64 (p : Int))) rfl (Or.inl ⟨by kernel_rfl, by intro w' hS; obtain ⟨e0, e1⟩ := hS; go_simp⟩) hH0 ?_
       simp only [Act.put, qa]
       refine tk 4 (v := ((.pointer (some ⟨g, p, none⟩)))) rfl (Or.inl ⟨by kernel_rfl, by intro w' hS; obtain ⟨e0, e1⟩ := hS; go_simp⟩) hH0 ?_
       simp only [Act.put, qa]
       refine tk 6 (v := ((.slice (some ⟨bA, oA, none⟩) n c))) rfl (Or.inl ⟨by kernel_rfl, by intro w' hS; obtain ⟨e0, e1⟩ := hS; go_simp⟩) hH0 ?_
       simp only [Act.put, qa]
       refine tk 7 (v := (.int .i64 (i : Int))) rfl (Or.inl ⟨by kernel_rfl, by intro w' hS; obtain ⟨e0, e1⟩ := hS; go_simp⟩) hH0 ?_
       simp only [Act.put, qa]
       refine tk 8 (v := ((.pointer (some ⟨bA, oA + i, none⟩)))) rfl (Or.inl ⟨by kernel_rfl, by intro w' hS; obtain ⟨e0, e1⟩ := hS; go_simp⟩) hH0 ?_
       simp only [Act.put, qa]
       refine tk 9 (v := (.int .i64 (da : Int))) rfl (Or.inl ⟨by kernel_rfl, by intro w' hS; obtain ⟨e0, e1⟩ := hS; go_simp⟩) hH0 ?_
       simp only [Act.put, qa]
       refine tk 10 (v := ((.slice (some ⟨bB, oB, none⟩) n2 c2))) rfl (Or.inl ⟨by kernel_rfl, by intro w' hS; obtain ⟨e0, e1⟩ := hS; go_simp⟩) hH0 ?_
       simp only [Act.put, qa]
       refine tk 11 (v := (.int .i64 (k : Int))) rfl (Or.inl ⟨by kernel_rfl, by intro w' hS; obtain ⟨e0, e1⟩ := hS; go_simp⟩) hH0 ?_
       simp only [Act.put, qa]
       refine tk 12 (v := ((.pointer (some ⟨bB, oB + k, none⟩)))) rfl (Or.inl ⟨by kernel_rfl, by intro w' hS; obtain ⟨e0, e1⟩ := hS; go_simp⟩) hH0 ?_
       simp only [Act.put, qa]
       refine tk 13 (v := (.int .i64 (db : Int))) rfl (Or.inl ⟨by kernel_rfl, by intro w' hS; obtain ⟨e0, e1⟩ := hS; go_simp⟩) hH0 ?_
       simp only [Act.put, qa]
       refine tk 14 (v := (.int .i64 (m : Int))) rfl (Or.inl ⟨by kernel_rfl, by intro w' hS; obtain ⟨e0, e1⟩ := hS; go_simp⟩) hH0 ?_
       simp only [Act.put, qa]
       refine wpAnyH_ready (rs := [5]) (by kernel_rfl) (by simp) ?_
       refine AllReadyH.cons rfl (fun K hK => ?_) AllReadyH.nil
       go_simp
       refine Shut.out hK _ _ hH0 (fun hH1 => ?_)
       clear hK K
       try simp only [Act.put, qa]
       refine tk 15 (v := (.int .i64 (q : Int))) rfl (Or.inl ⟨by kernel_rfl, by intro w' hS; obtain ⟨e0, e1⟩ := hS; go_simp⟩) hH1 ?_
       simp only [Act.put, qa]
       refine tk 16 (v := ((.pointer (some ⟨g, p, none⟩)))) rfl (Or.inl ⟨by kernel_rfl, by intro w' hS; obtain ⟨e0, e1⟩ := hS; go_simp⟩) hH1 ?_
       simp only [Act.put, qa]
       refine wpAnyH_ready (rs := [17]) (by kernel_rfl) (by simp) ?_
       refine AllReadyH.cons rfl (fun K hK => ?_) AllReadyH.nil
       go_simp
       refine Shut.out hK _ _ hS2 (fun hH2 => ?_)
       clear hK K
       try simp only [Act.put, qa]
       refine wpAnyH_done (by kernel_rfl) ?_ _
       refine NoPanic.normal ?_
       have hhw := HHW.out
       have hbw := HBW.out
       clear HHW HBW hH0 hH1 hH2 hS0 hS2 hcO hfO HH HM HB hatA hatB hatO
       generalize (wr.setCell ⟨g, p, none⟩ (.int .i64 (q : Int))).drew = WB at hhw hbw ⊢
       have HHW := Lib.hid hhw
       have HBW := Lib.hid hbw
       clear hhw hbw
       go_wp2
       go_roundw
       case rel => exact ⟨k + 1, ou.set p q, by first | rfl | exact congrArg (Value.int .i64) HQ4.out, HK2.out.1, HM2.out, HHW.out, HBW.out⟩
       case measure =>
        first | exact HK2.out.2 | (show n2 - (intOf (Value.int .i64 (wrap64 ((k : Int) + 1)))).toNat < _; rw [HQ4.out]; exact HK2.out.2)
     · have HR := Lib.hid (show MulAt A B ou (i + 1) 0 from by
        have h := HM.out
        have e : k = B.length := by rw [LA.out.2]; omega
        rw [e] at h
        exact h.row)
       have hk' : ¬ (k : Int) < (n2 : Int) := by omega
       have hb4 : i < 4611686018427387904 := by have := HN.out; omega
       have hw4 := wrap64_succ i hb4
       have HQ4 := Lib.hid hw4
       have HK2 := Lib.hid (And.intro hlt (show n - (i + 1) < n - i from Nat.sub_lt_sub_left hlt (Nat.lt_succ_self i)))
       clear hb4 hlk
       go_wp2
       go_roundw
       case rel => exact ⟨i + 1, ou, by first | rfl | exact congrArg (Value.int .i64) HQ4.out, HK2.out.1, HR.out, HH.out, HB.out⟩
       case measure =>
        first | exact HK2.out.2 | (show n - (intOf (Value.int .i64 (wrap64 ((i : Int) + 1)))).toNat < _; rw [HQ4.out]; exact HK2.out.2)
  · have hc0 : CarryAt (x * y) 100000000000 out 0 0 := by
     have h := HM.out
     have e : i = A.length := by rw [LA.out.1]; omega
     rw [e] at h
     have hv := h.val
     rw [List.take_length, HV.out.1, HV.out.2] at hv
     refine ⟨by rw [hv]; simp [valD], fun j d hj => absurd hj (by omega), fun d hd => Nat.le_trans (h.low d hd) ?_, by omega, by omega⟩
     rw [LA.out.1, LA.out.2]
     have h1 : n * n2 ≤ 1000 * 1000 := Nat.mul_le_mul HN.out.1 HN.out.2
     omega
    have hol : out.length = N := by rw [HM.out.len, LA.out.1, LA.out.2, EN.out]
    have HC0 := Lib.hid (And.intro hol hc0)
    clear hc0 hol HM
    go_wp2_with fail
    go_loopw [8, 48] (fun cv v wy => ∃ (i cc : Nat) (out : List Nat), cv = .int .i64 (cc : Int) ∧ v = .int .i64 (i : Int) ∧ i ≤ N ∧ (out.length = N ∧ CarryAt (x * y) 100000000000 out i cc) ∧ Has wy g 3 (icells out).toArray ∧ Below w.heap.size w wy) (fun _ v _ => N - (intOf v).toNat)
    case atStart => exact ⟨0, 0, out, rfl, rfl, Nat.zero_le _, HC0.out, HH.out, HB.out⟩
    case round =>
     clear HC0 HH HB
     obtain ⟨j, cc, ou, rfl, rfl, hj, ⟨hol, hca⟩, hh, hb⟩ := hrel
     have HCA := Lib.hid hca
     have HOL := Lib.hid hol
     have HH := Lib.hid hh
     have HB := Lib.hid hb
     clear hol hca hh hb
     by_cases hjl : j < N
     · have hatO := at_out g N j hjl
       obtain ⟨o, ho⟩ : ∃ o, o = ou.getD j 0 := ⟨_, rfl⟩
       have hcO : wr.cell? ⟨g, j, none⟩ = some (.int .i64 (o : Int)) := by
        refine HH.out.cell_is ?_
        rw [List.getElem?_toArray, icells_get ou j (by rw [HOL.out]; exact hjl), ← ho]
       have hfO : wr.frozen? ⟨g, j, none⟩ = false := HH.out.free _
       obtain ⟨t, ht⟩ : ∃ t, t = cc + o := ⟨_, rfl⟩
       obtain ⟨d, hd⟩ : ∃ d, d = t % 256 := ⟨_, rfl⟩
       obtain ⟨q, hq⟩ : ∃ q, q = t / 256 := ⟨_, rfl⟩
       have hst := HCA.out.step (by rw [HOL.out]; exact hjl)
       rw [← ho, ← ht, ← hd, ← hq] at hst
       have hob : o ≤ 100000000000 := by rw [ho]; exact getD_le HCA.out.top j
       have hcb := HCA.out.car
       have hb1 : cc + o < 4611686018427387904 := by omega
       have hb2 : d < 4611686018427387904 := by omega
       have hb3 : q < 4611686018427387904 := by omega
       have hb4 : j < 4611686018427387904 := by have := HN.out; have := EN.out; omega
       have hm1 : (t : Int) % 256 = (d : Int) := by omega
       have hm2 : (t : Int) / 256 = (q : Int) := by omega
       have hkw : Kept (· = g) wr (wr.setCell ⟨g, j, none⟩ (.int .i64 (d : Int))) := (Kept.refl (· = g) wr).set (p := ⟨g, j, none⟩) (.inl rfl) _
       have hhw : Has (wr.setCell ⟨g, j, none⟩ (.int .i64 (d : Int))) g 3 (icells (ou.set j d)).toArray := has_set HH.out j d
       have hbw : Below w.heap.size w (wr.setCell ⟨g, j, none⟩ (.int .i64 (d : Int))) := HB.out.trans (hkw.below HB.out.size (fun j e => by have e' : j = g := e; have := EG.out; omega))
       have HHW := Lib.hid hhw
       have HBW := Lib.hid hbw
       have HST := Lib.hid (And.intro (show (ou.set j d).length = N by rw [List.length_set]; exact HOL.out) hst)
       have HK2 := Lib.hid (And.intro hjl (show N - (j + 1) < N - j from Nat.sub_lt_sub_left hjl (Nat.lt_succ_self j)))
       have hm3 : Int.tmod (t : Int) 256 = (d : Int) := by rw [Int.tmod_eq_emod_of_nonneg (Int.natCast_nonneg _)]; exact hm1
       have hm4 : Int.tdiv (t : Int) 256 = (q : Int) := by rw [Int.tdiv_eq_ediv_of_nonneg (Int.natCast_nonneg _)]; exact hm2
       have hw1 := wrap64_add cc o hb1
       rw [← ht] at hw1
       have hw2 := wrap64_nat d hb2
       have hw3 := wrap64_nat q hb3
       have hw4 := wrap64_succ j hb4
       have HQ := Lib.hid (And.intro hw3 hw4)
       clear ho ht hd hq hst hob hcb hb1 hb2 hb3 hb4 hkw hhw hbw
       go_wp2
       go_roundw
       case rel => exact ⟨j + 1, q, ou.set j d, by first | rfl | exact congrArg (Value.int .i64) HQ.out.1, by first | rfl | exact congrArg (Value.int .i64) HQ.out.2, HK2.out.1, HST.out, HHW.out, HBW.out⟩
       case measure =>
        first | exact HK2.out.2 | (show N - (intOf (Value.int .i64 (wrap64 ((j : Int) + 1)))).toNat < _; rw [HQ.out.2]; exact HK2.out.2)
     · have hjn : ¬ (j : Int) < (N : Int) := by omega
       have hP : x * y < 256 ^ N := by
        have := prod_lt A B H256.out.1 H256.out.2
        rw [HV.out.1, HV.out.2, LA.out.1, LA.out.2, ← EN.out] at this
        exact this
       have hca := HCA.out
       have e : j = ou.length := by rw [HOL.out]; omega
       rw [e] at hca
       obtain ⟨v1, v2⟩ := hca.done (by rw [HOL.out]; exact hP)
       have hdg := has_dig HH.out
       rw [HOL.out] at hdg
       have htr := trim_is wr (some ⟨g, 0, none⟩) N N ou hdg (by have := HN.out; have := EN.out; omega) v2
       rw [v1] at htr
       have HTR := Lib.hid htr
       clear hP hca e v1 v2 hdg htr
       go_wp2_with fail
       refine HTR.out.mono ?_
       rintro _ w2 ⟨⟨v', rfl, hv'⟩, rfl⟩
       have HV' := Lib.hid hv'
       clear hv'
       go_wp2
       go_ret
       exact ⟨⟨_, rfl, HV'.out⟩, HB.out⟩
end Go.Proofs.YtcekammjpghjnaaDoor

