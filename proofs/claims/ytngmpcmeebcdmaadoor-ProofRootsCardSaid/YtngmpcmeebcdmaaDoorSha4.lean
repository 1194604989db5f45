/- The walk of (*sha.Hasher).Write. -/
import Derived.Test.YtngmpcmeebcdmaaDoorSha3
namespace Go.Proofs.YtngmpcmeebcdmaaDoor
set_option linter.unusedVariables false
set_option linter.unusedSimpArgs false
open Go.ChangeShapes Go.WideShapes Go.ChangeAt Go.RowKit

theorem Bytes.kept {w w' : World} {g : Nat} {v : Value} {b : List Nat} (h : Bytes w g v b) (hk : Kept (· = g) w w') : Bytes w' g v b := by
  obtain ⟨a, c, rfl, h1, h2, h3⟩ := h
  refine ⟨a, c, rfl, h1, h2, fun h => ?_⟩
  obtain ⟨bg, bo, rfl, hne, hc⟩ := h3 h
  exact ⟨bg, bo, rfl, hne, fun i hi => cell_kept hk (hc i hi) hne⟩
theorem size_u8 : (Tryd.prog.info? 5).map (·.size) = some 1 := by kernel_rfl
theorem bcells_one (bs : List Nat) : ∀ u ∈ bcells bs, u.oneCell' = true := by
  intro u hu; obtain ⟨n, _, rfl⟩ := List.mem_map.1 hu; rfl

theorem Bytes.src {w : World} {g : Nat} {a : Option Addr} {n c : Nat} {b : List Nat} {v : Value} (h : Bytes w g v b) (hv : v = .slice a n c) (k : Nat) (hk : k ≤ b.length) (hp : 0 < (bcells (b.take k)).length) :
    ∃ ad, a = some ad ∧ ∀ j u, (bcells (b.take k))[j]? = some u → w.cell? (ad.add j) = some u := by
  obtain ⟨a', c', e, _, _, hb⟩ := h
  subst hv
  rw [bcells_length, List.length_take] at hp
  have hb0 : 0 < b.length := by omega
  obtain ⟨bg, bo, ha, _, hc⟩ := hb hb0
  subst ha
  injection e with e1
  refine ⟨_, e1, fun j u hu => ?_⟩
  have hj := (List.getElem?_eq_some_iff.1 hu).1
  rw [bcells_length, List.length_take] at hj
  rw [bcells_get _ _ (by rw [List.length_take]; exact hj)] at hu
  injection hu with hu
  have hj2 : j < b.length := by omega
  have hj3 : j < k := by omega
  rw [Addr.add_mid, hc j hj2, ← hu]
  simp [List.getD_eq_getElem?_getD, List.getElem?_take, hj3]

theorem Bytes.cut {w : World} {g : Nat} {a : Option Addr} {n c : Nat} {b : List Nat} (h : Bytes w g (.slice a n c) b) (k : Nat) (hk : k ≤ n) :
    ∃ a1 c1, (∀ w', (Instr.slice 29 (.slice a n c) (some (.int .i64 (k : Int))) none none).run Tryd.prog w' = .ok (.slice a1 (n - k) c1) w') ∧ (∀ w', (Instr.sliceAt 29 (.slice a n c) (some (.int .i64 (k : Int))) none none).run Tryd.prog w' = .ok (.slice a1 (n - k) c1) w') ∧ Bytes w g (.slice a1 (n - k) c1) (b.drop k) := by
  obtain ⟨a', c', e, hc, hb, hp⟩ := h
  injection e with e1 e2 e3
  subst e1 e2 e3
  have hu : Tryd.prog.underlying 29 = some (.slice (Tryd.prog.elem 29)) := by kernel_rfl
  have he : Tryd.prog.elem 29 = 5 := by kernel_rfl
  have hr : ∀ w', (Instr.slice 29 (.slice a b.length c) (some (.int .i64 (k : Int))) none none).run Tryd.prog w' = .ok (.slice (if c = k then a else a.map (·.add k)) (b.length - k) (c - k)) w' := fun w' => by
    rw [run_slice_l w' 29 a b.length c hu .i64 (k : Int) (by omega) (by omega), he, size1]
    simp only [Result.andThen, sliced, Int.toNat_natCast, Nat.mul_one]
  refine ⟨_, _, hr, fun w' => by rw [run_sliceAt_slice w' 29 _ _ _ _ hu]; exact hr w', _, _, by rw [List.length_drop], by rw [List.length_drop]; omega, fun x hx => hb x (List.mem_of_mem_drop hx), fun h0 => ?_⟩
  rw [List.length_drop] at h0
  have hb0 : 0 < b.length := by omega
  obtain ⟨bg, bo, rfl, hne, hcl⟩ := hp hb0
  clear hp
  refine ⟨bg, bo + k, ?_, hne, fun i hi => ?_⟩
  · rw [if_neg (by omega), Option.map_some, Addr.add_mid]
  · rw [List.length_drop] at hi
    rw [Nat.add_assoc, hcl (k + i) (by omega)]
    simp [List.getD_eq_getElem?_getD, List.getElem?_drop]
/-- a slice's length. -/
def lenOf : Value → Nat
  | .slice _ n _ => n
  | _ => 0
/-- what stands at rest, and what comes, is what comes of all. -/
theorem full_block (m b rest : List Nat) (k : Nat) (hr : rest.take (m.length % 64) = m.drop (64 * (m.length / 64))) (h64 : rest.length = 64) (hk : m.length % 64 + k = 64) (hb : k ≤ b.length) :
    rest.take (m.length % 64) ++ (b.take k ++ rest.drop 64) = ((m ++ b).drop (64 * (m.length / 64))).take 64 := by
  rw [hr, List.drop_eq_nil_of_le (show rest.length ≤ 64 by omega), List.append_nil, List.drop_append_of_le_length (by omega), List.take_append, List.length_drop, List.take_of_length_le (l := m.drop (64 * (m.length / 64))) (by rw [List.length_drop]; omega)]
  have e : 64 - (m.length - 64 * (m.length / 64)) = k := by omega
  rw [e]
theorem part_rest (m b rest : List Nat) (Y : List Nat) (hr : rest.take (m.length % 64) = m.drop (64 * (m.length / 64))) :
    (rest.take (m.length % 64) ++ (b.take b.length ++ Y)).take (m.length % 64 + b.length) = (m ++ b).drop (64 * (m.length / 64)) := by
  have hx : (m.drop (64 * (m.length / 64))).length = m.length % 64 := by rw [List.length_drop]; omega
  rw [hr, List.take_length, ← List.append_assoc, List.take_append_of_le_length (by rw [List.length_append, hx]; exact Nat.le_refl _), List.take_of_length_le (by rw [List.length_append, hx]; exact Nat.le_refl _), List.drop_append_of_le_length (by omega)]
theorem get_low {l : List Nat} (h : ∀ x ∈ l, x < 256) (i : Nat) : l.getD i 0 < 256 := by
  rw [List.getD_eq_getElem?_getD]
  cases hi : l[i]? with
  | none => simp
  | some x => simpa using h x (List.mem_of_getElem? hi)
theorem take_cell {w : World} {bg bo n k : Nat} {l : List Nat} (h : ∀ i, i < n → w.cell? ⟨bg, bo + i, none⟩ = some (.int .u8 (l.getD i 0 : Nat))) (hk : k ≤ n) (i : Nat) (hi : i < k) :
    w.cell? ⟨bg, bo + i, none⟩ = some (.int .u8 ((l.take k).getD i 0 : Nat)) := by
  rw [h i (by omega)]
  simp [List.getD_eq_getElem?_getD, List.getElem?_take, hi]
theorem eat_more (K s0 : List Wd) (q : Nat) (M : List Nat) : mixF K (eat K q s0 M) ((M.drop (64 * q)).take 64) = eat K (q + 1) s0 M := by
  rw [eat_add K s0 q 1 M]; rfl

set_option maxRecDepth 100000 in
set_option maxHeartbeats 2000000 in
theorem write_is (K s0 : List Wd) (w : World) (g : Nat) (m : List Nat) (v : Value) (b : List Nat) (hT : Tabs K s0 w) (h : Hsh K s0 w g m) (h3 : 2 + 1 ≤ g) (hB : Bytes w g v b) (hl : m.length + b.length ≤ 1000000000) :
    Calls Tryd.prog 80 #[.pointer (some ⟨g, 0, none⟩), v] w fun e w' =>
      e = .returned (.tuple #[]) ∧ Hsh K s0 w' g (m ++ b) ∧ Kept (· = g) w w' := by
  have HB := Lib.hid hB
  obtain ⟨a, c, rfl, hbc, hb256, hbp⟩ := hB
  obtain ⟨rest, hO, hrt, _⟩ := h
  obtain ⟨c72, c73⟩ := hO.facts
  have f73 := hO.free 73
  have HO := Lib.hid hO
  have HT := Lib.hid hT
  have HRT := Lib.hid hrt
  have HB2 := Lib.hid hb256
  have HBP := Lib.hid hbp
  obtain ⟨ml, hml⟩ : ∃ x : Nat, x = m.length := ⟨_, rfl⟩
  obtain ⟨bl, hbl⟩ : ∃ x : Nat, x = b.length := ⟨_, rfl⟩
  obtain ⟨at0, hat⟩ : ∃ x : Nat, x = m.length % 64 := ⟨_, rfl⟩
  have hat64 : at0 < 64 := by omega
  rw [← hml, ← hbl] at hl
  rw [← hml] at c73
  rw [← hat] at c72
  rw [← hbl] at hbc
  rw [← hbl]
  have HM := Lib.hid hml
  have HL := Lib.hid hbl
  have HAT := Lib.hid hat
  clear hT hO hrt hb256 hbp hml hbl hat
  go_enter Tryd.func80, Tryd.ntmps80
  go_upto_if 21 with (fail)
  go_cut [1] (fun v wr => ∃ q rest', 64 * q ≤ ml + bl ∧ HObj wr g (eat K q s0 (m ++ b)) rest' 0 ((ml + bl : Nat) : Int) ∧ Bytes wr g v ((m ++ b).drop (64 * q)) ∧ Kept (· = g) w wr)
  case first =>
    have hO1 : HObj (w.setCell ⟨g, 73, none⟩ (.int .u64 ((ml : Int) + (bl : Int)))) g (eat K (m.length / 64) s0 m) rest (at0 : Int) ((ml : Int) + (bl : Int)) := by
      have := HO.out.setN ((ml : Int) + (bl : Int))
      rw [← HAT.out] at this
      exact this
    have hK1 : Kept (· = g) w (w.setCell ⟨g, 73, none⟩ (.int .u64 ((ml : Int) + (bl : Int)))) := (Kept.refl (· = g) w).set (.inl rfl) _
    generalize w.setCell ⟨g, 73, none⟩ (.int .u64 ((ml : Int) + (bl : Int))) = w1 at hO1 hK1 ⊢
    have hB1 := HB.out.kept hK1
    obtain ⟨d72, d73⟩ := hO1.facts
    clear c72 c73 f73 HBP HO
    have HO1 := Lib.hid hO1
    have HK1 := Lib.hid hK1
    have HB1 := Lib.hid hB1
    clear hO1 hK1 hB1
    by_cases h0 : at0 = 0
    · subst h0
      go_wp2
      go_meet
      case rel =>
        refine ⟨m.length / 64, rest, by have := HM.out; have := HL.out; omega, ?_, ?_, HK1.out⟩
        · rw [eat_append _ _ _ _ _ (by omega), Int.natCast_add]; exact HO1.out
        · rw [List.drop_append, List.drop_eq_nil_of_le (by have := HAT.out; omega), show 64 * (m.length / 64) - m.length = 0 by omega, List.nil_append, List.drop_zero, HL.out]; exact HB1.out
    · have HSRC := Lib.hid (fun k (hk : k ≤ bl) hp => HB1.out.src rfl k (by rw [← HL.out]; exact hk) hp)
      by_cases hs : at0 + bl < 64
      · have hln : (bcells (b.take bl)).length = bl := by rw [bcells_length, List.length_take]; have := HL.out; omega
        have hcut := fun w => cut_from (t := 157) (n := 64) (by kernel_rfl) (by kernel_rfl) size1 w g 8 at0 hat64
        go_wp2_with fail
        go_region_law (refine step_copy_kept rfl (.tmp 29) (.tmp 30) 29 29 rfl 5 Tryd.underlying29 size_u8 (some ⟨g, 8 + at0, none⟩) a (64 - at0) (64 - at0) bl c (by rfl) (by rfl) g (8 + at0) (hcells (eat K (m.length / 64) s0 m) rest (at0 : Int) ((ml : Int) + (bl : Int))) 159 (w := w1.drew) HO1.out.1 (bcells (b.take bl)) (by rw [hln]; exact (Nat.min_eq_left (by omega)).symm) (fun hp => ⟨rfl, HSRC.out bl (Nat.le_refl _) hp⟩) (by have := HO1.out.full; rw [hln]; omega) (bcells_one _) ?_; intro w2 hw2 hk2)
        have ho2 := HO1.out.spliced (o := at0) (b := b.take bl) (by rw [List.length_take]; omega) (fun x hx => HB2.out x (List.mem_of_mem_take hx)) hw2
        obtain ⟨e72, e73⟩ := ho2.facts
        have f72 := ho2.free 72
        have HO2 := Lib.hid (ho2.setAt ((at0 : Int) + (bl : Int)))
        have HK2 := Lib.hid ((HK1.out.trans hk2.undrew).set (.inl rfl) (p := ⟨g, 72, none⟩) (.int .i64 ((at0 : Int) + (bl : Int))))
        clear ho2 hw2 hk2 HO1 HK1
        have hfin : Hsh K s0 (w2.setCell ⟨g, 72, none⟩ (.int .i64 ((at0 : Int) + (bl : Int)))) g (m ++ b) := by
          have h1 := HM.out
          have h2 := HL.out
          have h4 := HAT.out
          have e1 : (m ++ b).length = ml + bl := by rw [List.length_append]; omega
          have e2 : (ml + bl) / 64 = m.length / 64 := by omega
          have e3 : (ml + bl) % 64 = at0 + bl := by omega
          refine ⟨rest.take at0 ++ (b.take bl ++ rest.drop (at0 + (b.take bl).length)), ?_, ?_, by omega⟩
          · rw [e1, e2, e3, eat_append _ _ _ _ _ (by omega), Int.natCast_add, Int.natCast_add]
            exact HO2.out
          · rw [e1, e2, e3, h4, h2]
            exact part_rest m b rest _ HRT.out
        have HFIN := Lib.hid hfin
        clear hfin
        go_wp2
        all_goals
          refine bodyPost_ret (results_none rfl _ _ _) rfl ?_
          exact ⟨rfl, HFIN.out, HK2.out⟩
      · have hln : (bcells (b.take (64 - at0))).length = 64 - at0 := by rw [bcells_length, List.length_take]; have := HL.out; omega
        have hcut := fun w => cut_from (t := 157) (n := 64) (by kernel_rfl) (by kernel_rfl) size1 w g 8 at0 hat64
        obtain ⟨a1, c1, hs1, hs2, hB2⟩ := HB1.out.cut (64 - at0) (by have := HL.out; omega)
        rw [← HL.out] at hs1 hs2 hB2
        have e64 : ((64 - at0 : Nat) : Int) = 64 - (at0 : Int) := by omega
        rw [e64] at hs1 hs2
        have HBB := Lib.hid hB2
        clear hB2
        go_wp2_with fail
        go_region_law (refine step_copy_kept rfl (.tmp 29) (.tmp 30) 29 29 rfl 5 Tryd.underlying29 size_u8 (some ⟨g, 8 + at0, none⟩) a (64 - at0) (64 - at0) bl c (by rfl) (by rfl) g (8 + at0) (hcells (eat K (m.length / 64) s0 m) rest (at0 : Int) ((ml : Int) + (bl : Int))) 159 (w := w1.drew) HO1.out.1 (bcells (b.take (64 - at0))) (by rw [hln]; exact (Nat.min_eq_right (by omega)).symm) (fun hp => ⟨rfl, HSRC.out (64 - at0) (by omega) hp⟩) (by have := HO1.out.full; rw [hln]; omega) (bcells_one _) ?_; intro w2 hw2 hk2)
        have ho2 := HO1.out.spliced (o := at0) (b := b.take (64 - at0)) (by rw [List.length_take]; omega) (fun x hx => HB2.out x (List.mem_of_mem_take hx)) hw2
        have hlt : (b.take (64 - at0)).length = 64 - at0 := by rw [← bcells_length]; exact hln
        have hblk : rest.take at0 ++ (b.take (64 - at0) ++ rest.drop (at0 + (b.take (64 - at0)).length)) = ((m ++ b).drop (64 * (m.length / 64))).take 64 := by
          have h4 := HAT.out
          have h2 := HL.out
          rw [hlt, show at0 + (64 - at0) = 64 by omega, h4]
          exact full_block m b rest _ HRT.out HO1.out.2.2.1 (by omega) (by omega)
        rw [hblk] at ho2
        obtain ⟨e72, e73⟩ := ho2.facts
        have f72 := ho2.free 72
        have ho3 := ho2.setAt ((at0 : Int) + (64 - (at0 : Int)))
        have hk3 := (HK1.out.trans hk2.undrew).set (.inl rfl) (p := ⟨g, 72, none⟩) (.int .i64 ((at0 : Int) + (64 - (at0 : Int))))
        have HO3 := Lib.hid ho3
        have HK3 := Lib.hid hk3
        have HBB3 := Lib.hid ((HBB.out.kept hk2.undrew).kept ((Kept.refl (· = g) w2).set (.inl rfl) (p := ⟨g, 72, none⟩) (.int .i64 ((at0 : Int) + (64 - (at0 : Int))))))
        have HM64 := Lib.hid (show 64 * (m.length / 64) ≤ m.length by omega)
        clear ho2 ho3 hk3 hw2 hk2 HO1 HK1 HBB hblk hln hlt
        go_wp2_with fail
        generalize w2.setCell ⟨g, 72, none⟩ (.int .i64 ((at0 : Int) + (64 - (at0 : Int)))) = w3 at HO3 HK3 HBB3 ⊢
        have HT3 := Lib.hid (HT.out.kept HK3.out (fun k e => by have : k = g := e; omega))
        go_region_law (go_simp; go_at_call 97; refine (mix_is K s0 w3.drew g 159 _ _ _ g 8 64 ⟨HT3.out.k, HT3.out.s, HT3.out.low, HT3.out.len⟩ HO3.out.1 h3 HO3.out.2.1 (fun i hi => HO3.out.rest i hi) (fun i hi => get_low HO3.out.2.2.2 i) ).mono ?_; rintro _ w4 ⟨rfl, hg4, hk4⟩)
        have ho4 : HObj w4 g _ _ _ _ := ⟨hg4, mixF_length _ _ _, HO3.out.2.2.1, HO3.out.2.2.2⟩
        rw [eat_append K s0 (m.length / 64) m b HM64.out |>.symm, eat_more] at ho4
        obtain ⟨g72, _⟩ := ho4.facts
        have k72 := ho4.free 72
        have HO4 := Lib.hid (ho4.setAt 0)
        have hk5 := (HK3.out.trans hk4.undrew).set (.inl rfl) (p := ⟨g, 72, none⟩) (.int .i64 0)
        have HK4 := Lib.hid hk5
        have HBB4 := Lib.hid ((HBB3.out.kept hk4.undrew).kept ((Kept.refl (· = g) w4).set (.inl rfl) (p := ⟨g, 72, none⟩) (.int .i64 0)))
        clear ho4 hk5 hk4 hg4 HO3 HK3 HBB3
        go_wp2
        go_meet
        case rel =>
          refine ⟨m.length / 64 + 1, ((m ++ b).drop (64 * (m.length / 64))).take 64, by have := HM.out; have := HAT.out; omega, ?_, ?_, HK4.out⟩
          · rw [Int.natCast_add]; exact HO4.out
          · have e : (m ++ b).drop (64 * (m.length / 64 + 1)) = b.drop (64 - at0) := by
              have h4 := HAT.out
              rw [List.drop_append, List.drop_eq_nil_of_le (by omega), List.nil_append]
              congr 1
              omega
            rw [e]; exact HBB4.out
  case rest =>
    clear c72 c73 f73 HB HRT HBP HB2 HAT hbc
    go_wp2_with fail
    go_loopw [1] (fun v wr => ∃ q rest', 64 * q ≤ ml + bl ∧ HObj wr g (eat K q s0 (m ++ b)) rest' 0 ((ml + bl : Nat) : Int) ∧ Bytes wr g v ((m ++ b).drop (64 * q)) ∧ Kept (· = g) w wr) (fun v _ => lenOf v)
    case atStart => exact hcut
    case round =>
      obtain ⟨q, rest', hq, ho, hb, hk⟩ := hrel
      have HBW := Lib.hid hb
      obtain ⟨a2, c2, rfl, hbc, hb256, hbp⟩ := hb
      obtain ⟨n, hn⟩ : ∃ n, n = ((m ++ b).drop (64 * q)).length := ⟨_, rfl⟩
      rw [← hn] at HBW hbp hbc
      rw [← hn]
      have hnl : n = ml + bl - 64 * q := by rw [hn, List.length_drop, List.length_append]; have := HM.out; have := HL.out; omega
      have HO2 := Lib.hid ho
      have HK2 := Lib.hid hk
      have HB256 := Lib.hid hb256
      have HN := Lib.hid hn
      have HNL := Lib.hid hnl
      clear ho hk hb256 hn hnl
      by_cases hlt : 64 ≤ n
      · have hn0 : 0 < n := by omega
        have hc64 : (64 : Int) ≤ (c2 : Int) := by omega
        obtain ⟨bg, bo, rfl, hne, hcl⟩ := hbp hn0
        clear hbp
        have HCL := Lib.hid hcl
        clear hcl
        obtain ⟨a3, c3, hs1, hs2, hB3⟩ := HBW.out.cut 64 hlt
        simp only [Int.cast_ofNat_Int] at hs1 hs2
        rw [List.drop_drop] at hB3
        have HB3 := Lib.hid hB3
        clear hB3
        have HT2 := Lib.hid (HT.out.kept HK2.out (fun k e => by have : k = g := e; omega))
        go_wp2_with fail
        go_region_law (go_simp; go_at_call 97; refine (mix_is K s0 wr.drew g 159 _ _ (((m ++ b).drop (64 * q)).take 64) bg bo c2 ⟨HT2.out.k, HT2.out.s, HT2.out.low, HT2.out.len⟩ HO2.out.1 h3 HO2.out.2.1 (fun i hi => take_cell HCL.out (by omega) i hi) (fun i hi => get_low (fun x hx => HB256.out x (List.mem_of_mem_take hx)) i)).mono ?_; rintro _ w4 ⟨rfl, hg4, hk4⟩)
        have hg5 : HObj w4 g (eat K (q + 1) s0 (m ++ b)) rest' 0 ((ml + bl : Nat) : Int) := by
          rw [← eat_more]; exact ⟨hg4, mixF_length _ _ _, HO2.out.2.2.1, HO2.out.2.2.2⟩
        have HO5 := Lib.hid hg5
        have HK5 := Lib.hid (HK2.out.trans hk4.undrew)
        have HB5 := Lib.hid (HB3.out.kept hk4.undrew)
        clear hg5 hg4 hk4 HO2 HK2 HB3
        go_wp2
        go_roundw
        case rel => exact ⟨q + 1, rest', by have := HNL.out; omega, HO5.out, by rw [show 64 * (q + 1) = 64 * q + 64 by omega]; exact HB5.out, HK5.out⟩
        case measure => simp [lenOf]; omega
      · have hsrc : 0 < (bcells ((m ++ b).drop (64 * q))).length → ∃ ad, a2 = some ad ∧ ∀ j u, (bcells ((m ++ b).drop (64 * q)))[j]? = some u → wr.cell? (ad.add j) = some u := fun hp => by
          have := HBW.out.src rfl ((m ++ b).drop (64 * q)).length (Nat.le_refl _) (by rw [List.take_length]; exact hp)
          rw [List.take_length] at this
          exact this
        have HSRC := Lib.hid hsrc
        clear hsrc hbp
        have hcs : (bcells ((m ++ b).drop (64 * q))).length = n := by rw [bcells_length]; exact HN.out.symm
        go_wp2_with (refine wpList_copy_kept rfl (.tmp 74) (.tmp 75) 29 29 rfl 5 Tryd.underlying29 size_u8 (some ⟨g, 8, none⟩) a2 64 64 n c2 rfl rfl g 8 (hcells (eat K q s0 (m ++ b)) rest' 0 ((ml + bl : Nat) : Int)) 159 HO2.out.1 (bcells ((m ++ b).drop (64 * q))) (by rw [hcs]; exact (Nat.min_eq_left (by omega)).symm) (fun hp => ⟨rfl, HSRC.out hp⟩) (by have := HO2.out.full; rw [hcs]; omega) (bcells_one _) ?_)
        intro w2 hw2 hk2
        have ho2 := HO2.out.spliced (o := 0) (b := (m ++ b).drop (64 * q)) (by rw [← HN.out]; omega) HB256.out hw2
        obtain ⟨e72, _⟩ := ho2.facts
        have f72 := ho2.free 72
        have ho3 := ho2.setAt (n : Int)
        have hk3 := (HK2.out.trans hk2).set (.inl rfl) (p := ⟨g, 72, none⟩) (.int .i64 (n : Int))
        have hfin : Hsh K s0 (w2.setCell ⟨g, 72, none⟩ (.int .i64 (n : Int))) g (m ++ b) := by
          have h1 := HM.out
          have h2 := HL.out
          have h4 := HNL.out
          have e1 : (m ++ b).length = ml + bl := by rw [List.length_append]; omega
          have e2 : (ml + bl) / 64 = q := by omega
          have e3 : (ml + bl) % 64 = n := by omega
          refine ⟨rest'.take 0 ++ ((m ++ b).drop (64 * q) ++ rest'.drop (0 + ((m ++ b).drop (64 * q)).length)), ?_, ?_, by omega⟩
          · rw [e1, e2, e3]; exact ho3
          · rw [e1, e2, e3, List.take_zero, List.nil_append, HN.out, List.take_append_of_le_length (Nat.le_refl _), List.take_length]
        have HFIN := Lib.hid hfin
        have HK3 := Lib.hid hk3
        clear ho2 ho3 hk3 hfin hw2 hk2 HO2 HK2
        go_wp2
        go_end0
        exact ⟨rfl, HFIN.out, HK3.out⟩
end Go.Proofs.YtngmpcmeebcdmaaDoor
