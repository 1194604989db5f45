/- The walk of (*sha.Hasher).Write of a hasher inside a tag. -/
import Derived.Test.YtknfbccbdiidjaaGreatDoorWs
import Derived.Test.YtknfbccbdiidjaaGreatDoorRTagM
import Derived.Test.YtknfbccbdiidjaaGreatDoorRMem
import Derived.Tactics2
import Derived.Defers
import Derived.Laws.Pointers
import Derived.Laws.LoneSync
import Derived.RegionTactic
import Derived.RegionCalls
import Derived.ChangeAlike
namespace Go.Proofs.YtknfbccbdiidjaaGreatDoor
set_option linter.unusedVariables false
set_option linter.unusedSimpArgs false
open Go.ChangeShapes Go.WideShapes Go.ChangeAt Go.RowKit

def tcells (P : List Value) (U : Value) (s : List Wd) (rest : List Nat) (at_ n : Int) : List Value := P ++ (hcells s rest at_ n ++ [U])
def HObjT (P : List Value) (U : Value) (w : World) (g : Nat) (s : List Wd) (rest : List Nat) (at_ n : Int) : Prop := Has w g 178 (tcells P U s rest at_ n).toArray ∧ s.length = 8 ∧ rest.length = 64 ∧ (∀ x ∈ rest, x < 256) ∧ P.length = 4
def HshT (P : List Value) (U : Value) (K s0 : List Wd) (w : World) (g : Nat) (m : List Nat) : Prop :=
 ∃ rest, HObjT P U w g (eat K (m.length / 64) s0 m) rest ((m.length % 64 : Nat) : Int) (m.length : Nat) ∧ rest.take (m.length % 64) = m.drop (64 * (m.length / 64)) ∧ m.length ≤ 1000000000
section
variable {P : List Value} {U : Value}
theorem hcells_len (s : List Wd) (rest : List Nat) (at_ n : Int) (hs : s.length = 8) (hr : rest.length = 64) : (hcells s rest at_ n).length = 74 := by
 simp [hcells, wcells_length, bcells_length, hs, hr]
theorem tcells_mid (hP : P.length = 4) (s : List Wd) (rest : List Nat) (at_ n : Int) (hs : s.length = 8) (hr : rest.length = 64) (i : Nat) (hi : i < 74) : (tcells P U s rest at_ n)[4 + i]? = (hcells s rest at_ n)[i]? := by
 unfold tcells
 rw [List.getElem?_append_right (by omega), hP, Nat.add_sub_cancel_left, List.getElem?_append_left (by rw [hcells_len s rest at_ n hs hr]; exact hi)]
theorem tcells_set (hP : P.length = 4) (s : List Wd) (rest : List Nat) (at_ n : Int) (hs : s.length = 8) (hr : rest.length = 64) (i : Nat) (hi : i < 74) (v : Value) : (tcells P U s rest at_ n).set (4 + i) v = P ++ ((hcells s rest at_ n).set i v ++ [U]) := by
 unfold tcells
 rw [List.set_append_right _ _ (by omega), hP, Nat.add_sub_cancel_left, List.set_append_left _ _ (by rw [hcells_len s rest at_ n hs hr]; exact hi)]
theorem hc_at (s : List Wd) (rest : List Nat) (at_ n : Int) (hs : s.length = 8) (hr : rest.length = 64) : (hcells s rest at_ n)[72]? = some (.int .i64 at_) ∧ (hcells s rest at_ n)[73]? = some (.int .u64 n) := by
 constructor
 · rw [hcells, List.getElem?_append_right (by rw [wcells_length]; omega), List.getElem?_append_right (by rw [wcells_length, bcells_length]; omega), wcells_length, bcells_length, hs, hr]; rfl
 · rw [hcells, List.getElem?_append_right (by rw [wcells_length]; omega), List.getElem?_append_right (by rw [wcells_length, bcells_length]; omega), wcells_length, bcells_length, hs, hr]; rfl
theorem HObjT.facts {w : World} {g : Nat} {s : List Wd} {rest : List Nat} {at_ n : Int} (h : HObjT P U w g s rest at_ n) :
   w.cell? ⟨g, 76, none⟩ = some (.int .i64 at_) ∧ w.cell? ⟨g, 77, none⟩ = some (.int .u64 n) := by
 obtain ⟨hh, hs, hr, _, hP⟩ := h
 constructor
 · refine hh.cell_is ?_
   rw [List.getElem?_toArray, tcells_mid hP s rest at_ n hs hr 72 (by decide)]
   exact (hc_at s rest at_ n hs hr).1
 · refine hh.cell_is ?_
   rw [List.getElem?_toArray, tcells_mid hP s rest at_ n hs hr 73 (by decide)]
   exact (hc_at s rest at_ n hs hr).2
theorem HObjT.free {w : World} {g : Nat} {s : List Wd} {rest : List Nat} {at_ n : Int} (h : HObjT P U w g s rest at_ n) (i : Nat) : w.frozen? ⟨g, i, none⟩ = false := h.1.free i
theorem HObjT.kept {S : Nat → Prop} {w w' : World} {g : Nat} {s : List Wd} {rest : List Nat} {at_ n : Int} (h : HObjT P U w g s rest at_ n) (hk : Kept S w w') (hg : ¬ S g) : HObjT P U w' g s rest at_ n :=
 ⟨h.1.kept hk hg, h.2⟩
theorem HObjT.setAt {w : World} {g : Nat} {s : List Wd} {rest : List Nat} {at_ n : Int} (h : HObjT P U w g s rest at_ n) (x : Int) : HObjT P U (w.setCell ⟨g, 76, none⟩ (.int .i64 x)) g s rest x n := by
 obtain ⟨hh, hs, hr, h4, hP⟩ := h
 refine ⟨?_, hs, hr, h4, hP⟩
 have := hh.set 76 (.int .i64 x)
 rw [List.setIfInBounds_toArray, tcells_set hP s rest at_ n hs hr 72 (by decide), hcells, List.set_append_right _ _ (by rw [wcells_length]; omega), List.set_append_right _ _ (by rw [wcells_length, bcells_length]; omega), wcells_length, bcells_length, hs, hr] at this
 exact this
theorem HObjT.setN {w : World} {g : Nat} {s : List Wd} {rest : List Nat} {at_ n : Int} (h : HObjT P U w g s rest at_ n) (x : Int) : HObjT P U (w.setCell ⟨g, 77, none⟩ (.int .u64 x)) g s rest at_ x := by
 obtain ⟨hh, hs, hr, h4, hP⟩ := h
 refine ⟨?_, hs, hr, h4, hP⟩
 have := hh.set 77 (.int .u64 x)
 rw [List.setIfInBounds_toArray, tcells_set hP s rest at_ n hs hr 73 (by decide), hcells, List.set_append_right _ _ (by rw [wcells_length]; omega), List.set_append_right _ _ (by rw [wcells_length, bcells_length]; omega), wcells_length, bcells_length, hs, hr] at this
 exact this
theorem HObjT.rest {w : World} {g : Nat} {s : List Wd} {rest : List Nat} {at_ n : Int} (h : HObjT P U w g s rest at_ n) (i : Nat) (hi : i < 64) : w.cell? ⟨g, 12 + i, none⟩ = some (.int .u8 (rest.getD i 0 : Nat)) := by
 obtain ⟨hh, hs, hr, _, hP⟩ := h
 refine hh.cell_is ?_
 rw [List.getElem?_toArray, show 12 + i = 4 + (8 + i) by omega, tcells_mid hP s rest at_ n hs hr (8 + i) (by omega), hcells, List.getElem?_append_right (by rw [wcells_length]; omega), List.getElem?_append_left (by rw [wcells_length, bcells_length]; omega), wcells_length, hs, Nat.add_sub_cancel_left, bcells_get _ _ (by omega)]
theorem tcells_splice (hP : P.length = 4) (s : List Wd) (rest b : List Nat) (at_ n : Int) (o : Nat) (hs : s.length = 8) (hr : rest.length = 64) (ho : o + b.length ≤ 64) :
  splice (tcells P U s rest at_ n) (12 + o) (bcells b) = tcells P U s (rest.take o ++ (b ++ rest.drop (o + b.length))) at_ n := by
 have h := hcells_splice s rest b at_ n o hs hr ho
 have hl := hcells_len s rest at_ n hs hr
 unfold splice at h
 unfold splice tcells
 rw [← h, bcells_length, List.take_append, List.take_of_length_le (by omega), hP, show 12 + o - 4 = 8 + o by omega, List.take_append_of_le_length (by omega), List.drop_append, List.drop_eq_nil_of_le (by omega), hP, show 12 + o + b.length - 4 = 8 + o + b.length by omega, List.nil_append, List.drop_append_of_le_length (by omega)]
 simp only [List.append_assoc, bcells_length]
theorem HObjT.spliced {w w' : World} {g : Nat} {s : List Wd} {rest b : List Nat} {at_ n : Int} {o : Nat} (h : HObjT P U w g s rest at_ n) (ho : o + b.length ≤ 64) (hb : ∀ x ∈ b, x < 256)
   (hw : Has w' g 178 (splice (tcells P U s rest at_ n) (12 + o) (bcells b)).toArray) : HObjT P U w' g s (rest.take o ++ (b ++ rest.drop (o + b.length))) at_ n := by
 obtain ⟨_, hs, hr, h4, hP⟩ := h
 rw [tcells_splice hP s rest b at_ n o hs hr ho] at hw
 refine ⟨hw, hs, by simp; omega, fun x hx => ?_, hP⟩
 rcases List.mem_append.1 hx with hx | hx
 · exact h4 x (List.mem_of_mem_take hx)
 · rcases List.mem_append.1 hx with hx | hx
   · exact hb x hx
   · exact h4 x (List.mem_of_mem_drop hx)
theorem HObjT.full {w : World} {g : Nat} {s : List Wd} {rest : List Nat} {at_ n : Int} (h : HObjT P U w g s rest at_ n) :
  12 + 64 ≤ (tcells P U s rest at_ n).length := by
 rw [tcells, List.length_append, List.length_append, hcells_len s rest at_ n h.2.1 h.2.2.1, h.2.2.2.2]
 show 12 + 64 ≤ 4 + (74 + 1)
 decide
theorem HObjT.mix {w : World} {g : Nat} {s : List Wd} {rest : List Nat} {at_ n : Int} (h : HObjT P U w g s rest at_ n) : Has w g 178 (P ++ (wcells s ++ (bcells rest ++ [Value.int .i64 at_, Value.int .u64 n] ++ [U]))).toArray := by
 have := h.1
 rwa [tcells, hcells, List.append_assoc] at this
theorem HObjT.mixed {w : World} {g : Nat} {s : List Wd} {rest : List Nat} {at_ n : Int} (h : Has w g 178 (P ++ (wcells s ++ (bcells rest ++ [Value.int .i64 at_, Value.int .u64 n] ++ [U]))).toArray) (hs : s.length = 8) (hr : rest.length = 64) (h4 : ∀ x ∈ rest, x < 256) (hP : P.length = 4) : HObjT P U w g s rest at_ n := by
 refine ⟨?_, hs, hr, h4, hP⟩
 rw [tcells, hcells, List.append_assoc]; exact h
end
set_option maxRecDepth 100000 in
set_option maxHeartbeats 2000000 in
theorem writeT_is (P : List Value) (U : Value) (K s0 : List Wd) (w : World) (g : Nat) (m : List Nat) (v : Value) (b : List Nat) (hT : Tabs K s0 w) (h : HshT P U K s0 w g m) (h3 : 2 + 1 ≤ g) (hB : Bytes w g v b) (hl : m.length + b.length ≤ 1000000000) :
  Calls Tryz.prog 82 #[.pointer (some ⟨g, 4, none⟩), v] w fun e w' =>
    e = .returned (.tuple #[]) ∧ HshT P U K s0 w' g (m ++ b) ∧ Kept (· = g) w w' := by
 have HB := Lib.hid hB
 obtain ⟨a, c, rfl, hbc, hb256, hbp⟩ := hB
 obtain ⟨rest, hO, hrt, _⟩ := h
 obtain ⟨c72, c73⟩ := hO.facts
 have f73 := hO.free 77
 have HO := Lib.hid hO
 have HT := Lib.hid hT
 have HRT := Lib.hid hrt
 have HB2 := Lib.hid hb256
 have HBP := Lib.hid hbp
 obtain ⟨ml, hml⟩ : ∃ x : Nat, x = m.length := ⟨_, rfl⟩
 obtain ⟨bl, hbl⟩ : ∃ x : Nat, x = b.length := ⟨_, rfl⟩
 obtain ⟨at0, hat⟩ : ∃ x : Nat, x = m.length % 64 := ⟨_, rfl⟩
 have hat64 : at0 < 64 := by omega
 rw [← hml, ← hbl] at hl
 rw [← hml] at c73
 rw [← hat] at c72
 rw [← hbl] at hbc
 rw [← hbl]
 have HM := Lib.hid hml
 have HL := Lib.hid hbl
 have HAT := Lib.hid hat
 clear hT hO hrt hb256 hbp hml hbl hat
 go_enter Tryz.func82, Tryz.ntmps82
 go_upto_if 21 with (fail)
 go_cut [1] (fun v wr => ∃ q rest', 64 * q ≤ ml + bl ∧ HObjT P U wr g (eat K q s0 (m ++ b)) rest' 0 ((ml + bl : Nat) : Int) ∧ Bytes wr g v ((m ++ b).drop (64 * q)) ∧ Kept (· = g) w wr)
 case first =>
  have hO1 : HObjT P U (w.setCell ⟨g, 77, none⟩ (.int .u64 ((ml : Int) + (bl : Int)))) g (eat K (m.length / 64) s0 m) rest (at0 : Int) ((ml : Int) + (bl : Int)) := by
    have := HO.out.setN ((ml : Int) + (bl : Int))
    rw [← HAT.out] at this
    exact this
  have hK1 : Kept (· = g) w (w.setCell ⟨g, 77, none⟩ (.int .u64 ((ml : Int) + (bl : Int)))) := (Kept.refl (· = g) w).set (.inl rfl) _
  generalize w.setCell ⟨g, 77, none⟩ (.int .u64 ((ml : Int) + (bl : Int))) = w1 at hO1 hK1 ⊢
  have hB1 := HB.out.kept hK1
  obtain ⟨d72, d73⟩ := hO1.facts
  clear c72 c73 f73 HBP HO
  have HO1 := Lib.hid hO1
  have HK1 := Lib.hid hK1
  have HB1 := Lib.hid hB1
  clear hO1 hK1 hB1
  by_cases h0 : at0 = 0
  · subst h0
    go_wp2
    go_meet
    case rel =>
      refine ⟨m.length / 64, rest, by have := HM.out; have := HL.out; omega, ?_, ?_, HK1.out⟩
      · rw [eat_append _ _ _ _ _ (by omega), Int.natCast_add]; exact HO1.out
      · rw [List.drop_append, List.drop_eq_nil_of_le (by have := HAT.out; omega), show 64 * (m.length / 64) - m.length = 0 by omega, List.nil_append, List.drop_zero, HL.out]; exact HB1.out
  · have HSRC := Lib.hid (fun k (hk : k ≤ bl) hp => HB1.out.src rfl k (by rw [← HL.out]; exact hk) hp)
    by_cases hs : at0 + bl < 64
    · have hln : (bcells (b.take bl)).length = bl := by rw [bcells_length, List.length_take]; have := HL.out; omega
      have hcut := fun w => cut_from (t := 171) (n := 64) (by kernel_rfl) (by kernel_rfl) size1 w g 12 at0 hat64
      go_wp2_with fail
      go_region_law (refine step_copy_kept rfl (.tmp 29) (.tmp 30) 48 48 rfl 5 Tryz.underlying48 size_u8 (some ⟨g, 12 + at0, none⟩) a (64 - at0) (64 - at0) bl c (by rfl) (by rfl) g (12 + at0) (tcells P U (eat K (m.length / 64) s0 m) rest (at0 : Int) ((ml : Int) + (bl : Int))) 178 (w := w1.drew) HO1.out.1 (bcells (b.take bl)) (by rw [hln]; exact (Nat.min_eq_left (by omega)).symm) (fun hp => ⟨rfl, HSRC.out bl (Nat.le_refl _) hp⟩) (by have := HO1.out.full; rw [hln]; omega) (bcells_one _) ?_; intro w2 hw2 hk2)
      have ho2 := HO1.out.spliced (o := at0) (b := b.take bl) (by rw [List.length_take]; omega) (fun x hx => HB2.out x (List.mem_of_mem_take hx)) hw2
      obtain ⟨e72, e73⟩ := ho2.facts
      have f72 := ho2.free 76
      have HO2 := Lib.hid (ho2.setAt ((at0 : Int) + (bl : Int)))
      have HK2 := Lib.hid ((HK1.out.trans hk2.undrew).set (.inl rfl) (p := ⟨g, 76, none⟩) (.int .i64 ((at0 : Int) + (bl : Int))))
      clear ho2 hw2 hk2 HO1 HK1
      have hfin : HshT P U K s0 (w2.setCell ⟨g, 76, none⟩ (.int .i64 ((at0 : Int) + (bl : Int)))) g (m ++ b) := by
        have h1 := HM.out
        have h2 := HL.out
        have h4 := HAT.out
        have e1 : (m ++ b).length = ml + bl := by rw [List.length_append]; omega
        have e2 : (ml + bl) / 64 = m.length / 64 := by omega
        have e3 : (ml + bl) % 64 = at0 + bl := by omega
        refine ⟨rest.take at0 ++ (b.take bl ++ rest.drop (at0 + (b.take bl).length)), ?_, ?_, by omega⟩
        · rw [e1, e2, e3, eat_append _ _ _ _ _ (by omega), Int.natCast_add, Int.natCast_add]
          exact HO2.out
        · rw [e1, e2, e3, h4, h2]
          exact part_rest m b rest _ HRT.out
      have HFIN := Lib.hid hfin
      clear hfin
      go_wp2
      all_goals
        refine bodyPost_ret (results_none rfl _ _ _) rfl ?_
        exact ⟨rfl, HFIN.out, HK2.out⟩
    · have hln : (bcells (b.take (64 - at0))).length = 64 - at0 := by rw [bcells_length, List.length_take]; have := HL.out; omega
      have hcut := fun w => cut_from (t := 171) (n := 64) (by kernel_rfl) (by kernel_rfl) size1 w g 12 at0 hat64
      obtain ⟨a1, c1, hs1, hs2, hB2⟩ := HB1.out.cut (64 - at0) (by have := HL.out; omega)
      rw [← HL.out] at hs1 hs2 hB2
      have e64 : ((64 - at0 : Nat) : Int) = 64 - (at0 : Int) := by omega
      rw [e64] at hs1 hs2
      have HBB := Lib.hid hB2
      clear hB2
      go_wp2_with fail
      go_region_law (refine step_copy_kept rfl (.tmp 29) (.tmp 30) 48 48 rfl 5 Tryz.underlying48 size_u8 (some ⟨g, 12 + at0, none⟩) a (64 - at0) (64 - at0) bl c (by rfl) (by rfl) g (12 + at0) (tcells P U (eat K (m.length / 64) s0 m) rest (at0 : Int) ((ml : Int) + (bl : Int))) 178 (w := w1.drew) HO1.out.1 (bcells (b.take (64 - at0))) (by rw [hln]; exact (Nat.min_eq_right (by omega)).symm) (fun hp => ⟨rfl, HSRC.out (64 - at0) (by omega) hp⟩) (by have := HO1.out.full; rw [hln]; omega) (bcells_one _) ?_; intro w2 hw2 hk2)
      have ho2 := HO1.out.spliced (o := at0) (b := b.take (64 - at0)) (by rw [List.length_take]; omega) (fun x hx => HB2.out x (List.mem_of_mem_take hx)) hw2
      have hlt : (b.take (64 - at0)).length = 64 - at0 := by rw [← bcells_length]; exact hln
      have hblk : rest.take at0 ++ (b.take (64 - at0) ++ rest.drop (at0 + (b.take (64 - at0)).length)) = ((m ++ b).drop (64 * (m.length / 64))).take 64 := by
        have h4 := HAT.out
        have h2 := HL.out
        rw [hlt, show at0 + (64 - at0) = 64 by omega, h4]
        exact full_block m b rest _ HRT.out HO1.out.2.2.1 (by omega) (by omega)
      rw [hblk] at ho2
      obtain ⟨e72, e73⟩ := ho2.facts
      have f72 := ho2.free 76
      have ho3 := ho2.setAt ((at0 : Int) + (64 - (at0 : Int)))
      have hk3 := (HK1.out.trans hk2.undrew).set (.inl rfl) (p := ⟨g, 76, none⟩) (.int .i64 ((at0 : Int) + (64 - (at0 : Int))))
      have HO3 := Lib.hid ho3
      have HK3 := Lib.hid hk3
      have HBB3 := Lib.hid ((HBB.out.kept hk2.undrew).kept ((Kept.refl (· = g) w2).set (.inl rfl) (p := ⟨g, 76, none⟩) (.int .i64 ((at0 : Int) + (64 - (at0 : Int))))))
      have HM64 := Lib.hid (show 64 * (m.length / 64) ≤ m.length by omega)
      clear ho2 ho3 hk3 hw2 hk2 HO1 HK1 HBB hblk hln hlt
      go_wp2_with fail
      generalize w2.setCell ⟨g, 76, none⟩ (.int .i64 ((at0 : Int) + (64 - (at0 : Int)))) = w3 at HO3 HK3 HBB3 ⊢
      have HT3 := Lib.hid (HT.out.kept HK3.out (fun k e => by have : k = g := e; omega))
      go_region_law (go_simp; go_at_call 107; refine (mixT_is K s0 w3.drew g 178 P HO3.out.2.2.2.2 _ _ _ g 12 64 ⟨HT3.out.k, HT3.out.s, HT3.out.low, HT3.out.len⟩ HO3.out.mix h3 HO3.out.2.1 (fun i hi => HO3.out.rest i hi) (fun i hi => get_low HO3.out.2.2.2.1 i) ).mono ?_; rintro _ w4 ⟨rfl, hg4, hk4⟩)
      have ho4 : HObjT P U w4 g _ _ _ _ := HObjT.mixed hg4 (mixF_length _ _ _) HO3.out.2.2.1 HO3.out.2.2.2.1 HO3.out.2.2.2.2
      rw [eat_append K s0 (m.length / 64) m b HM64.out |>.symm, eat_more] at ho4
      obtain ⟨g72, _⟩ := ho4.facts
      have k72 := ho4.free 76
      have HO4 := Lib.hid (ho4.setAt 0)
      have hk5 := (HK3.out.trans hk4.undrew).set (.inl rfl) (p := ⟨g, 76, none⟩) (.int .i64 0)
      have HK4 := Lib.hid hk5
      have HBB4 := Lib.hid ((HBB3.out.kept hk4.undrew).kept ((Kept.refl (· = g) w4).set (.inl rfl) (p := ⟨g, 76, none⟩) (.int .i64 0)))
      clear ho4 hk5 hk4 hg4 HO3 HK3 HBB3
      go_wp2
      go_meet
      case rel =>
        refine ⟨m.length / 64 + 1, ((m ++ b).drop (64 * (m.length / 64))).take 64, by have := HM.out; have := HAT.out; omega, ?_, ?_, HK4.out⟩
        · rw [Int.natCast_add]; exact HO4.out
        · have e : (m ++ b).drop (64 * (m.length / 64 + 1)) = b.drop (64 - at0) := by
           have h4 := HAT.out
           rw [List.drop_append, List.drop_eq_nil_of_le (by omega), List.nil_append]
           congr 1
           omega
          rw [e]; exact HBB4.out
 case rest =>
  clear c72 c73 f73 HB HRT HBP HB2 HAT hbc
  go_wp2_with fail
  go_loopw [1] (fun v wr => ∃ q rest', 64 * q ≤ ml + bl ∧ HObjT P U wr g (eat K q s0 (m ++ b)) rest' 0 ((ml + bl : Nat) : Int) ∧ Bytes wr g v ((m ++ b).drop (64 * q)) ∧ Kept (· = g) w wr) (fun v _ => lenOf v)
  case atStart => exact hcut
  case round =>
    obtain ⟨q, rest', hq, ho, hb, hk⟩ := hrel
    have HBW := Lib.hid hb
    obtain ⟨a2, c2, rfl, hbc, hb256, hbp⟩ := hb
    obtain ⟨n, hn⟩ : ∃ n, n = ((m ++ b).drop (64 * q)).length := ⟨_, rfl⟩
    rw [← hn] at HBW hbp hbc
    rw [← hn]
    have hnl : n = ml + bl - 64 * q := by rw [hn, List.length_drop, List.length_append]; have := HM.out; have := HL.out; omega
    have HO2 := Lib.hid ho
    have HK2 := Lib.hid hk
    have HB256 := Lib.hid hb256
    have HN := Lib.hid hn
    have HNL := Lib.hid hnl
    clear ho hk hb256 hn hnl
    by_cases hlt : 64 ≤ n
    · have hn0 : 0 < n := by omega
      have hc64 : (64 : Int) ≤ (c2 : Int) := by omega
      obtain ⟨bg, bo, rfl, hne, hcl⟩ := hbp hn0
      clear hbp
      have HCL := Lib.hid hcl
      clear hcl
      obtain ⟨a3, c3, hs1, hs2, hB3⟩ := HBW.out.cut 64 hlt
      simp only [Int.cast_ofNat_Int] at hs1 hs2
      rw [List.drop_drop] at hB3
      have HB3 := Lib.hid hB3
      clear hB3
      have HT2 := Lib.hid (HT.out.kept HK2.out (fun k e => by have : k = g := e; omega))
      go_wp2_with fail
      go_region_law (go_simp; go_at_call 107; refine (mixT_is K s0 wr.drew g 178 P HO2.out.2.2.2.2 _ _ (((m ++ b).drop (64 * q)).take 64) bg bo c2 ⟨HT2.out.k, HT2.out.s, HT2.out.low, HT2.out.len⟩ HO2.out.mix h3 HO2.out.2.1 (fun i hi => take_cell HCL.out (by omega) i hi) (fun i hi => get_low (fun x hx => HB256.out x (List.mem_of_mem_take hx)) i)).mono ?_; rintro _ w4 ⟨rfl, hg4, hk4⟩)
      have hg5 : HObjT P U w4 g (eat K (q + 1) s0 (m ++ b)) rest' 0 ((ml + bl : Nat) : Int) := by
        rw [← eat_more]; exact HObjT.mixed hg4 (mixF_length _ _ _) HO2.out.2.2.1 HO2.out.2.2.2.1 HO2.out.2.2.2.2
      have HO5 := Lib.hid hg5
      have HK5 := Lib.hid (HK2.out.trans hk4.undrew)
      have HB5 := Lib.hid (HB3.out.kept hk4.undrew)
      clear hg5 hg4 hk4 HO2 HK2 HB3
      go_wp2
      go_roundw
      case rel => exact ⟨q + 1, rest', by have := HNL.out; omega, HO5.out, by rw [show 64 * (q + 1) = 64 * q + 64 by omega]; exact HB5.out, HK5.out⟩
      case measure => simp [lenOf]; omega
    · have hsrc : 0 < (bcells ((m ++ b).drop (64 * q))).length → ∃ ad, a2 = some ad ∧ ∀ j u, (bcells ((m ++ b).drop (64 * q)))[j]? = some u → wr.cell? (ad.add j) = some u := fun hp => by
        have := HBW.out.src rfl ((m ++ b).drop (64 * q)).length (Nat.le_refl _) (by rw [List.take_length]; exact hp)
        rw [List.take_length] at this
        exact this
      have HSRC := Lib.hid hsrc
      clear hsrc hbp
      have hcs : (bcells ((m ++ b).drop (64 * q))).length = n := by rw [bcells_length]; exact HN.out.symm
      go_wp2_with (refine wpList_copy_kept rfl (.tmp 74) (.tmp 75) 48 48 rfl 5 Tryz.underlying48 size_u8 (some ⟨g, 12, none⟩) a2 64 64 n c2 rfl rfl g 12 (tcells P U (eat K q s0 (m ++ b)) rest' 0 ((ml + bl : Nat) : Int)) 178 HO2.out.1 (bcells ((m ++ b).drop (64 * q))) (by rw [hcs]; exact (Nat.min_eq_left (by omega)).symm) (fun hp => ⟨rfl, HSRC.out hp⟩) (by have := HO2.out.full; rw [hcs]; omega) (bcells_one _) ?_)
      intro w2 hw2 hk2
      have ho2 := HO2.out.spliced (o := 0) (b := (m ++ b).drop (64 * q)) (by rw [← HN.out]; omega) HB256.out hw2
      obtain ⟨e72, _⟩ := ho2.facts
      have f72 := ho2.free 76
      have ho3 := ho2.setAt (n : Int)
      have hk3 := (HK2.out.trans hk2).set (.inl rfl) (p := ⟨g, 76, none⟩) (.int .i64 (n : Int))
      have hfin : HshT P U K s0 (w2.setCell ⟨g, 76, none⟩ (.int .i64 (n : Int))) g (m ++ b) := by
        have h1 := HM.out
        have h2 := HL.out
        have h4 := HNL.out
        have e1 : (m ++ b).length = ml + bl := by rw [List.length_append]; omega
        have e2 : (ml + bl) / 64 = q := by omega
        have e3 : (ml + bl) % 64 = n := by omega
        refine ⟨rest'.take 0 ++ ((m ++ b).drop (64 * q) ++ rest'.drop (0 + ((m ++ b).drop (64 * q)).length)), ?_, ?_, by omega⟩
        · rw [e1, e2, e3]; exact ho3
        · rw [e1, e2, e3, List.take_zero, List.nil_append, HN.out, List.take_append_of_le_length (Nat.le_refl _), List.take_length]
      have HFIN := Lib.hid hfin
      have HK3 := Lib.hid hk3
      clear ho2 ho3 hk3 hfin hw2 hk2 HO2 HK2
      go_wp2
      go_end0
      exact ⟨rfl, HFIN.out, HK3.out⟩
end Go.Proofs.YtknfbccbdiidjaaGreatDoor
/- sync.Once in one goroutine: done already; not yet done, the lock free. -/
namespace Go.Proofs.YtknfbccbdiidjaaGreatDoor
set_option linter.unusedVariables false
set_option linter.unusedSimpArgs false
open Go.ChangeShapes Go.WideShapes Go.ChangeAt Go.RowKit

theorem once_disable (w : World) : (callFunc 138 #[]).run Tryz.prog w = .ok (.value (.tuple #[])) w := run_call_mark0 Tryz.func138 (by kernel_rfl) (by kernel_rfl) (by kernel_rfl) .disable (by kernel_rfl) w
theorem once_enable (w : World) : (callFunc 140 #[]).run Tryz.prog w = .ok (.value (.tuple #[])) w := run_call_mark0 Tryz.func140 (by kernel_rfl) (by kernel_rfl) (by kernel_rfl) .enable (by kernel_rfl) w
theorem once_acquire (a : Addr) (w : World) : (callFunc 141 #[.pointer (some a)]).run Tryz.prog w = .ok (.value (.tuple #[])) w := run_call_marked Tryz.func141 (by kernel_rfl) (by kernel_rfl) (by kernel_rfl) .acquire (by kernel_rfl) a w
theorem once_release (a : Addr) (w : World) : (callFunc 143 #[.pointer (some a)]).run Tryz.prog w = .ok (.value (.tuple #[])) w := run_call_marked Tryz.func143 (by kernel_rfl) (by kernel_rfl) (by kernel_rfl) .releaseMerge (by kernel_rfl) a w

theorem store_deferred (a : Addr) (x : Value) (u : FrameMode) (w : World) (hc : w.cell? a = some x) (hz : w.frozen? a = false) :
  CallsD Tryz.prog 126 #[.pointer (some a), .bool true] u w fun e u' w' => u' = u ∧ (e = .returned (.tuple #[]) ∧ w' = w.drew.setCell a (.int .u32 1)) := by
 have hc' : w.drew.cell? a = some x := by go_simp
 have hz' : w.drew.frozen? a = false := by go_simp
 have hst := run_call_store (P := Tryz.prog) Tryz.func135 (by kernel_rfl) (by kernel_rfl) (by kernel_rfl) (by kernel_rfl) (k := .u32) (y := 1) hc' hz'
 go_enter_d Tryz.func126, Tryz.ntmps126
 go_wp2
 go_region_calls
 all_goals (go_end0; exact ⟨rfl, rfl⟩)
set_option maxRecDepth 100000 in
theorem unlock_deferred (a : Addr) (u : FrameMode) (w : World) (hc : w.cell? a = some (.int .i32 1)) (hz : w.frozen? a = false) :
  CallsD Tryz.prog 125 #[.pointer (some a)] u w fun e u' w' => u' = u ∧ (e = .returned (.tuple #[]) ∧ w' = w.setCell a (.int .i32 0)) := by
 have hd := once_disable
 have he := once_enable
 have hr := once_release
 have hadd := run_call_add (P := Tryz.prog) Tryz.func144 (by kernel_rfl) (by kernel_rfl) (by kernel_rfl) .i32 (by kernel_rfl) (y := -1) (s := 0) hc hz (by simp [go_sem]; rfl)
 have hcv := run_convert_to_unsafe (P := Tryz.prog) (src := 234) (dst := 238) Tryz.underlying234 Tryz.underlying238 (by kernel_rfl) hc
 go_enter_d Tryz.func125, Tryz.ntmps125
 go_wp2
 go_end0
 go_wp2
set_option maxRecDepth 100000 in
theorem lock_free (a : Addr) (w : World) (hc : w.cell? a = some (.int .i32 0)) (hz : w.frozen? a = false) :
  Calls Tryz.prog 124 #[.pointer (some a)] w fun e w' => e = .returned (.tuple #[]) ∧ w' = w.setCell a (.int .i32 1) := by
 have hd := once_disable
 have he := once_enable
 have ha := once_acquire
 have hcas := run_call_cas_hit (P := Tryz.prog) Tryz.func139 (by kernel_rfl) (by kernel_rfl) (by kernel_rfl) .i32 (by kernel_rfl) (y := 1) hc hz
 have hc' : (w.setCell a (.int .i32 1)).cell? a = some (.int .i32 1) := World.cell?_setCell_same w a _ hc
 have hcv := run_convert_to_unsafe (P := Tryz.prog) (src := 234) (dst := 238) Tryz.underlying234 Tryz.underlying238 (by kernel_rfl) hc'
 go_enter Tryz.func124, Tryz.ntmps124
 go_wp2
 first | go_end0 | (simp only [Exit.inBlock, Exit.then]; refine bodyPost_ret (results_none rfl _ _ _) rfl ?_) | refine bodyPost_ret (results_none rfl _ _ _) rfl ?_
 go_wp2
set_option maxRecDepth 100000 in
set_option maxHeartbeats 1600000 in
/-- '(*sync.Once).doSlow', the lock free: the function is called with the lock held; then 'done' is stored and the lock let go. -/
theorem slow_any (f : Nat) (cap : Value) (b off : Nat) (w : World) (R : World → Prop)
   (h0 : w.cell? ⟨b, off, none⟩ = some (.int .u32 0)) (h1 : w.cell? ⟨b, off + 1, none⟩ = some (.int .i32 0))
   (f0 : w.frozen? ⟨b, off, none⟩ = false) (f1 : w.frozen? ⟨b, off + 1, none⟩ = false)
   (hf : Calls Tryz.prog f #[cap] (w.setCell ⟨b, off + 1, none⟩ (.int .i32 1)) fun e w' => e = .returned (.tuple #[]) ∧ R w')
   (henter : ∀ args w, (callFunc f args).run Tryz.prog w = .ok (.enter f args) w)
   (hR : ∀ w', R w' → w'.cell? ⟨b, off, none⟩ = some (.int .u32 0) ∧ w'.cell? ⟨b, off + 1, none⟩ = some (.int .i32 1) ∧ w'.frozen? ⟨b, off, none⟩ = false ∧ w'.frozen? ⟨b, off + 1, none⟩ = false) :
   Calls Tryz.prog 106 #[.pointer (some ⟨b, off, none⟩), .func (.func f) #[] #[cap]] w fun e w' => e = .returned (.tuple #[]) ∧ ∃ w2, R w2 ∧ w' = (w2.drew.setCell ⟨b, off, none⟩ (.int .u32 1)).setCell ⟨b, off + 1, none⟩ (.int .i32 0) := by
 have hl := run_call_load (P := Tryz.prog) Tryz.func123 (by kernel_rfl) (by kernel_rfl) (by kernel_rfl) .u32 (by kernel_rfl) (w := w.setCell ⟨b, off + 1, none⟩ (.int .i32 1)) (a := ⟨b, off, none⟩) (x := 0) ((World.cell?_setCell_other _ ⟨b, off + 1, none⟩ ⟨b, off, none⟩ _ (by simp)).trans h0)
 have hnot : ∀ (x : Bool) (w : World), (Op.unary .not (.bool x)).run Tryz.prog w = .ok (.bool (!x)) w := fun _ _ => rfl
 have HF := Lib.hid hf
 have HR := Lib.hid hR
 clear hf hR
 go_enter_defers Tryz.func106, Tryz.ntmps106
 go_wp2_with (go_at_call 124; refine (lock_free ⟨b, off + 1, none⟩ _ (by go_simp) (by go_simp)).mono ?_; rintro e w' ⟨rfl, rfl⟩)
 go_wp2
 refine HF.out.mono ?_
 rintro _ w2 ⟨rfl, hr2⟩
 obtain ⟨r0, r1, r2, r3⟩ := HR.out w2 hr2
 have HR2 := Lib.hid hr2
 clear hr2
 go_wp2
 refine leaves_cons (f := 126) (args := #[.pointer (some ⟨b, off, none⟩), .bool true]) (by simp) (by simp [go_sem]) ?_
 refine (store_deferred ⟨b, off, none⟩ (.int .u32 0) .returning _ r0 r2).mono ?_
 rintro e u' w'' ⟨rfl, rfl, rfl⟩
 refine leaves_cons (f := 125) (args := #[.pointer (some ⟨b, off + 1, none⟩)]) (by simp [settle]) (by simp [go_sem]) ?_
 refine (unlock_deferred ⟨b, off + 1, none⟩ _ _ ?_ (by simp [r3])).mono ?_
 · refine (World.cell?_setCell_other _ ⟨b, off, none⟩ ⟨b, off + 1, none⟩ _ (by simp)).trans ?_
   rw [World.cell?_drew]
   exact r1
 rintro e u' w'' ⟨rfl, rfl, rfl⟩
 simp [Leaves, settle, results, Tryz.results106]
 exact ⟨w2, HR2.out, rfl⟩

set_option maxRecDepth 100000 in
set_option maxHeartbeats 1600000 in
theorem do_first (f : Nat) (cap : Value) (b off : Nat) (w : World) (R : World → Prop)
  (h0 : w.cell? ⟨b, off, none⟩ = some (.int .u32 0)) (h1 : w.cell? ⟨b, off + 1, none⟩ = some (.int .i32 0))
  (f0 : w.frozen? ⟨b, off, none⟩ = false) (f1 : w.frozen? ⟨b, off + 1, none⟩ = false)
  (hf : Calls Tryz.prog f #[cap] (w.setCell ⟨b, off + 1, none⟩ (.int .i32 1)) fun e w' => e = .returned (.tuple #[]) ∧ R w')
  (henter : ∀ args w, (callFunc f args).run Tryz.prog w = .ok (.enter f args) w)
  (hR : ∀ w', R w' → w'.cell? ⟨b, off, none⟩ = some (.int .u32 0) ∧ w'.cell? ⟨b, off + 1, none⟩ = some (.int .i32 1) ∧ w'.frozen? ⟨b, off, none⟩ = false ∧ w'.frozen? ⟨b, off + 1, none⟩ = false) :
  Calls Tryz.prog 79 #[.pointer (some ⟨b, off, none⟩), .func (.func f) #[] #[cap]] w fun e w' => e = .returned (.tuple #[]) ∧ ∃ w2, R w2 ∧ w' = (w2.drew.setCell ⟨b, off, none⟩ (.int .u32 1)).setCell ⟨b, off + 1, none⟩ (.int .i32 0) := by
 have hl := run_call_load (P := Tryz.prog) Tryz.func123 (by kernel_rfl) (by kernel_rfl) (by kernel_rfl) .u32 (by kernel_rfl) h0
 have hnot : ∀ (x : Bool) (w : World), (Op.unary .not (.bool x)).run Tryz.prog w = .ok (.bool (!x)) w := fun _ _ => rfl
 have HS := Lib.hid (slow_any f cap b off w R h0 h1 f0 f1 hf henter hR)
 clear hf hR henter
 go_enter Tryz.func79, Tryz.ntmps79
 go_wp2_with (first | (go_at_call 106; refine HS.out.mono ?_; rintro e w' ⟨rfl, hw⟩) | (go_at_call 105; go_in))
 go_end0
 exact ⟨rfl, hw⟩
theorem do_done (a : Addr) (d : Int) (hd : ¬ d = 0) (fv : Value) (w : World) (h0 : w.cell? a = some (.int .u32 d)) :
  Calls Tryz.prog 79 #[.pointer (some a), fv] w fun e w' => e = .returned (.tuple #[]) ∧ w' = w := by
 have hl := run_call_load (P := Tryz.prog) Tryz.func123 (by kernel_rfl) (by kernel_rfl) (by kernel_rfl) .u32 (by kernel_rfl) h0
 have hnot : ∀ (x : Bool) (w : World), (Op.unary .not (.bool x)).run Tryz.prog w = .ok (.bool (!x)) w := fun _ _ => rfl
 have hd' : (d != 0) = true := by simp [hd]
 go_enter Tryz.func79, Tryz.ntmps79
 go_wp2
 go_end0
 exact ⟨rfl, rfl⟩
end Go.Proofs.YtknfbccbdiidjaaGreatDoor
