/- The walks of msum.Node.put, sums.Add. -/
import Derived.Test.YtknfbccbdiidjaaGreatDoorWu
import Derived.Test.YtknfbccbdiidjaaGreatDoorPSha7
import Derived.Test.YtknfbccbdiidjaaGreatDoorPMem
import Derived.Laws.Externs
import Derived.Deep.CutBlock
namespace Go.Proofs.YtknfbccbdiidjaaGreatDoor
set_option linter.unusedVariables false
set_option linter.unusedSimpArgs false
open Go.ChangeShapes Go.WideShapes Go.ChangeAt Go.RowKit

theorem splice_get {α : Type} (L cs : List α) (o i : Nat) (h : o + cs.length ≤ L.length) : (splice L o cs)[i]? = if o ≤ i ∧ i < o + cs.length then cs[i - o]? else L[i]? := by
 unfold splice
 by_cases h1 : i < o
 · rw [List.getElem?_append_left (by rw [List.length_take]; omega), List.getElem?_take, if_pos h1, if_neg (by omega)]
 · rw [List.getElem?_append_right (by rw [List.length_take]; omega), List.length_take, Nat.min_eq_left (by omega)]
   by_cases h2 : i < o + cs.length
   · rw [List.getElem?_append_left (by omega), if_pos ⟨by omega, h2⟩]
   · rw [List.getElem?_append_right (by omega), List.getElem?_drop, if_neg (by omega)]
     congr 1
     omega
theorem splice_len {α : Type} (L cs : List α) (o : Nat) (h : o + cs.length ≤ L.length) : (splice L o cs).length = L.length := length_splice L o cs h
theorem splice_nil {α : Type} (L : List α) (o : Nat) : splice L o [] = L := by simp [splice]
theorem splice_take_set {α : Type} (L cs : List α) (o k : Nat) (x : α) (h : o + cs.length ≤ L.length) (hx : cs[k]? = some x) : (splice L o (cs.take k)).set (o + k) x = splice L o (cs.take (k + 1)) := by
 have hk := (List.getElem?_eq_some_iff.1 hx).1
 apply List.ext_getElem?
 intro i
 rw [List.getElem?_set, splice_len _ _ _ (by rw [List.length_take]; omega), splice_get _ _ _ _ (by rw [List.length_take]; omega), splice_get _ _ _ _ (by rw [List.length_take]; omega), List.length_take, List.length_take]
 by_cases h1 : o + k = i
 · subst h1
   rw [if_pos rfl, if_pos (by omega), if_pos (by omega), List.getElem?_take, if_pos (by omega), Nat.add_sub_cancel_left, hx]
 · rw [if_neg h1]
   by_cases h2 : o ≤ i ∧ i < o + k
   · rw [if_pos (by omega), if_pos (by omega), List.getElem?_take, List.getElem?_take, if_pos (by omega), if_pos (by omega)]
   · rw [if_neg (by omega), if_neg (by omega)]
theorem splice_append {α : Type} (L a b : List α) (o : Nat) (h : o + (a.length + b.length) ≤ L.length) : splice (splice L o a) (o + a.length) b = splice L o (a ++ b) := by
 apply List.ext_getElem?
 intro i
 rw [splice_get _ _ _ _ (by rw [splice_len _ _ _ (by omega)]; omega), splice_get _ _ _ _ (by omega), splice_get _ _ _ _ (by rw [List.length_append]; omega), List.length_append]
 by_cases h1 : o ≤ i ∧ i < o + a.length
 · rw [if_neg (by omega), if_pos h1, if_pos (by omega), List.getElem?_append_left (by omega)]
 · by_cases h2 : o + a.length ≤ i ∧ i < o + a.length + b.length
   · rw [if_pos h2, if_pos (by omega), List.getElem?_append_right (by omega)]
     congr 1
     omega
   · rw [if_neg h2, if_neg h1, if_neg (by omega)]

def ncells (h : List Nat) (s : Nat) : List Value := bcells h ++ [.int .u64 (s : Int)]
def nodeV (h : List Nat) (s : Nat) : Value := .agg (ncells h s).toArray

theorem eight_get (s k : Nat) (hk : k < 8) : (bcells (eight s))[k]? = some (.int .u8 ((s / 2 ^ (8 * (7 - k)) % 256 : Nat) : Int)) := by
 rw [bcells_get _ _ (by rw [eight_length]; exact hk)]
 unfold eight
 simp [List.getD_eq_getElem?_getD, List.getElem?_map, List.getElem?_range hk]

set_option maxRecDepth 100000 in
theorem put_is (w : World) (h : List Nat) (s : Nat) (g o n c : Nat) (t : TypeId) (cur : List Value) (hh : h.length = 32) (hs : s < 18446744073709551616) (hn : 40 ≤ n) (hg : Has w g t cur.toArray) (ho : o + 40 ≤ cur.length) :
  Calls Tryz.prog 77 #[nodeV h s, .slice (some ⟨g, o, none⟩) n c] w fun e w' =>
    e = .returned (.tuple #[]) ∧ Has w' g t (splice cur o (bcells (h ++ eight s))).toArray ∧ Kept (· = g) w w' := by
 have HG := Hh hg
 have HH := Hh hh
 have hgl := hg.lt
 have Ac := Has.new w 30 (ncells h s).toArray
 have Aj := Hh Ac
 have Af : ∀ j u, (bcells h)[j]? = some u → (w.alloc (.cells (ncells h s).toArray 30)).cell? ((⟨w.heap.size, 0, none⟩ : Addr).add j) = some u := fun j u hu => by
  have hj := (List.getElem?_eq_some_iff.1 hu).1
  rw [Addr.add_mid]
  refine Aj.o.cell_is ?_
  rw [List.getElem?_toArray, ncells, Nat.zero_add, List.getElem?_append_left hj, hu]
 have Ai := Hh Af
 clear hg hh Ac Af
 unfold nodeV
 go_enter Tryz.func77, Tryz.ntmps77
 go_wp2_with (refine wpList_copy_kept rfl (.tmp 5) (.tmp 7) 48 48 rfl 5 Tryz.underlying48 size_u8 (some ⟨g, o, none⟩) (some ⟨w.heap.size, 0, none⟩) n c 32 32 rfl rfl g o cur t (HG.o.alloc _) (bcells h) (by rw [bcells_length, HH.o]; exact (Nat.min_eq_left (by omega)).symm) (fun _ => ⟨rfl, _, rfl, Ai.o⟩) (by rw [bcells_length, HH.o]; omega) (bcells_one _) ?_)
 intro w1 hw1 hk1
 have hne : w.heap.size ≠ g := by omega
 have cbox : w1.cell? ⟨w.heap.size, 32, none⟩ = some (.int .u64 (s : Int)) := (Aj.o.kept hk1 hne).cell_is (by
  rw [List.getElem?_toArray, ncells, List.getElem?_append_right (by rw [bcells_length, HH.o]; exact Nat.le_refl _), bcells_length, HH.o]; rfl)
 have hk0 : Kept (· = g) w w1 := ((Kept.refl (· = g) w).alloc _).trans hk1
 have Ae : (splice cur o (bcells h)).length = cur.length := splice_len _ _ _ (by rw [bcells_length, HH.o]; omega)
 have Aa := Hh Ae
 have Am := Hh hw1
 have Ak := Hh hk0
 clear hw1 hk1 hk0 Ae
 go_wp2_with fail
 go_loopw [9] (fun i wr => ∃ k : Nat, k ≤ 8 ∧ i = .int .i64 k ∧ Has wr g t (splice (splice cur o (bcells h)) (o + 32) ((bcells (eight s)).take k)).toArray ∧ Kept (· = g) w1 wr) (fun i _ => 8 - (intOf i).toNat)
 case atStart => exact ⟨0, by omega, rfl, by rw [List.take_zero, splice_nil]; exact Am.o, Kept.refl _ _⟩
 case round =>
  obtain ⟨k, hk, rfl, hW, hK⟩ := hrel
  have HW := Hh hW
  have Ag := Hh hK
  clear hW hK
  by_cases hlt : k < 8
  · have cb := cell_kept Ag.o cbox hne
    have hf := HW.o.free (o + (32 + k))
    obtain ⟨v0, hv0⟩ : ∃ v, wr.cell? ⟨g, o + (32 + k), none⟩ = some v := by
     refine ⟨_, HW.o.cell_is (by rw [List.getElem?_toArray]; exact List.getElem?_eq_getElem (by rw [splice_len _ _ _ (by rw [Aa.o, List.length_take, bcells_length, eight_length]; omega), Aa.o]; omega))⟩
    have Ab := HW.o.set (o + 32 + k) (.int .u8 ((s / 2 ^ (8 * (7 - k)) % 256 : Nat) : Int))
    rw [List.setIfInBounds_toArray, splice_take_set _ _ _ _ _ (by rw [Aa.o, bcells_length, eight_length]; omega) (eight_get s k hlt), Nat.add_assoc] at Ab
    have hv : ((s : Int) / 2 ^ (56 - 8 * k) % 256) = ((s / 2 ^ (8 * (7 - k)) % 256 : Nat) : Int) := by
     rw [show 56 - 8 * k = 8 * (7 - k) by omega, show (2 : Int) ^ (8 * (7 - k)) = ((2 ^ (8 * (7 - k)) : Nat) : Int) by simp]
     rfl
    have HV := Hh hv
    have Ah := Hh Ab
    clear Ab hv
    go_wp2
    go_roundw
    case rel => exact ⟨k + 1, by omega, by go_num, by rw [HV.o]; exact Ah.o, Ag.o.set (.inl rfl) _⟩
    case measure => simp [intOf]; omega
  · have hk8 : k = 8 := by omega
    have Ad : Has wr g t (splice cur o (bcells (h ++ eight s))).toArray := by
     have h1 := HW.o
     rw [hk8, List.take_of_length_le (by rw [bcells_length, eight_length]; exact Nat.le_refl _)] at h1
     have e : bcells (h ++ eight s) = bcells h ++ bcells (eight s) := by simp [bcells]
     rw [e, ← splice_append _ _ _ _ (by rw [bcells_length, bcells_length, eight_length, HH.o]; omega), bcells_length, HH.o]
     exact h1
    have HF := Hh Ad
    have Al := Hh (Ak.o.trans Ag.o)
    clear hk8 Ad HW Ag
    go_wp2
    go_end0
    exact ⟨rfl, HF.o, Al.o⟩

theorem add64_is (w : World) (a b : Nat) : (callFunc 72 #[.int .u64 (a : Int), .int .u64 (b : Int), .int .u64 0]).run Tryz.prog w =
  .ok (.value (.tuple #[.int .u64 (((a + b) % 18446744073709551616 : Nat) : Int), .int .u64 (((a + b) / 18446744073709551616 : Nat) : Int)])) w := by
 rw [run_callFunc_extern Tryz.func72 (by kernel_rfl) (by kernel_rfl) (by kernel_rfl) (e := add64Entry) (by kernel_rfl), run_add64 a b 0 (by omega) (by omega) (by omega) (by omega)]
 simp only [Result.andThen]
 congr 5 <;> omega

theorem add_fits (w : World) (a b : Nat) (h : a + b < 18446744073709551616) :
  Calls Tryz.prog 41 #[.int .u64 (a : Int), .int .u64 (b : Int)] w fun e w' => e = .returned (.tuple #[.int .u64 ((a + b : Nat) : Int), .int .i64 0]) ∧ w' = w := by
 have Aa := add64_is w a b
 rw [Nat.mod_eq_of_lt h, Nat.div_eq_of_lt h] at Aa
 obtain ⟨s, hs⟩ : ∃ s, s = a + b := ⟨_, rfl⟩
 rw [← hs] at Aa
 have HS := Hh hs
 have Ab := Hh Aa
 clear Aa hs h
 go_enter Tryz.func41, Tryz.ntmps41
 go_wp2_with (simp only [Ab.o])
 go_ret2
 exact ⟨by rw [HS.o]; rfl, rfl⟩

theorem add_over (w : World) (a b : Nat) (h : 18446744073709551616 ≤ a + b) (h2 : a + b < 36893488147419103232) :
  Calls Tryz.prog 41 #[.int .u64 (a : Int), .int .u64 (b : Int)] w fun e w' => e = .returned (.tuple #[.int .u64 0, .int .i64 10]) ∧ w' = w := by
 have Aa := add64_is w a b
 rw [show (a + b) / 18446744073709551616 = 1 by omega] at Aa
 obtain ⟨s, hs⟩ : ∃ s, s = (a + b) % 18446744073709551616 := ⟨_, rfl⟩
 rw [← hs] at Aa
 have Ab := Hh Aa
 clear Aa hs h h2
 go_enter Tryz.func41, Tryz.ntmps41
 go_wp2_with (simp only [Ab.o])
 go_ret2
 exact ⟨rfl, rfl⟩

/- The walks of msum.Leaf.Node, msum.Branch. -/

theorem splice_all {α : Type} (L cs : List α) (h : cs.length = L.length) : splice L 0 cs = cs := by
 unfold splice
 rw [List.take_zero, List.nil_append, Nat.zero_add, h, List.drop_length, List.append_nil]

def SumA (K s0 : List Wd) (w : World) (m : List Nat) (e : Ending) (w' : World) : Prop :=
 ∃ A : Array Value, e = .returned (.agg A) ∧ A = (bcells (digest K s0 m)).toArray ∧ Below w.heap.size w w'
theorem sum_a (K s0 : List Wd) (w : World) (v : Value) (ps : List (List Nat)) (m : List Nat) (hT : Tabs K s0 w) (hP : Parts w v ps) (hm : ps.flatten = m) (hl : m.length ≤ 1000000000) (hn : ps.length ≤ 1000000000) :
  Calls Tryz.prog 78 #[v] w (SumA K s0 w m) := by
 subst hm
 exact (sum_is K s0 w v ps hT hP hl hn).mono fun e w' ⟨he, hb⟩ => ⟨_, he, rfl, hb⟩

theorem thirty_two (l : List Nat) (h : l.length = 32) : ∃ d0 d1 d2 d3 d4 d5 d6 d7 d8 d9 d10 d11 d12 d13 d14 d15 d16 d17 d18 d19 d20 d21 d22 d23 d24 d25 d26 d27 d28 d29 d30 d31 : Nat, l = [d0, d1, d2, d3, d4, d5, d6, d7, d8, d9, d10, d11, d12, d13, d14, d15, d16, d17, d18, d19, d20, d21, d22, d23, d24, d25, d26, d27, d28, d29, d30, d31] := by
 match l, h with
 | [d0, d1, d2, d3, d4, d5, d6, d7, d8, d9, d10, d11, d12, d13, d14, d15, d16, d17, d18, d19, d20, d21, d22, d23, d24, d25, d26, d27, d28, d29, d30, d31], _ => exact ⟨d0, d1, d2, d3, d4, d5, d6, d7, d8, d9, d10, d11, d12, d13, d14, d15, d16, d17, d18, d19, d20, d21, d22, d23, d24, d25, d26, d27, d28, d29, d30, d31, rfl⟩
theorem ncells_one (D : List Nat) (s : Nat) : ∀ v ∈ ncells D s, v.oneCell' = true := by
 intro v hv
 rcases List.mem_append.1 hv with h | h
 · exact bcells_one D v h
 · rw [List.mem_singleton.1 h]; rfl
theorem node_ops (B : Nat) (D : List Nat) (s : Nat) (h : D.length = 32) (A : Array Value) (hA : A = (bcells D).toArray) : ∃ N F : Array Value, N = (ncells D s).toArray ∧ N.size = 33 ∧ A.size = 32 ∧
   Array.foldl (fun (cs : Array Value) (x : Value × Nat) => cs.setIfInBounds x.snd x.fst) #[Value.int .u8 0, Value.int .u8 0, Value.int .u8 0, Value.int .u8 0, Value.int .u8 0, Value.int .u8 0, Value.int .u8 0, Value.int .u8 0, Value.int .u8 0, Value.int .u8 0, Value.int .u8 0, Value.int .u8 0, Value.int .u8 0, Value.int .u8 0, Value.int .u8 0, Value.int .u8 0, Value.int .u8 0, Value.int .u8 0, Value.int .u8 0, Value.int .u8 0, Value.int .u8 0, Value.int .u8 0, Value.int .u8 0, Value.int .u8 0, Value.int .u8 0, Value.int .u8 0, Value.int .u8 0, Value.int .u8 0, Value.int .u8 0, Value.int .u8 0, Value.int .u8 0, Value.int .u8 0, Value.int .u64 0] A.zipIdx 0 32 = F ∧ F.size = 33 ∧ F.setIfInBounds 32 (.int .u64 (s : Int)) = N ∧
   (∀ w t old, Has w B t old → old.size = 33 → (storeCells ⟨B, 0, none⟩ N.toList).run Tryz.prog w = .ok () (w.setRow B N)) := by
 subst hA
 refine ⟨(ncells D s).toArray, (ncells D 0).toArray, rfl, by simp [ncells, bcells_length, h], by simp [bcells_length, h], ?_, by simp [ncells, bcells_length, h], ?_, fun w t old hh ho => ?_⟩
 · obtain ⟨d0, d1, d2, d3, d4, d5, d6, d7, d8, d9, d10, d11, d12, d13, d14, d15, d16, d17, d18, d19, d20, d21, d22, d23, d24, d25, d26, d27, d28, d29, d30, d31, rfl⟩ := thirty_two D h
   kernel_rfl
 · rw [List.setIfInBounds_toArray, ncells, ncells, List.set_append_right _ _ (by rw [bcells_length, h]; exact Nat.le_refl _), bcells_length, h]
   rfl
 · have := run_storeCells_from (P := Tryz.prog) B t (ncells D s) 0 old w hh (by rw [ho]; simp [ncells, bcells_length, h]) (ncells_one D s)
   simpa using this

def leafV (v : Value) (s : Nat) : Value := .agg #[v, .int .u64 (s : Int)]

set_option maxRecDepth 100000 in
set_option maxHeartbeats 2000000 in
theorem leafNode_is (K s0 : List Wd) (w : World) (v : Value) (bs : List Nat) (s : Nat) (hT : Tabs K s0 w) (hB : Bytes w w.heap.size v bs) (hl : bs.length ≤ 1000000) (hs : s < 18446744073709551616) :
  Calls Tryz.prog 48 #[leafV v s] w fun e w' => e = .returned (nodeV (digest K s0 (bs ++ eight s)) s) ∧ Below w.heap.size w w' := by
 obtain ⟨a, c, rfl, _⟩ := id hB
 have HT := Hh hT
 have HB := Hh hB
 have HL := Hh hl
 clear hT hB hl
 unfold leafV
 go_enter Tryz.func48, Tryz.ntmps48
 go_wp2_with fail
 have h3 := three w #[Value.slice a bs.length c, .int .u64 (s : Int)] 50 #[Value.int .u8 0, Value.int .u8 0, Value.int .u8 0, Value.int .u8 0, Value.int .u8 0, Value.int .u8 0, Value.int .u8 0, Value.int .u8 0, Value.int .u8 0, Value.int .u8 0, Value.int .u8 0, Value.int .u8 0, Value.int .u8 0, Value.int .u8 0, Value.int .u8 0, Value.int .u8 0, Value.int .u8 0, Value.int .u8 0, Value.int .u8 0, Value.int .u8 0, Value.int .u8 0, Value.int .u8 0, Value.int .u8 0, Value.int .u8 0, Value.int .u8 0, Value.int .u8 0, Value.int .u8 0, Value.int .u8 0, Value.int .u8 0, Value.int .u8 0, Value.int .u8 0, Value.int .u8 0, Value.int .u64 0] 30 #[Value.int .u8 0, Value.int .u8 0, Value.int .u8 0, Value.int .u8 0, Value.int .u8 0, Value.int .u8 0, Value.int .u8 0, Value.int .u8 0, Value.int .u8 0, Value.int .u8 0, Value.int .u8 0, Value.int .u8 0, Value.int .u8 0, Value.int .u8 0, Value.int .u8 0, Value.int .u8 0, Value.int .u8 0, Value.int .u8 0, Value.int .u8 0, Value.int .u8 0, Value.int .u8 0, Value.int .u8 0, Value.int .u8 0, Value.int .u8 0, Value.int .u8 0, Value.int .u8 0, Value.int .u8 0, Value.int .u8 0, Value.int .u8 0, Value.int .u8 0, Value.int .u8 0, Value.int .u8 0, Value.int .u8 0, Value.int .u8 0, Value.int .u8 0, Value.int .u8 0, Value.int .u8 0, Value.int .u8 0, Value.int .u8 0, Value.int .u8 0] 168
 generalize ((w.alloc (.cells #[Value.slice a bs.length c, .int .u64 (s : Int)] 50)).alloc (.cells #[Value.int .u8 0, Value.int .u8 0, Value.int .u8 0, Value.int .u8 0, Value.int .u8 0, Value.int .u8 0, Value.int .u8 0, Value.int .u8 0, Value.int .u8 0, Value.int .u8 0, Value.int .u8 0, Value.int .u8 0, Value.int .u8 0, Value.int .u8 0, Value.int .u8 0, Value.int .u8 0, Value.int .u8 0, Value.int .u8 0, Value.int .u8 0, Value.int .u8 0, Value.int .u8 0, Value.int .u8 0, Value.int .u8 0, Value.int .u8 0, Value.int .u8 0, Value.int .u8 0, Value.int .u8 0, Value.int .u8 0, Value.int .u8 0, Value.int .u8 0, Value.int .u8 0, Value.int .u8 0, Value.int .u64 0] 30)).alloc (.cells #[Value.int .u8 0, Value.int .u8 0, Value.int .u8 0, Value.int .u8 0, Value.int .u8 0, Value.int .u8 0, Value.int .u8 0, Value.int .u8 0, Value.int .u8 0, Value.int .u8 0, Value.int .u8 0, Value.int .u8 0, Value.int .u8 0, Value.int .u8 0, Value.int .u8 0, Value.int .u8 0, Value.int .u8 0, Value.int .u8 0, Value.int .u8 0, Value.int .u8 0, Value.int .u8 0, Value.int .u8 0, Value.int .u8 0, Value.int .u8 0, Value.int .u8 0, Value.int .u8 0, Value.int .u8 0, Value.int .u8 0, Value.int .u8 0, Value.int .u8 0, Value.int .u8 0, Value.int .u8 0, Value.int .u8 0, Value.int .u8 0, Value.int .u8 0, Value.int .u8 0, Value.int .u8 0, Value.int .u8 0, Value.int .u8 0, Value.int .u8 0] 168) = W at h3 ⊢
 obtain ⟨h0, h1, h2, Aa, Ac⟩ := h3
 obtain ⟨B1, hB1⟩ : ∃ B, w.heap.size + 1 = B := ⟨_, rfl⟩
 obtain ⟨B2, hB2⟩ : ∃ B, B1 + 1 = B := ⟨_, rfl⟩
 rw [hB1] at h1 h2 ⊢
 rw [hB2] at h2 ⊢
 have hB1g : w.heap.size < B1 := by omega
 have hB2g : B1 < B2 := by omega
 have hb2 : Has W B2 168 (bcells (List.replicate 40 0)).toArray := h2
 have cb0 : W.cell? ⟨w.heap.size, 0, none⟩ = some (.slice a bs.length c) := h0.cell_is rfl
 have cb1 : W.cell? ⟨w.heap.size, 1, none⟩ = some (.int .u64 (s : Int)) := h0.cell_is rfl
 have H1 := Hh h1
 have H2 := Hh hb2
 have Af := Hh Aa
 have Ao := Hh Ac
 clear h0 h1 h2 hb2 Aa Ac hB1 hB2
 go_region_law (go_simp; go_at_call 77; refine (put_is W.drew (List.replicate 32 0) s B2 0 40 40 168 (bcells (List.replicate 40 0)) List.length_replicate hs (Nat.le_refl _) H2.o (by rw [bcells_length, List.length_replicate]; omega)).mono ?_; rintro _ w1 ⟨rfl, hw1, hk1⟩)
 rw [splice_all _ _ (by rw [bcells_length, bcells_length, List.length_append, List.length_replicate, List.length_replicate, eight_length])] at hw1
 have d0 := cell_kept hk1.undrew cb0 (by show ¬ w.heap.size = B2; omega)
 have d1 := cell_kept hk1.undrew cb1 (by show ¬ w.heap.size = B2; omega)
 have hx1 : Below w.heap.size w w1 := Af.o.trans (hk1.undrew.below (by have := Ao.o; omega) (fun k hk => by have e : k = B2 := hk; omega))
 have h11 := H1.o.kept hk1.undrew (by omega)
 have d1a : ∀ o, (w1.alloc o).cell? ⟨w.heap.size, 1, none⟩ = some (.int .u64 (s : Int)) := fun o => by rw [World.cell?_alloc_lt w1 _ _ (World.block_lt_of_cell? w1 _ d1)]; exact d1
 have Ae := Hh hx1
 have Al := Hh hw1
 have Am := Hh h11
 clear cb0 cb1 H1 H2 Af hw1 hk1 hx1 h11
 have Ab : Parts (w1.drew.alloc (.cells #[Value.slice a bs.length c, .slice (some ⟨B2, 32, none⟩) 8 8] 48)) (.slice (some ⟨w1.heap.size, 0, none⟩) 2 2) [bs, eight s] := by
  refine ⟨_, _, rfl, fun _ => ⟨w1.heap.size, 0, rfl, fun i hi => ?_⟩⟩
  have hX : Below w.heap.size w (w1.drew.alloc (.cells #[Value.slice a bs.length c, .slice (some ⟨B2, 32, none⟩) 8 8] 48)) := Ae.o.drew.alloc (by have := Ae.o.size; show w.heap.size ≤ w1.heap.size; exact this) _
  have hc := fun j => Has.cell (Has.new w1.drew 48 #[Value.slice a bs.length c, .slice (some ⟨B2, 32, none⟩) 8 8]) j
  have hi2 : i = 0 ∨ i = 1 := by simp at hi; omega
  rcases hi2 with rfl | rfl
  · exact ⟨_, hc 0, HB.o.alive hX (by have := hX.size; exact this)⟩
  · refine ⟨_, hc 1, ?_⟩
    change Bytes _ _ _ (eight s)
    have hsz : (w1.drew.alloc (.cells #[Value.slice a bs.length c, .slice (some ⟨B2, 32, none⟩) 8 8] 48)).heap.size = w1.heap.size + 1 := by simp
    have hw := (Al.o.drew).alloc (.cells #[Value.slice a bs.length c, .slice (some ⟨B2, 32, none⟩) 8 8] 48)
    have hlt := Al.o.lt
    refine ⟨some ⟨B2, 32, none⟩, 8, rfl, by rw [eight_length]; exact Nat.le_refl _, fun x hx => ?_, fun _ => ⟨B2, 32, rfl, by rw [hsz]; omega, fun i hi => ?_⟩⟩
    · obtain ⟨j, _, rfl⟩ := List.mem_map.1 hx
      exact Nat.mod_lt _ (by decide)
    · rw [eight_length] at hi
      refine hw.cell_is ?_
      rw [List.getElem?_toArray, bcells_get _ _ (by rw [List.length_append, List.length_replicate, eight_length]; omega)]
      rw [List.getD_eq_getElem?_getD, List.getElem?_append_right (by rw [List.length_replicate]; omega), List.length_replicate, Nat.add_sub_cancel_left, ← List.getD_eq_getElem?_getD]
 have Ad := Hh Ab
 clear Ab
 have hTx : Tabs K s0 (w1.drew.alloc (.cells #[Value.slice a bs.length c, .slice (some ⟨B2, 32, none⟩) 8 8] 48)) :=
  (HT.o.below Ae.o HT.o.low).drew.below ((Below.refl w1.heap.size w1.drew).alloc (Nat.le_refl _) _) (by have := Ae.o.size; have := HT.o.low; omega)
 have Ap := Hh hTx
 clear hTx
 have Ag : ∀ w5, Below (w1.drew.alloc (.cells #[Value.slice a bs.length c, .slice (some ⟨B2, 32, none⟩) 8 8] 48)).heap.size (w1.drew.alloc (.cells #[Value.slice a bs.length c, .slice (some ⟨B2, 32, none⟩) 8 8] 48)) w5 →
    w5.cell? ⟨w.heap.size, 1, none⟩ = some (.int .u64 (s : Int)) ∧ Has w5 B1 30 #[Value.int .u8 0, Value.int .u8 0, Value.int .u8 0, Value.int .u8 0, Value.int .u8 0, Value.int .u8 0, Value.int .u8 0, Value.int .u8 0, Value.int .u8 0, Value.int .u8 0, Value.int .u8 0, Value.int .u8 0, Value.int .u8 0, Value.int .u8 0, Value.int .u8 0, Value.int .u8 0, Value.int .u8 0, Value.int .u8 0, Value.int .u8 0, Value.int .u8 0, Value.int .u8 0, Value.int .u8 0, Value.int .u8 0, Value.int .u8 0, Value.int .u8 0, Value.int .u8 0, Value.int .u8 0, Value.int .u8 0, Value.int .u8 0, Value.int .u8 0, Value.int .u8 0, Value.int .u8 0, Value.int .u64 0] ∧ Below w.heap.size w w5 := fun w5 hb5 => by
  have hk := Kept.of_below (S := fun _ => False) hb5
  have hk2 : Kept (fun _ => False) w1 w5 := (((Kept.refl (fun _ => False) w1).drew).alloc _).trans hk
  exact ⟨cell_kept hk2 d1 (fun h => h), Am.o.kept hk2 (fun h => h), Ae.o.trans (hk2.below Ae.o.size (fun _ h => h.elim))⟩
 have Ai := Hh Ag
 have Aj := Hh (node_ops B1 (digest K s0 (bs ++ eight s)) s (digest_length K s0 HT.o.len _))
 clear Ag
 go_wp2_with fail
 go_region_law (go_simp; go_at_call 78; refine (sum_a K s0 _ _ [bs, eight s] (bs ++ eight s) Ap.o Ad.o (by simp) (by rw [List.length_append, eight_length]; have := HL.o; omega) (by simp)).mono ?_; rintro _ w5 ⟨A, rfl, hA, hb5⟩; obtain ⟨e1, e2, e3⟩ := Ai.o w5 hb5; obtain ⟨N, F, hN, hN1, hA1, hA2, hA3, hA4, hst⟩ := Aj.o A hA; have HA := Hh hA; have HN := Hh hN; clear hA hN; have hst5 := hst w5 _ _ e2 rfl)
 all_goals
  have Ah : Has (w5.setRow B1 N) B1 30 N := e2.setRow
  have Aa : Below w.heap.size w (w5.setRow B1 N) := e3.trans ((kept_setRow (g := B1) w5 N).below e3.size (fun k hk => by have e : k = B1 := hk; omega))
  have hsz : (Tryz.prog.info? 30).map (·.size) = some N.size := by rw [hN1]; kernel_rfl
  have Ak := Hh Ah
  have An := Hh Aa
  have HZ := Hh hsz
  clear Ah Aa hsz
  go_wp2
  refine bodyPost_ret (results_cell_row rfl _ _ B1 30 N (0, 0) _ rfl Ak.o Tryz.underlying30 rfl HZ.o) rfl ?_
  exact ⟨by rw [HN.o]; rfl, An.o⟩

/- The walk of msum.Branch. -/

theorem results_cell_tmp {fn : Func} {p q : Tmp} {ty : TypeId} {fs : Array _} (h : fn.results = #[.cell p ty, .tmp q]) (tmps : Array Value) (w : World) (g : Nat) (t : TypeId) (cs : Array Value) (fr : Nat × Nat) (v : Value)
  (hp : tmps.getD p undef = .pointer (some ⟨g, 0, none⟩)) (hq : tmps.getD q undef = v) (hg : w.heap[g]? = some (.cells cs t fr))
  (hu : Tryz.prog.underlying ty = some (.struct fs)) (hi : (Tryz.prog.info? ty).map (·.size) = some cs.size) :
  (results fn tmps).run Tryz.prog w = .ok (.tuple #[.agg cs, v]) w := by
 have hp' : tmps[p]?.getD undef = .pointer (some ⟨g, 0, none⟩) := by simpa using hp
 have hq' : tmps[q]?.getD undef = v := by simpa using hq
 simp [results, h, hp', hq', asAddr, run_loadVar_row w g t ty cs fr _ hg hu rfl hi]
set_option maxRecDepth 100000 in
theorem branch_over (w : World) (ha hb : List Nat) (sa sb : Nat) (h1 : ha.length = 32) (h2 : hb.length = 32) (ho : 18446744073709551616 ≤ sa + sb) (hl : sa + sb < 36893488147419103232) :
  Calls Tryz.prog 52 #[nodeV ha sa, nodeV hb sb] w fun e w' => e = .returned (.tuple #[nodeV (List.replicate 32 0) 0, .int .i64 10]) ∧ Below w.heap.size w w' := by
 have HO := Hh ho
 have HL := Hh hl
 have na : (ncells ha sa).toArray[32]? = some (.int .u64 (sa : Int)) := by rw [List.getElem?_toArray, ncells, List.getElem?_append_right (by rw [bcells_length, h1]; exact Nat.le_refl _), bcells_length, h1]; rfl
 have nb : (ncells hb sb).toArray[32]? = some (.int .u64 (sb : Int)) := by rw [List.getElem?_toArray, ncells, List.getElem?_append_right (by rw [bcells_length, h2]; exact Nat.le_refl _), bcells_length, h2]; rfl
 unfold nodeV
 generalize (ncells ha sa).toArray = NA at na ⊢
 generalize (ncells hb sb).toArray = NB at nb ⊢
 clear ho hl h1 h2
 go_enter Tryz.func52, Tryz.ntmps52
 go_upto_region 1 with (fail)
 have h3 := three w NA 30 NB 30 #[Value.int .u8 0, Value.int .u8 0, Value.int .u8 0, Value.int .u8 0, Value.int .u8 0, Value.int .u8 0, Value.int .u8 0, Value.int .u8 0, Value.int .u8 0, Value.int .u8 0, Value.int .u8 0, Value.int .u8 0, Value.int .u8 0, Value.int .u8 0, Value.int .u8 0, Value.int .u8 0, Value.int .u8 0, Value.int .u8 0, Value.int .u8 0, Value.int .u8 0, Value.int .u8 0, Value.int .u8 0, Value.int .u8 0, Value.int .u8 0, Value.int .u8 0, Value.int .u8 0, Value.int .u8 0, Value.int .u8 0, Value.int .u8 0, Value.int .u8 0, Value.int .u8 0, Value.int .u8 0, Value.int .u64 0] 30
 generalize ((w.alloc (.cells NA 30)).alloc (.cells NB 30)).alloc (.cells #[Value.int .u8 0, Value.int .u8 0, Value.int .u8 0, Value.int .u8 0, Value.int .u8 0, Value.int .u8 0, Value.int .u8 0, Value.int .u8 0, Value.int .u8 0, Value.int .u8 0, Value.int .u8 0, Value.int .u8 0, Value.int .u8 0, Value.int .u8 0, Value.int .u8 0, Value.int .u8 0, Value.int .u8 0, Value.int .u8 0, Value.int .u8 0, Value.int .u8 0, Value.int .u8 0, Value.int .u8 0, Value.int .u8 0, Value.int .u8 0, Value.int .u8 0, Value.int .u8 0, Value.int .u8 0, Value.int .u8 0, Value.int .u8 0, Value.int .u8 0, Value.int .u8 0, Value.int .u8 0, Value.int .u64 0] 30) = W at h3 ⊢
 obtain ⟨hA, hB, hr, Aa, Ab⟩ := h3
 have ca := hA.cell_is na
 have cb := hB.cell_is nb
 have HR := Hh hr
 have Ac := Hh Aa
 clear hA hB hr Aa Ab na nb
 go_wp2_with fail
 refine (add_over _ sa sb HO.o HL.o).mono ?_
 rintro _ w1 ⟨rfl, rfl⟩
 go_wp2_with (refine wpList_store_row rfl 30 (.tmp 4) (.tmp 19) rfl (w.heap.size + 1 + 1) #[Value.int .u8 0, Value.int .u8 0, Value.int .u8 0, Value.int .u8 0, Value.int .u8 0, Value.int .u8 0, Value.int .u8 0, Value.int .u8 0, Value.int .u8 0, Value.int .u8 0, Value.int .u8 0, Value.int .u8 0, Value.int .u8 0, Value.int .u8 0, Value.int .u8 0, Value.int .u8 0, Value.int .u8 0, Value.int .u8 0, Value.int .u8 0, Value.int .u8 0, Value.int .u8 0, Value.int .u8 0, Value.int .u8 0, Value.int .u8 0, Value.int .u8 0, Value.int .u8 0, Value.int .u8 0, Value.int .u8 0, Value.int .u8 0, Value.int .u8 0, Value.int .u8 0, Value.int .u8 0, Value.int .u64 0] rfl rfl 30 _ HR.o (by kernel_rfl) (by kernel_rfl) (by kernel_rfl) ?_)
 have Ad : Has (w1.setRow (w.heap.size + 1 + 1) #[Value.int .u8 0, Value.int .u8 0, Value.int .u8 0, Value.int .u8 0, Value.int .u8 0, Value.int .u8 0, Value.int .u8 0, Value.int .u8 0, Value.int .u8 0, Value.int .u8 0, Value.int .u8 0, Value.int .u8 0, Value.int .u8 0, Value.int .u8 0, Value.int .u8 0, Value.int .u8 0, Value.int .u8 0, Value.int .u8 0, Value.int .u8 0, Value.int .u8 0, Value.int .u8 0, Value.int .u8 0, Value.int .u8 0, Value.int .u8 0, Value.int .u8 0, Value.int .u8 0, Value.int .u8 0, Value.int .u8 0, Value.int .u8 0, Value.int .u8 0, Value.int .u8 0, Value.int .u8 0, Value.int .u64 0]) (w.heap.size + 1 + 1) 30 #[Value.int .u8 0, Value.int .u8 0, Value.int .u8 0, Value.int .u8 0, Value.int .u8 0, Value.int .u8 0, Value.int .u8 0, Value.int .u8 0, Value.int .u8 0, Value.int .u8 0, Value.int .u8 0, Value.int .u8 0, Value.int .u8 0, Value.int .u8 0, Value.int .u8 0, Value.int .u8 0, Value.int .u8 0, Value.int .u8 0, Value.int .u8 0, Value.int .u8 0, Value.int .u8 0, Value.int .u8 0, Value.int .u8 0, Value.int .u8 0, Value.int .u8 0, Value.int .u8 0, Value.int .u8 0, Value.int .u8 0, Value.int .u8 0, Value.int .u8 0, Value.int .u8 0, Value.int .u8 0, Value.int .u64 0] := HR.o.setRow
 have hlt := HR.o.lt
 refine bodyPost_ret (results_cell_tmp rfl _ _ (w.heap.size + 1 + 1) 30 #[Value.int .u8 0, Value.int .u8 0, Value.int .u8 0, Value.int .u8 0, Value.int .u8 0, Value.int .u8 0, Value.int .u8 0, Value.int .u8 0, Value.int .u8 0, Value.int .u8 0, Value.int .u8 0, Value.int .u8 0, Value.int .u8 0, Value.int .u8 0, Value.int .u8 0, Value.int .u8 0, Value.int .u8 0, Value.int .u8 0, Value.int .u8 0, Value.int .u8 0, Value.int .u8 0, Value.int .u8 0, Value.int .u8 0, Value.int .u8 0, Value.int .u8 0, Value.int .u8 0, Value.int .u8 0, Value.int .u8 0, Value.int .u8 0, Value.int .u8 0, Value.int .u8 0, Value.int .u8 0, Value.int .u64 0] (0, 0) _ rfl rfl Ad Tryz.underlying30 (by kernel_rfl)) rfl ?_
 exact ⟨rfl, Ac.o.trans ((kept_setRow (g := w.heap.size + 1 + 1) w1 _).below (by omega) (fun k hk => by have e : k = w.heap.size + 1 + 1 := hk; omega))⟩

theorem bcells_append (a b : List Nat) : bcells (a ++ b) = bcells a ++ bcells b := by simp [bcells]
theorem splice_two (Z X Y : List Value) (n : Nat) (hx : X.length = n) (hz : Z.length = n + Y.length) : splice (splice Z 0 X) n Y = X ++ Y := by
 have h := splice_append Z X Y 0 (by omega)
 rw [Nat.zero_add, hx] at h
 rw [h]
 exact splice_all _ _ (by rw [List.length_append]; omega)

set_option maxRecDepth 100000 in
set_option maxHeartbeats 1000000 in
theorem branch_fits (K s0 : List Wd) (w : World) (ha hb : List Nat) (sa sb : Nat) (hT : Tabs K s0 w) (h1 : IsHash ha) (h2 : IsHash hb) (hf : sa + sb < 18446744073709551616) :
  Calls Tryz.prog 52 #[nodeV ha sa, nodeV hb sb] w fun e w' =>
    e = .returned (.tuple #[nodeV (digest K s0 (ha ++ eight sa ++ (hb ++ eight sb))) (sa + sb), .int .i64 0]) ∧ Below w.heap.size w w' := by
 have HT := Hh hT
 have HF := Hh hf
 have HA := Hh h1
 have HB := Hh h2
 have na : (ncells ha sa).toArray[32]? = some (.int .u64 (sa : Int)) := by rw [List.getElem?_toArray, ncells, List.getElem?_append_right (by rw [bcells_length, h1.1]; exact Nat.le_refl _), bcells_length, h1.1]; rfl
 have nb : (ncells hb sb).toArray[32]? = some (.int .u64 (sb : Int)) := by rw [List.getElem?_toArray, ncells, List.getElem?_append_right (by rw [bcells_length, h2.1]; exact Nat.le_refl _), bcells_length, h2.1]; rfl
 have sza : (Tryz.prog.info? 30).map (·.size) = some (ncells ha sa).toArray.size := by rw [List.size_toArray, ncells, List.length_append, bcells_length, h1.1]; kernel_rfl
 have szb : (Tryz.prog.info? 30).map (·.size) = some (ncells hb sb).toArray.size := by rw [List.size_toArray, ncells, List.length_append, bcells_length, h2.1]; kernel_rfl
 have ea : nodeV ha sa = .agg (ncells ha sa).toArray := rfl
 have eb : nodeV hb sb = .agg (ncells hb sb).toArray := rfl
 rw [ea, eb]
 obtain ⟨NA, hNA⟩ : ∃ N, N = (ncells ha sa).toArray := ⟨_, rfl⟩
 obtain ⟨NB, hNB⟩ : ∃ N, N = (ncells hb sb).toArray := ⟨_, rfl⟩
 rw [← hNA] at na sza ⊢
 rw [← hNB] at nb szb ⊢
 have Au := Hh hNA
 have Av := Hh hNB
 have A1 := Hh sza
 have A2 := Hh szb
 clear hT h1 h2 hf ea eb hNA hNB sza szb
 go_enter Tryz.func52, Tryz.ntmps52
 go_upto_region 1 with (fail)
 have h3 := three w NA 30 NB 30 #[Value.int .u8 0, Value.int .u8 0, Value.int .u8 0, Value.int .u8 0, Value.int .u8 0, Value.int .u8 0, Value.int .u8 0, Value.int .u8 0, Value.int .u8 0, Value.int .u8 0, Value.int .u8 0, Value.int .u8 0, Value.int .u8 0, Value.int .u8 0, Value.int .u8 0, Value.int .u8 0, Value.int .u8 0, Value.int .u8 0, Value.int .u8 0, Value.int .u8 0, Value.int .u8 0, Value.int .u8 0, Value.int .u8 0, Value.int .u8 0, Value.int .u8 0, Value.int .u8 0, Value.int .u8 0, Value.int .u8 0, Value.int .u8 0, Value.int .u8 0, Value.int .u8 0, Value.int .u8 0, Value.int .u64 0] 30
 generalize ((w.alloc (.cells NA 30)).alloc (.cells NB 30)).alloc (.cells #[Value.int .u8 0, Value.int .u8 0, Value.int .u8 0, Value.int .u8 0, Value.int .u8 0, Value.int .u8 0, Value.int .u8 0, Value.int .u8 0, Value.int .u8 0, Value.int .u8 0, Value.int .u8 0, Value.int .u8 0, Value.int .u8 0, Value.int .u8 0, Value.int .u8 0, Value.int .u8 0, Value.int .u8 0, Value.int .u8 0, Value.int .u8 0, Value.int .u8 0, Value.int .u8 0, Value.int .u8 0, Value.int .u8 0, Value.int .u8 0, Value.int .u8 0, Value.int .u8 0, Value.int .u8 0, Value.int .u8 0, Value.int .u8 0, Value.int .u8 0, Value.int .u8 0, Value.int .u8 0, Value.int .u64 0] 30) = W at h3 ⊢
 obtain ⟨hA, hB, hr, Aa, Ac⟩ := h3
 have ca := hA.cell_is na
 have cb := hB.cell_is nb
 have Az := Hh hA
 have A0 := Hh hB
 have HR := Hh hr
 have Ah := Hh Aa
 have Am := Hh Ac
 clear hA hB hr Aa Ac na nb
 go_wp2_with fail
 refine (add_fits _ sa sb HF.o).mono ?_
 rintro _ w1 ⟨rfl, rfl⟩
 obtain ⟨sab, Ae⟩ : ∃ s : Nat, s = sa + sb := ⟨_, rfl⟩
 rw [← Ae]
 have HS := Hh Ae
 clear Ae
 go_wp2_with fail
 have hz : Has (w1.alloc (.cells Tryz.zeroCells170 170)) w1.heap.size 170 (bcells (List.replicate 80 0)).toArray := by
  have ez : (bcells (List.replicate 80 0)).toArray = Tryz.zeroCells170 := by kernel_rfl
  rw [ez]; exact Has.new w1 _ _
 have hk0 : Kept (fun _ => False) w1 (w1.alloc (.cells Tryz.zeroCells170 170)) := (Kept.refl _ _).alloc _
 generalize w1.alloc (.cells Tryz.zeroCells170 170) = W2 at hz hk0 ⊢
 obtain ⟨B3, hB3⟩ : ∃ B, B = w1.heap.size := ⟨_, rfl⟩
 rw [← hB3] at hz ⊢
 have hB3g : w.heap.size + 3 = B3 := by rw [hB3, Am.o]
 have HZ := Hh hz
 have Al := Hh hk0
 clear hz hk0 hB3
 refine wp_region_still_tail 2 (by kernel_rfl) (by kernel_rfl) ?_
 simp only [List.take_succ_cons, List.take_zero, List.drop_succ_cons, List.drop_zero]
 refine still_load_row rfl 30 (.tmp 2) rfl w.heap.size rfl 30 NA (0, 0) _ (show Has W2.drew w.heap.size 30 NA from (Az.o.kept (S := fun _ => False) Al.o (fun h => h)).drew) Tryz.underlying30 rfl A1.o ?_
 still_step
 refine wpStill_nil ?_
 change wpList _ _ _ _ _ W2.drew
 go_wp2_with fail
 have hsa : sa < 18446744073709551616 := by have := HF.o; omega
 have hsb : sb < 18446744073709551616 := by have := HF.o; omega
 rw [show Value.agg NA = nodeV ha sa by rw [Au.o]; rfl]
 refine (put_is W2.drew ha sa B3 0 40 80 170 (bcells (List.replicate 80 0)) HA.o.1 hsa (Nat.le_refl _) HZ.o.drew (by rw [bcells_length, List.length_replicate]; omega)).mono ?_
 rintro _ w2 ⟨rfl, hw2, hk2⟩
 have An := Hh hw2
 have Ai := Hh ((Al.o.mono (S' := (· = B3)) (fun _ _ h => h.elim)).trans hk2.undrew)
 clear hw2 hk2
 go_wp2_with fail
 refine wp_region_still_tail 2 (by kernel_rfl) (by kernel_rfl) ?_
 simp only [List.take_succ_cons, List.take_zero, List.drop_succ_cons, List.drop_zero]
 refine still_load_row rfl 30 (.tmp 3) rfl (w.heap.size + 1) rfl 30 NB (0, 0) _ (show Has w2.drew (w.heap.size + 1) 30 NB from (A0.o.kept Ai.o (by omega)).drew) Tryz.underlying30 rfl A2.o ?_
 still_step
 refine wpStill_nil ?_
 change wpList _ _ _ _ _ w2.drew
 go_wp2_with fail
 rw [show Value.agg NB = nodeV hb sb by rw [Av.o]; rfl]
 refine (put_is w2.drew hb sb B3 40 40 40 170 _ HB.o.1 hsb (Nat.le_refl _) An.o.drew (by rw [splice_len _ _ _ (by rw [bcells_length, bcells_length, List.length_append, HA.o.1, eight_length, List.length_replicate]; omega), bcells_length, List.length_replicate]; omega)).mono ?_
 rintro _ w3 ⟨rfl, hw3, hk3⟩
 rw [splice_two _ _ _ 40 (by rw [bcells_length, List.length_append, HA.o.1, eight_length]) (by rw [bcells_length, bcells_length, List.length_append, HB.o.1, eight_length, List.length_replicate]), ← bcells_append] at hw3
 have Ad : Kept (· = B3) w1 w3 := Ai.o.trans hk3.undrew
 have hM : (ha ++ eight sa ++ (hb ++ eight sb)).length = 80 := by rw [List.length_append, List.length_append, List.length_append, HA.o.1, HB.o.1, eight_length, eight_length]
 have hMl : ∀ x ∈ ha ++ eight sa ++ (hb ++ eight sb), x < 256 := fun x hx => by
  have he : ∀ s, ∀ x ∈ eight s, x < 256 := fun s x hx => by obtain ⟨j, _, rfl⟩ := List.mem_map.1 hx; exact Nat.mod_lt _ (by decide)
  rcases List.mem_append.1 hx with hx | hx
  · rcases List.mem_append.1 hx with hx | hx
    · exact HA.o.2 x hx
    · exact he _ x hx
  · rcases List.mem_append.1 hx with hx | hx
    · exact HB.o.2 x hx
    · exact he _ x hx
 obtain ⟨M, hMM⟩ : ∃ M, M = ha ++ eight sa ++ (hb ++ eight sb) := ⟨_, rfl⟩
 rw [← hMM] at hw3 hM hMl
 have hx1 : Below w.heap.size w w3 := Ah.o.trans (Ad.below (by have := Am.o; omega) (fun k hk => by have e : k = B3 := hk; omega))
 have hr3 := HR.o.kept Ad (by omega)
 have hTx : Tabs K s0 (w3.alloc (.cells #[Value.slice (some ⟨B3, 0, none⟩) 80 80] 48)) :=
  (HT.o.below hx1 HT.o.low).below ((Below.refl w3.heap.size w3).alloc (Nat.le_refl _) _) (by have := hx1.size; have := HT.o.low; omega)
 have Ab : Parts (w3.alloc (.cells #[Value.slice (some ⟨B3, 0, none⟩) 80 80] 48)) (.slice (some ⟨w3.heap.size, 0, none⟩) 1 1) [M] := by
  refine ⟨_, _, rfl, fun _ => ⟨w3.heap.size, 0, rfl, fun i hi => ?_⟩⟩
  have hi2 : i = 0 := by simp at hi; omega
  subst hi2
  refine ⟨_, Has.cell (Has.new w3 48 #[Value.slice (some ⟨B3, 0, none⟩) 80 80]) 0, ?_⟩
  change Bytes _ _ _ M
  have hsz : (w3.alloc (.cells #[Value.slice (some ⟨B3, 0, none⟩) 80 80] 48)).heap.size = w3.heap.size + 1 := by simp
  have hlt := hw3.lt
  refine ⟨some ⟨B3, 0, none⟩, 80, by rw [hM]; rfl, by omega, hMl, fun _ => ⟨B3, 0, rfl, by rw [hsz]; omega, fun i hi => ?_⟩⟩
  refine (hw3.alloc _).cell_is ?_
  rw [List.getElem?_toArray, Nat.zero_add, bcells_get _ _ hi]
 have Ao := Hh hx1
 have Aw := Hh hr3
 have Ay := Hh hTx
 have HP := Hh Ab
 have Ar := Hh hMM
 have HM := Hh hM
 clear hw3 hk3 Ad hM hMl hx1 hr3 hTx Ab hMM An Ai
 go_wp2_with fail
 refine (sum_a K s0 _ _ [M] M Ay.o HP.o (by simp) (by rw [HM.o]; decide) (by simp)).mono ?_
 rintro _ w5 ⟨A, rfl, hA, hb5⟩
 obtain ⟨N, F, hN, hN1, hA1, hA2, hA3, hA4, hst⟩ := node_ops (w.heap.size + 1 + 1) (digest K s0 M) sab (digest_length K s0 HT.o.len _) A hA
 have hk5 : Kept (fun _ => False) w3 w5 := ((Kept.refl (fun _ => False) w3).alloc _).trans (Kept.of_below hb5)
 have hr5 := Aw.o.kept hk5 (fun h => h)
 have hx5 : Below w.heap.size w w5 := Ao.o.trans (hk5.below Ao.o.size (fun _ h => h.elim))
 have hsz : (Tryz.prog.info? 30).map (·.size) = some N.size := by rw [hN1]; kernel_rfl
 have Ag : Has (w5.setRow (w.heap.size + 1 + 1) N) (w.heap.size + 1 + 1) 30 N := hr5.setRow
 have Aa : Below w.heap.size w (w5.setRow (w.heap.size + 1 + 1) N) := hx5.trans ((kept_setRow (g := w.heap.size + 1 + 1) w5 N).below hx5.size (fun k hk => by have e : k = w.heap.size + 1 + 1 := hk; omega))
 have Af : N.all (·.oneCell') = true := by rw [hN]; exact all_oneCell_toArray (ncells_one _ _)
 have HN := Hh hN
 have Ax := Hh hr5
 have Ap := Hh hsz
 have Ak := Hh Ag
 have Aq := Hh Aa
 have Aj := Hh Af
 have As := Hh hN1
 clear hA hN hr5 hsz Ag Aa Af hst hx5 hk5 hb5 hN1
 go_wp2_with (refine wpList_store_row rfl 30 (.tmp 4) (.tmp 31) rfl (w.heap.size + 1 + 1) N rfl rfl 30 _ Ax.o Ap.o (by rw [As.o]; rfl) Aj.o ?_)
 refine bodyPost_ret (results_cell_tmp rfl _ _ (w.heap.size + 1 + 1) 30 N (0, 0) _ rfl rfl Ak.o Tryz.underlying30 Ap.o) rfl ?_
 exact ⟨by rw [HN.o, Ar.o, HS.o]; rfl, Aq.o⟩
/- The walk of msum.Bit. -/


theorem wrap_bit (a : Nat) : wrap64 (bits BinOp.and .u8 (a : Int) 1) = ((a % 2 : Nat) : Int) := by
 have h : bits BinOp.and .u8 (a : Int) 1 = ((a % 2 : Nat) : Int) := by
  unfold bits
  have e : (BitVec.ofInt IntKind.u8.bits (a : Int) &&& BitVec.ofInt IntKind.u8.bits 1).toNat = a % 2 := by
   show (BitVec.ofInt 8 (a : Int) &&& BitVec.ofInt 8 1).toNat = a % 2
   rw [BitVec.toNat_and, BitVec.toNat_ofInt, BitVec.toNat_ofInt]
   have : ((1 : Int) % ((2 ^ 8 : Nat) : Int)).toNat = 1 := by decide
   rw [this, Nat.and_one_is_mod]
   omega
  simp only [e]
  have hw : ∀ b : Int, 0 ≤ b → b < 256 → IntKind.u8.wrap b = b := fun b h0 h1 => by
   simp [IntKind.wrap, IntKind.bits, IntKind.signed]; omega
  exact hw _ (by omega) (by omega)
 rw [h]
 unfold wrap64
 omega

theorem bit_num (ks : List Nat) (h : Int) (h0 : 0 ≤ h) (h1 : h < 256) :
  wrap64 (bits BinOp.and .u8 (((ks[((255 - h) / 8).toNat]?.getD 0 : Nat) : Int) / 2 ^ (7 - (255 - h) % 8).toNat) 1) = (bitAt ks h.toNat : Nat) := by
 have e1 : ((255 - h) / 8).toNat = 31 - h.toNat / 8 := by omega
 have e2 : (7 - (255 - h) % 8).toNat = h.toNat % 8 := by omega
 rw [e1, e2]
 have e3 : (((ks[31 - h.toNat / 8]?.getD 0 : Nat) : Int) / 2 ^ (h.toNat % 8)) = ((ks[31 - h.toNat / 8]?.getD 0 / 2 ^ (h.toNat % 8) : Nat) : Int) := by
  rw [Int.natCast_ediv, Int.natCast_pow]; rfl
 rw [e3, wrap_bit]
 unfold bitAt
 rw [List.getD_eq_getElem?_getD]

theorem bit_in (ks : List Nat) (h : Int) (w : World) (hk : ks.length = 32) (h0 : 0 ≤ h) (h1 : h < 256) :
  Calls Tryz.prog 51 #[arr ks, .int .i64 h] w fun e w' => e = .returned (.int .i64 (bitAt ks h.toNat : Nat)) ∧ w' = w.alloc (.cells (bcells ks).toArray 27) := by
 unfold arr
 have hc := cell_bcells (w := w) (ks := ks) (i := ((255 - h) / 8).toNat) (t := 27) (by omega)
 have hlen : (bcells ks).length = 32 := by rw [bcells_length, hk]
 have HN := Hh (bit_num ks h h0 h1)
 clear hk
 go_enter Tryz.func51, Tryz.ntmps51
 go_wp2
 go_ret
 exact ⟨ret_int HN.o, rfl⟩

/- The walk of the reference's Bit. -/
end Go.Proofs.YtknfbccbdiidjaaGreatDoor
