/- The walks of msum.Leaf.Node, msum.Branch. -/
import Derived.Test.YtcpomddkehhkkaaDoorMsum1
namespace Go.Proofs.YtcpomddkehhkkaaDoor
set_option linter.unusedVariables false
set_option linter.unusedSimpArgs false
open Go.ChangeShapes Go.WideShapes Go.ChangeAt Go.RowKit

theorem splice_all {α : Type} (L cs : List α) (h : cs.length = L.length) : splice L 0 cs = cs := by
  unfold splice
  rw [List.take_zero, List.nil_append, Nat.zero_add, h, List.drop_length, List.append_nil]

/-- sha.Sum's contract, the array under a name. -/
def SumA (K s0 : List Wd) (w : World) (m : List Nat) (e : Ending) (w' : World) : Prop :=
  ∃ A : Array Value, e = .returned (.agg A) ∧ A = (bcells (digest K s0 m)).toArray ∧ Below w.heap.size w w'
theorem sum_a (K s0 : List Wd) (w : World) (v : Value) (ps : List (List Nat)) (m : List Nat) (hT : Tabs K s0 w) (hP : Parts w v ps) (hm : ps.flatten = m) (hl : m.length ≤ 1000000000) (hn : ps.length ≤ 1000000000) :
    Calls Tryd.prog 43 #[v] w (SumA K s0 w m) := by
  subst hm
  exact (sum_is K s0 w v ps hT hP hl hn).mono fun e w' ⟨he, hb⟩ => ⟨_, he, rfl, hb⟩

theorem thirty_two (l : List Nat) (h : l.length = 32) : ∃ d0 d1 d2 d3 d4 d5 d6 d7 d8 d9 d10 d11 d12 d13 d14 d15 d16 d17 d18 d19 d20 d21 d22 d23 d24 d25 d26 d27 d28 d29 d30 d31 : Nat, l = [d0, d1, d2, d3, d4, d5, d6, d7, d8, d9, d10, d11, d12, d13, d14, d15, d16, d17, d18, d19, d20, d21, d22, d23, d24, d25, d26, d27, d28, d29, d30, d31] := by
  match l, h with
  | [d0, d1, d2, d3, d4, d5, d6, d7, d8, d9, d10, d11, d12, d13, d14, d15, d16, d17, d18, d19, d20, d21, d22, d23, d24, d25, d26, d27, d28, d29, d30, d31], _ => exact ⟨d0, d1, d2, d3, d4, d5, d6, d7, d8, d9, d10, d11, d12, d13, d14, d15, d16, d17, d18, d19, d20, d21, d22, d23, d24, d25, d26, d27, d28, d29, d30, d31, rfl⟩
/-- a node built of an array and a number. -/
theorem built_node (D : List Nat) (s : Nat) (h : D.length = 32) (w : World) : (Instr.build 29 #[(0, .agg (bcells D).toArray), (1, .int .u64 (s : Int))]).run Tryd.prog w = .ok (.agg (ncells D s).toArray) w := by
  obtain ⟨d0, d1, d2, d3, d4, d5, d6, d7, d8, d9, d10, d11, d12, d13, d14, d15, d16, d17, d18, d19, d20, d21, d22, d23, d24, d25, d26, d27, d28, d29, d30, d31, rfl⟩ := thirty_two D h
  exact run_build w 29 _ _ (by kernel_rfl)
theorem ncells_one (D : List Nat) (s : Nat) : ∀ v ∈ ncells D s, v.oneCell' = true := by
  intro v hv
  rcases List.mem_append.1 hv with h | h
  · exact bcells_one D v h
  · rw [List.mem_singleton.1 h]; rfl
/-- what builds a node, and lays it into its variable. -/
theorem node_ops (B : Nat) (D : List Nat) (s : Nat) (h : D.length = 32) (A : Array Value) (hA : A = (bcells D).toArray) : ∃ N F : Array Value, N = (ncells D s).toArray ∧ N.size = 33 ∧ A.size = 32 ∧
    Array.foldl (fun (cs : Array Value) (x : Value × Nat) => cs.setIfInBounds x.snd x.fst) #[Value.int .u8 0, Value.int .u8 0, Value.int .u8 0, Value.int .u8 0, Value.int .u8 0, Value.int .u8 0, Value.int .u8 0, Value.int .u8 0, Value.int .u8 0, Value.int .u8 0, Value.int .u8 0, Value.int .u8 0, Value.int .u8 0, Value.int .u8 0, Value.int .u8 0, Value.int .u8 0, Value.int .u8 0, Value.int .u8 0, Value.int .u8 0, Value.int .u8 0, Value.int .u8 0, Value.int .u8 0, Value.int .u8 0, Value.int .u8 0, Value.int .u8 0, Value.int .u8 0, Value.int .u8 0, Value.int .u8 0, Value.int .u8 0, Value.int .u8 0, Value.int .u8 0, Value.int .u8 0, Value.int .u64 0] A.zipIdx 0 32 = F ∧ F.size = 33 ∧ F.setIfInBounds 32 (.int .u64 (s : Int)) = N ∧
    (∀ w t old, Has w B t old → old.size = 33 → (storeCells ⟨B, 0, none⟩ N.toList).run Tryd.prog w = .ok () (w.setRow B N)) := by
  subst hA
  refine ⟨(ncells D s).toArray, (ncells D 0).toArray, rfl, by simp [ncells, bcells_length, h], by simp [bcells_length, h], ?_, by simp [ncells, bcells_length, h], ?_, fun w t old hh ho => ?_⟩
  · obtain ⟨d0, d1, d2, d3, d4, d5, d6, d7, d8, d9, d10, d11, d12, d13, d14, d15, d16, d17, d18, d19, d20, d21, d22, d23, d24, d25, d26, d27, d28, d29, d30, d31, rfl⟩ := thirty_two D h
    kernel_rfl
  · rw [List.setIfInBounds_toArray, ncells, ncells, List.set_append_right _ _ (by rw [bcells_length, h]; exact Nat.le_refl _), bcells_length, h]
    rfl
  · have := run_storeCells_from (P := Tryd.prog) B t (ncells D s) 0 old w hh (by rw [ho]; simp [ncells, bcells_length, h]) (ncells_one D s)
    simpa using this

/-- a leaf's value. -/
def leafV (v : Value) (s : Nat) : Value := .agg #[v, .int .u64 (s : Int)]

set_option maxRecDepth 100000 in
set_option maxHeartbeats 2000000 in
theorem leafNode_is (K s0 : List Wd) (w : World) (v : Value) (bs : List Nat) (s : Nat) (hT : Tabs K s0 w) (hB : Bytes w w.heap.size v bs) (hl : bs.length ≤ 1000000) (hs : s < 18446744073709551616) :
    Calls Tryd.prog 14 #[leafV v s] w fun e w' => e = .returned (nodeV (digest K s0 (bs ++ eight s)) s) ∧ Below w.heap.size w w' := by
  obtain ⟨a, c, rfl, _⟩ := id hB
  have HT := Lib.hid hT
  have HB := Lib.hid hB
  have HL := Lib.hid hl
  clear hT hB hl
  unfold leafV
  go_enter Tryd.func14, Tryd.ntmps14
  go_wp2_with fail
  have h3 := three w #[Value.slice a bs.length c, .int .u64 (s : Int)] 25 #[Value.int .u8 0, Value.int .u8 0, Value.int .u8 0, Value.int .u8 0, Value.int .u8 0, Value.int .u8 0, Value.int .u8 0, Value.int .u8 0, Value.int .u8 0, Value.int .u8 0, Value.int .u8 0, Value.int .u8 0, Value.int .u8 0, Value.int .u8 0, Value.int .u8 0, Value.int .u8 0, Value.int .u8 0, Value.int .u8 0, Value.int .u8 0, Value.int .u8 0, Value.int .u8 0, Value.int .u8 0, Value.int .u8 0, Value.int .u8 0, Value.int .u8 0, Value.int .u8 0, Value.int .u8 0, Value.int .u8 0, Value.int .u8 0, Value.int .u8 0, Value.int .u8 0, Value.int .u8 0, Value.int .u64 0] 29 #[Value.int .u8 0, Value.int .u8 0, Value.int .u8 0, Value.int .u8 0, Value.int .u8 0, Value.int .u8 0, Value.int .u8 0, Value.int .u8 0, Value.int .u8 0, Value.int .u8 0, Value.int .u8 0, Value.int .u8 0, Value.int .u8 0, Value.int .u8 0, Value.int .u8 0, Value.int .u8 0, Value.int .u8 0, Value.int .u8 0, Value.int .u8 0, Value.int .u8 0, Value.int .u8 0, Value.int .u8 0, Value.int .u8 0, Value.int .u8 0, Value.int .u8 0, Value.int .u8 0, Value.int .u8 0, Value.int .u8 0, Value.int .u8 0, Value.int .u8 0, Value.int .u8 0, Value.int .u8 0, Value.int .u8 0, Value.int .u8 0, Value.int .u8 0, Value.int .u8 0, Value.int .u8 0, Value.int .u8 0, Value.int .u8 0, Value.int .u8 0] 89
  generalize ((w.alloc (.cells #[Value.slice a bs.length c, .int .u64 (s : Int)] 25)).alloc (.cells #[Value.int .u8 0, Value.int .u8 0, Value.int .u8 0, Value.int .u8 0, Value.int .u8 0, Value.int .u8 0, Value.int .u8 0, Value.int .u8 0, Value.int .u8 0, Value.int .u8 0, Value.int .u8 0, Value.int .u8 0, Value.int .u8 0, Value.int .u8 0, Value.int .u8 0, Value.int .u8 0, Value.int .u8 0, Value.int .u8 0, Value.int .u8 0, Value.int .u8 0, Value.int .u8 0, Value.int .u8 0, Value.int .u8 0, Value.int .u8 0, Value.int .u8 0, Value.int .u8 0, Value.int .u8 0, Value.int .u8 0, Value.int .u8 0, Value.int .u8 0, Value.int .u8 0, Value.int .u8 0, Value.int .u64 0] 29)).alloc (.cells #[Value.int .u8 0, Value.int .u8 0, Value.int .u8 0, Value.int .u8 0, Value.int .u8 0, Value.int .u8 0, Value.int .u8 0, Value.int .u8 0, Value.int .u8 0, Value.int .u8 0, Value.int .u8 0, Value.int .u8 0, Value.int .u8 0, Value.int .u8 0, Value.int .u8 0, Value.int .u8 0, Value.int .u8 0, Value.int .u8 0, Value.int .u8 0, Value.int .u8 0, Value.int .u8 0, Value.int .u8 0, Value.int .u8 0, Value.int .u8 0, Value.int .u8 0, Value.int .u8 0, Value.int .u8 0, Value.int .u8 0, Value.int .u8 0, Value.int .u8 0, Value.int .u8 0, Value.int .u8 0, Value.int .u8 0, Value.int .u8 0, Value.int .u8 0, Value.int .u8 0, Value.int .u8 0, Value.int .u8 0, Value.int .u8 0, Value.int .u8 0] 89) = W at h3 ⊢
  obtain ⟨h0, h1, h2, hbel, hsize⟩ := h3
  obtain ⟨B1, hB1⟩ : ∃ B, w.heap.size + 1 = B := ⟨_, rfl⟩
  obtain ⟨B2, hB2⟩ : ∃ B, B1 + 1 = B := ⟨_, rfl⟩
  rw [hB1] at h1 h2 ⊢
  rw [hB2] at h2 ⊢
  have hB1g : w.heap.size < B1 := by omega
  have hB2g : B1 < B2 := by omega
  have hb2 : Has W B2 89 (bcells (List.replicate 40 0)).toArray := h2
  have cb0 : W.cell? ⟨w.heap.size, 0, none⟩ = some (.slice a bs.length c) := h0.cell_is rfl
  have cb1 : W.cell? ⟨w.heap.size, 1, none⟩ = some (.int .u64 (s : Int)) := h0.cell_is rfl
  have H0 := Lib.hid h0
  have H1 := Lib.hid h1
  have H2 := Lib.hid hb2
  have HBEL := Lib.hid hbel
  have HHB1 := Lib.hid hB1
  have HHB2 := Lib.hid hB2
  have HSZ := Lib.hid hsize
  clear h0 h1 h2 hb2 hbel hsize hB1 hB2
  go_region_law (go_simp; go_at_call 42; refine (put_is W.drew (List.replicate 32 0) s B2 0 40 40 89 (bcells (List.replicate 40 0)) List.length_replicate hs (Nat.le_refl _) H2.out (by rw [bcells_length, List.length_replicate]; omega)).mono ?_; rintro _ w1 ⟨rfl, hw1, hk1⟩)
  rw [splice_all _ _ (by rw [bcells_length, bcells_length, List.length_append, List.length_replicate, List.length_replicate, eight_length])] at hw1
  have d0 := cell_kept hk1.undrew cb0 (by show ¬ w.heap.size = B2; omega)
  have d1 := cell_kept hk1.undrew cb1 (by show ¬ w.heap.size = B2; omega)
  have hx1 : Below w.heap.size w w1 := HBEL.out.trans (hk1.undrew.below (by have := HSZ.out; omega) (fun k hk => by have e : k = B2 := hk; omega))
  have h11 := H1.out.kept hk1.undrew (by omega)
  have d1a : ∀ o, (w1.alloc o).cell? ⟨w.heap.size, 1, none⟩ = some (.int .u64 (s : Int)) := fun o => by rw [World.cell?_alloc_lt w1 _ _ (World.block_lt_of_cell? w1 _ d1)]; exact d1
  have HX1 := Lib.hid hx1
  have HW1 := Lib.hid hw1
  have H11 := Lib.hid h11
  clear cb0 cb1 H0 H1 H2 HBEL hw1 hk1 hx1 h11
  have hparts : Parts (w1.drew.alloc (.cells #[Value.slice a bs.length c, .slice (some ⟨B2, 32, none⟩) 8 8] 22)) (.slice (some ⟨w1.heap.size, 0, none⟩) 2 2) [bs, eight s] := by
    refine ⟨_, _, rfl, fun _ => ⟨w1.heap.size, 0, rfl, fun i hi => ?_⟩⟩
    have hX : Below w.heap.size w (w1.drew.alloc (.cells #[Value.slice a bs.length c, .slice (some ⟨B2, 32, none⟩) 8 8] 22)) := HX1.out.drew.alloc (by have := HX1.out.size; show w.heap.size ≤ w1.heap.size; exact this) _
    have hc := fun j => Has.cell (Has.new w1.drew 22 #[Value.slice a bs.length c, .slice (some ⟨B2, 32, none⟩) 8 8]) j
    have hi2 : i = 0 ∨ i = 1 := by simp at hi; omega
    rcases hi2 with rfl | rfl
    · exact ⟨_, hc 0, HB.out.alive hX (by have := hX.size; exact this)⟩
    · refine ⟨_, hc 1, ?_⟩
      change Bytes _ _ _ (eight s)
      have hsz : (w1.drew.alloc (.cells #[Value.slice a bs.length c, .slice (some ⟨B2, 32, none⟩) 8 8] 22)).heap.size = w1.heap.size + 1 := by simp
      have hw := (HW1.out.drew).alloc (.cells #[Value.slice a bs.length c, .slice (some ⟨B2, 32, none⟩) 8 8] 22)
      have hlt := HW1.out.lt
      refine ⟨some ⟨B2, 32, none⟩, 8, rfl, by rw [eight_length]; exact Nat.le_refl _, fun x hx => ?_, fun _ => ⟨B2, 32, rfl, by rw [hsz]; omega, fun i hi => ?_⟩⟩
      · obtain ⟨j, _, rfl⟩ := List.mem_map.1 hx
        exact Nat.mod_lt _ (by decide)
      · rw [eight_length] at hi
        refine hw.cell_is ?_
        rw [List.getElem?_toArray, bcells_get _ _ (by rw [List.length_append, List.length_replicate, eight_length]; omega)]
        rw [List.getD_eq_getElem?_getD, List.getElem?_append_right (by rw [List.length_replicate]; omega), List.length_replicate, Nat.add_sub_cancel_left, ← List.getD_eq_getElem?_getD]
  have HPARTS := Lib.hid hparts
  clear hparts
  have hTx : Tabs K s0 (w1.drew.alloc (.cells #[Value.slice a bs.length c, .slice (some ⟨B2, 32, none⟩) 8 8] 22)) :=
    (HT.out.below HX1.out HT.out.low).drew.below ((Below.refl w1.heap.size w1.drew).alloc (Nat.le_refl _) _) (by have := HX1.out.size; have := HT.out.low; omega)
  have HTX := Lib.hid hTx
  clear hTx
  have haft : ∀ w5, Below (w1.drew.alloc (.cells #[Value.slice a bs.length c, .slice (some ⟨B2, 32, none⟩) 8 8] 22)).heap.size (w1.drew.alloc (.cells #[Value.slice a bs.length c, .slice (some ⟨B2, 32, none⟩) 8 8] 22)) w5 →
      w5.cell? ⟨w.heap.size, 1, none⟩ = some (.int .u64 (s : Int)) ∧ Has w5 B1 29 #[Value.int .u8 0, Value.int .u8 0, Value.int .u8 0, Value.int .u8 0, Value.int .u8 0, Value.int .u8 0, Value.int .u8 0, Value.int .u8 0, Value.int .u8 0, Value.int .u8 0, Value.int .u8 0, Value.int .u8 0, Value.int .u8 0, Value.int .u8 0, Value.int .u8 0, Value.int .u8 0, Value.int .u8 0, Value.int .u8 0, Value.int .u8 0, Value.int .u8 0, Value.int .u8 0, Value.int .u8 0, Value.int .u8 0, Value.int .u8 0, Value.int .u8 0, Value.int .u8 0, Value.int .u8 0, Value.int .u8 0, Value.int .u8 0, Value.int .u8 0, Value.int .u8 0, Value.int .u8 0, Value.int .u64 0] ∧ Below w.heap.size w w5 := fun w5 hb5 => by
    have hk := Kept.of_below (S := fun _ => False) hb5
    have hk2 : Kept (fun _ => False) w1 w5 := (((Kept.refl (fun _ => False) w1).drew).alloc _).trans hk
    exact ⟨cell_kept hk2 d1 (fun h => h), H11.out.kept hk2 (fun h => h), HX1.out.trans (hk2.below HX1.out.size (fun _ h => h.elim))⟩
  have HAFT := Lib.hid haft
  have HOPS := Lib.hid (node_ops B1 (digest K s0 (bs ++ eight s)) s (digest_length K s0 HT.out.len _))
  clear haft
  go_wp2_with fail
  go_region_law (go_simp; go_at_call 43; refine (sum_a K s0 _ _ [bs, eight s] (bs ++ eight s) HTX.out HPARTS.out (by simp) (by rw [List.length_append, eight_length]; have := HL.out; omega) (by simp)).mono ?_; rintro _ w5 ⟨A, rfl, hA, hb5⟩; obtain ⟨e1, e2, e3⟩ := HAFT.out w5 hb5; obtain ⟨N, F, hN, hN1, hA1, hA2, hA3, hA4, hst⟩ := HOPS.out A hA; have HA := Lib.hid hA; have HN := Lib.hid hN; clear hA hN; have hst5 := hst w5 _ _ e2 rfl)
  all_goals
    have hres : Has (w5.setRow B1 N) B1 29 N := e2.setRow
    have hbel : Below w.heap.size w (w5.setRow B1 N) := e3.trans ((kept_setRow (g := B1) w5 N).below e3.size (fun k hk => by have e : k = B1 := hk; omega))
    have hsz : (Tryd.prog.info? 29).map (·.size) = some N.size := by rw [hN1]; kernel_rfl
    have HRES := Lib.hid hres
    have HBL := Lib.hid hbel
    have HZ := Lib.hid hsz
    clear hres hbel hsz
    go_wp2
    refine bodyPost_ret (results_cell_row rfl _ _ B1 29 N (0, 0) _ rfl HRES.out Tryd.underlying29 rfl HZ.out) rfl ?_
    exact ⟨by rw [HN.out]; rfl, HBL.out⟩
end Go.Proofs.YtcpomddkehhkkaaDoor
