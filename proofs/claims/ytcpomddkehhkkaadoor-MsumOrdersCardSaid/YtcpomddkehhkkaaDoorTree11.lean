/- A new tree; None; slices.Clone at bytes; how many stand in a tree. -/
import Derived.Test.YtcpomddkehhkkaaDoorTree10
import Derived.WideLaws
namespace Go.Proofs.YtcpomddkehhkkaaDoor
set_option linter.unusedVariables false
set_option linter.unusedSimpArgs false
open Go.ChangeShapes Go.WideShapes Go.ChangeAt Go.RowKit Go.Maps

theorem zero_tree : Tryd.zeroCells112.size = 8486 ∧ Tryd.zeroCells112[0]? = some (.int .u32 0) ∧ Tryd.zeroCells112[1]? = some (.int .i32 0) ∧ Tryd.zeroCells112[8485]? = some (.int .u64 0) := ⟨by kernel_rfl, by kernel_rfl, by kernel_rfl, by kernel_rfl⟩
theorem build_tree (b : Nat) (w : World) : (Instr.build 112 #[(2, .map (some b))]).run Tryd.prog w = .ok (.agg (Tryd.zeroCells112.setIfInBounds 8484 (.map (some b)))) w := by kernel_rfl
set_option maxRecDepth 100000 in
set_option maxHeartbeats 1000000 in
theorem newT_is (K s0 : List Wd) (S : Nat → Prop) (w : World) (hn : ∀ k, w.heap.size ≤ k → S k) : Calls Tryd.prog 23 #[] w fun e w' => ∃ g, e = .returned (.pointer (some ⟨g, 0, none⟩)) ∧ Tr K s0 S w' g [] ∧ Below w.heap.size w w' ∧ w.heap.size ≤ g := by
  obtain ⟨z1, z2, z3, z4⟩ := zero_tree
  obtain ⟨C, hC⟩ : ∃ C, C = Tryd.zeroCells112.setIfInBounds 8484 (.map (some w.heap.size)) := ⟨_, rfl⟩
  have hbd : ∀ W, (Instr.build 112 #[(2, .map (some w.heap.size))]).run Tryd.prog W = .ok (.agg C) W := fun W => by rw [hC]; exact build_tree _ W
  have c0 : C.size = 8486 := by rw [hC, Array.size_setIfInBounds, z1]
  have c1 : C[0]? = some (.int .u32 0) := by rw [hC, Array.getElem?_setIfInBounds_ne (by decide)]; exact z2
  have c2 : C[1]? = some (.int .i32 0) := by rw [hC, Array.getElem?_setIfInBounds_ne (by decide)]; exact z3
  have c3 : C[8485]? = some (.int .u64 0) := by rw [hC, Array.getElem?_setIfInBounds_ne (by decide)]; exact z4
  have c4 : C[8484]? = some (.map (some w.heap.size)) := by rw [hC, Array.getElem?_setIfInBounds_self_of_lt (by rw [z1]; decide)]
  have hmp := MapIs.new w
  have hT := Has.new (w.alloc (.map #[] 0)) 112 C
  have hs : (w.alloc (.map #[] 0)).heap.size = w.heap.size + 1 := by simp
  rw [hs] at hT
  have hbel : Below w.heap.size w ((w.alloc (.map #[] 0)).alloc (.cells C 112)) := ((Below.refl _ _).alloc (Nat.le_refl _) _).alloc (by rw [hs]; omega) _
  have htr : TreeAt K s0 S ((w.alloc (.map #[] 0)).alloc (.cells C 112)) (w.heap.size + 1) w.heap.size [] [] :=
    ⟨⟨C, hT, c0, c2, c4, c3, .inl c1⟩, hmp.kept (S := fun _ => False) ((Kept.refl _ _).alloc _) (fun h => h), trivial, ⟨fun k hk => (by cases hk), List.nodup_nil⟩, by decide, by decide, fun t ht => (by cases ht), hn _ (by omega), hn _ (Nat.le_refl _)⟩
  have HFIN := Lib.hid (And.intro (show Tr K s0 S ((w.alloc (.map #[] 0)).alloc (.cells C 112)) (w.heap.size + 1) [] from ⟨_, _, htr⟩) hbel)
  have EC := Lib.hid hC
  have hmm := @run_makeMap Tryd.prog
  clear hC hbd c0 c1 c2 c3 c4 hmp hT hs hbel htr z1 z2 z3 z4 hn
  go_enter Tryd.func23, Tryd.ntmps23
  go_wp2
  go_ret
  have hf := HFIN.out
  rw [EC.out] at hf
  exact ⟨_, rfl, hf.1, hf.2, by omega⟩
set_option maxRecDepth 100000 in
theorem none_is (w : World) (a : Option Addr) (n c s : Nat) (hn : n ≤ 9223372036854775807) : Calls Tryd.prog 16 #[.agg #[.slice a n c, .int .u64 (s : Int)]] w fun e w' => e = .returned (.bool (decide (n = 0 ∧ s = 0))) ∧ Below w.heap.size w w' := by
  have hbox := Has.new w 25 #[.slice a n c, .int .u64 (s : Int)]
  have d0 : (w.alloc (.cells #[.slice a n c, .int .u64 (s : Int)] 25)).cell? ⟨w.heap.size, 0, none⟩ = some (.slice a n c) := hbox.cell_is rfl
  have d1 : (w.alloc (.cells #[.slice a n c, .int .u64 (s : Int)] 25)).cell? ⟨w.heap.size, 1, none⟩ = some (.int .u64 (s : Int)) := hbox.cell_is rfl
  have hbel := Lib.hid ((Below.refl w.heap.size w).alloc (Nat.le_refl _) (.cells #[.slice a n c, .int .u64 (s : Int)] 25))
  clear hbox
  by_cases h0 : n = 0
  · subst h0
    by_cases h1 : s = 0
    · subst h1
      go_enter Tryd.func16, Tryd.ntmps16
      go_wp2
      go_ret
      exact ⟨rfl, hbel.out⟩
    · have h2 : ((s : Int) == 0) = false := by simp; omega
      have HD := Lib.hid (show decide ((0 : Nat) = 0 ∧ s = 0) = false by simp [h1])
      go_enter Tryd.func16, Tryd.ntmps16
      go_wp2
      go_ret
      exact ⟨by first | rfl | (rw [HD.out]; rfl), hbel.out⟩
  · have h2 : ((n : Int) == 0) = false := by simp; omega
    have HD := Lib.hid (show decide (n = 0 ∧ s = 0) = false by simp [h0])
    go_enter Tryd.func16, Tryd.ntmps16
    go_wp2
    go_ret
    exact ⟨by first | rfl | (rw [HD.out]; rfl), hbel.out⟩
set_option maxRecDepth 100000 in
theorem len_map {w : World} {m : Nat} {l : List Ent} (h : MapIs w m l) (ty : TypeId) : (Builtin.len_ #[98] ty #[.map (some m)]).run Tryd.prog w = .ok (goInt l.length) w := by
  obtain ⟨es, clock, hb, hs, he, hl⟩ := h
  have hl2 : es.size = l.length := by
    have := congrArg List.length he
    rw [List.length_map, List.length_map, Array.length_toList] at this
    exact this
  rw [← hl2]
  exact run_len_map w 98 ty m es clock Tryd.underlying98 hb
set_option maxRecDepth 100000 in
theorem eq_nil_bytes (w : World) (a : Option Addr) (n c : Nat) : (binOp .eql 22 (.slice a n c) (.slice none 0 0)).run Tryd.prog w = .ok (.bool a.isNone) w :=
  Lib.run_eql_slice_nil w 22 5 a n c 0 0 Tryd.underlying22
theorem info_byte : (Tryd.prog.info? 5).map (fun i => (i.zero, i.size, i.bytes)) = some (some (.int .u8 0), 1, 1) := by kernel_rfl
set_option maxRecDepth 100000 in
set_option maxHeartbeats 1000000 in
theorem clone_bytes (w : World) (v : Value) (bs : List Nat) (hn : bs.length ≤ 1000000) (h : Bytes w w.heap.size v bs) :
    Calls Tryd.prog 52 #[v] w fun e w' => ∃ v', e = .returned v' ∧ RowB (fun k => w.heap.size ≤ k) w' v' bs ∧ Below w.heap.size w w' := by
  have hnil := eq_nil_bytes
  obtain ⟨a, c, rfl, hc, hb, hp⟩ := h
  cases a with
  | none =>
    have h0 : bs = [] := by
      refine Classical.byContradiction fun hne => ?_
      obtain ⟨bg, bo, e, _⟩ := hp (List.length_pos_iff.2 hne)
      cases e
    subst h0
    go_enter Tryd.func52, Tryd.ntmps52
    go_wp2
    go_ret
    exact ⟨_, rfl, RowB.nil _ _ _ _, Below.refl _ _⟩
  | some A =>
    obtain ⟨i0, hi, hz0, hz1, hz2⟩ := info_parts info_byte
    obtain ⟨n, hnn⟩ : ∃ n, n = bs.length := ⟨_, rfl⟩
    obtain ⟨L, hL⟩ : ∃ L, L = bcells bs := ⟨_, rfl⟩
    have hfl : L.length = n := by rw [hL, bcells_length, hnn]
    have hone : ∀ v ∈ L, v.oneCell' = true := by rw [hL]; exact bcells_oneC bs
    have hcl : ∀ j u, L[j]? = some u → (w.alloc (.cells #[] 5)).cell? (A.add j) = some u := fun j u hu => by
      have hj := (List.getElem?_eq_some_iff.1 hu).1
      obtain ⟨bg, bo, e, hne, hcc⟩ := hp (by omega)
      injection e with e
      subst e
      have := hcc j (by omega)
      rw [Addr.add_mid, World.cell?_alloc_lt w _ _ (World.block_lt_of_cell? w _ this), this]
      rw [hL, bcells_get bs j (by omega)] at hu
      exact hu
    have HCL := Lib.hid hcl
    have HONE := Lib.hid hone
    have HFL := Lib.hid hfl
    have HB := Lib.hid (And.intro hb (And.intro hL hnn))
    rw [← hnn] at hn hc ⊢
    clear hcl hone hfl hb hp hnn hL
    go_enter Tryd.func52, Tryd.ntmps52
    go_wp2_with (at_builtin; refine wpList_append_own _ rfl (.tmp 5) (.tmp 6) 22 rfl w.heap.size 5 i0 _ 1 1 Tryd.underlying22 hi hz0 hz1 hz2 (by kernel_rfl) (by decide) _ 0 [] rfl (World.ownsRow_made w #[] 0 (Nat.le_refl _) (by decide) rfl) A n c L rfl (by rw [HFL.out, Nat.mul_one]) HCL.out HONE.out (by unfold maxLen; omega) (by omega) (by simp) ?_)
    intro v' w' hown hgr _
    have HOWN := Lib.hid hown
    have HGR := Lib.hid hgr
    clear hown hgr
    go_wp2
    go_ret
    obtain ⟨b1, b2, b3⟩ := HB.out
    have ho := HOWN.out
    rw [b2] at ho
    exact ⟨v', rfl, RowB.of_own ho b3.symm b1 (fun k h => h), ((Below.refl _ _).alloc (Nat.le_refl _) _).grown HGR.out (by simp) (fun k hk => by simp [Value.ownBlock] at hk; omega)⟩
end Go.Proofs.YtcpomddkehhkkaaDoor
