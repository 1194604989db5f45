/- A tree for a caller: Put, Root, Keys; what a nil tree answers. -/
import Derived.Test.YtcpomddkehhkkaaDoorTree12
namespace Go.Proofs.YtcpomddkehhkkaaDoor
set_option linter.unusedVariables false
set_option linter.unusedSimpArgs false
open Go.ChangeShapes Go.WideShapes Go.ChangeAt Go.RowKit Go.Maps

section
variable {K s0 : List Wd} {S : Nat → Prop} {w : World} {g : Nat} {T : List Lf}
theorem tr_put (h : Tr K s0 S w g T) (hl8 : s0.length = 8) (hn : ∀ k, w.heap.size ≤ k → S k) (l : Lf) (hk : IsHash l.k) (v : Value) (hv : Bytes w w.heap.size v l.v) (hs : l.s < 18446744073709551616) (hlen : l.v.length ≤ 1000000) :
    Calls Tryd.prog 33 #[.pointer (some ⟨g, 0, none⟩), arr l.k, leafV v l.s] w fun e w' => e = .returned (.int .i64 (putE T l)) ∧ Tr K s0 S w' g (putN T l) ∧ Kept S w w' := by
  obtain ⟨m, es, h⟩ := h
  exact (putT_is K s0 hl8 S w g m es T h hn l hk v hv hs hlen).mono fun e w' ⟨h1, ⟨es', h2⟩, h3⟩ => ⟨h1, ⟨m, es', h2⟩, h3.mono fun k _ e => e.elim (fun e => e ▸ h.zg) (fun e => e ▸ h.zm)⟩
theorem tr_root (h : Tr K s0 S w g T) (hT : Tabs K s0 w) (hlow : 2 + 1 ≤ g) :
    Calls Tryd.prog 26 #[.pointer (some ⟨g, 0, none⟩)] w fun e w' => e = .returned (.agg (ndV (partNd K s0 256 T)).toArray) ∧ Tr K s0 S w' g T ∧ Kept S w w' := by
  obtain ⟨m, es, h⟩ := h
  exact (root_at K s0 S hlow w hT h).mono fun e w' ⟨h1, h2, h3⟩ => ⟨h1, ⟨m, es, h2⟩, h3.mono fun k _ e => by rw [show k = g from e]; exact h.zg⟩
theorem tr_keys (h : Tr K s0 S w g T) :
    Calls Tryd.prog 37 #[.pointer (some ⟨g, 0, none⟩)] w fun e w' => ∃ a n c ks, e = .returned (.slice a n c) ∧ KeysT T ks ∧ KeysAt w' a n ks ∧ n ≤ c ∧ n ≤ 256 ∧ (∀ A, a = some A → w.heap.size ≤ A.block) ∧ Below w.heap.size w w' := by
  obtain ⟨m, es, h⟩ := h
  exact keysT_is K s0 S w h
theorem Tr.keyed (h : Tr K s0 S w g T) : Keyed (T.map (·.k)) := by obtain ⟨m, es, h⟩ := h; exact h.keyed
theorem Tr.sum (h : Tr K s0 S w g T) : sumT T < 18446744073709551616 := by obtain ⟨m, es, h⟩ := h; exact h.fit
theorem root_sum (h : Tr K s0 S w g T) : (partNd K s0 256 T).s = sumT T := part_sum K s0 256 T h.keyed (coh_top _)
end
/-- the sum of a node by value. -/
theorem nd_sum (n : Nd) (h : n.h.length = 32) (w : World) : (Instr.field 29 (.agg (ndV n).toArray) 1).run Tryd.prog w = .ok (.int .u64 (n.s : Int)) w := by
  obtain ⟨D, s⟩ := n
  match D, h with
  | [d0, d1, d2, d3, d4, d5, d6, d7, d8, d9, d10, d11, d12, d13, d14, d15, d16, d17, d18, d19, d20, d21, d22, d23, d24, d25, d26, d27, d28, d29, d30, d31], _ => show _ = _; kernel_rfl
set_option maxRecDepth 100000 in
theorem nil_keys (w : World) : Calls Tryd.prog 37 #[.pointer none] w fun e w' => e = .returned (.slice none 0 0) ∧ w' = w := by
  go_enter Tryd.func37, Tryd.ntmps37
  go_wp2
  go_ret
  exact ⟨rfl, rfl⟩
set_option maxRecDepth 100000 in
theorem nil_root (w : World) : Calls Tryd.prog 26 #[.pointer none] w fun e w' => e = .returned (nodeV (List.replicate 32 0) 0) ∧ Below w.heap.size w w' := by
  obtain ⟨Z, hz, hZs, hZn, hZ⟩ := zero_node
  have hbd : ∀ W, (Instr.build 29 #[]).run Tryd.prog W = .ok (.agg Z) W := fun W => by rw [hZ]; kernel_rfl
  have hsz : (Tryd.prog.info? 29).map (·.size) = some Z.size := by rw [hZs]; kernel_rfl
  have hone : Z.all (·.oneCell') = true := by rw [hZ]; exact all_oneCell_toArray (ncells_one _ _)
  have HBD := Lib.hid hbd
  have HSZ := Lib.hid hsz
  have HONE := Lib.hid hone
  have EZ := Lib.hid hZ
  have h1 := Has.new w 29 Z
  have hb : Below w.heap.size w ((w.alloc (.cells Z 29)).setRow w.heap.size Z) := ((Below.refl _ _).alloc (Nat.le_refl _) _).trans ((kept_setRow (g := w.heap.size) (w.alloc (.cells Z 29)) Z).below (by simp) (fun k e => by have e' : k = w.heap.size := e; omega))
  have HB := Lib.hid hb
  have H1 := Lib.hid h1
  have HR := Lib.hid (show Has ((w.alloc (.cells Z 29)).setRow w.heap.size Z) w.heap.size 29 Z from h1.setRow)
  clear hbd hsz hone hZ h1 hb hZs
  go_enter Tryd.func26, Tryd.ntmps26
  go_wp2_with (first
    | (refine wpList_build_run (by kernel_rfl) 29 _ rfl #[] (by kernel_rfl) (.agg Z) (HBD.out _) ?_)
    | (refine wpList_store_row rfl 29 (.tmp 2) (.tmp 5) rfl w.heap.size Z rfl rfl 29 Z H1.out HSZ.out rfl HONE.out ?_))
  refine bodyPost_ret (results_cell_row rfl _ _ w.heap.size 29 Z (0, 0) _ rfl HR.out Tryd.underlying29 rfl HSZ.out) rfl ?_
  exact ⟨by rw [EZ.out]; rfl, HB.out⟩
set_option maxRecDepth 100000 in
theorem nil_beside (w : World) (k : List Nat) : Calls Tryd.prog 30 #[.pointer none, arr k] w fun e w' => e = .returned (.slice none 0 0) ∧ Below w.heap.size w w' := by
  unfold arr
  obtain ⟨C, hC⟩ : ∃ C, C = (bcells k).toArray := ⟨_, rfl⟩
  rw [← hC]
  have HB := Lib.hid ((Below.refl w.heap.size w).alloc (Nat.le_refl _) (.cells C 27))
  clear hC
  go_enter Tryd.func30, Tryd.ntmps30
  go_wp2
  go_ret
  exact ⟨rfl, HB.out⟩
set_option maxRecDepth 100000 in
theorem nil_drop (w : World) (k : List Nat) : Calls Tryd.prog 34 #[.pointer none, arr k] w fun e w' => e = .returned (.bool false) ∧ Below w.heap.size w w' := by
  unfold arr
  obtain ⟨C, hC⟩ : ∃ C, C = (bcells k).toArray := ⟨_, rfl⟩
  rw [← hC]
  have HB := Lib.hid ((Below.refl w.heap.size w).alloc (Nat.le_refl _) (.cells C 27))
  clear hC
  go_enter Tryd.func34, Tryd.ntmps34
  go_wp2
  go_ret
  exact ⟨rfl, HB.out⟩
set_option maxRecDepth 100000 in
theorem nil_put (w : World) (k : List Nat) (a : Option Addr) (n c s : Nat) : Calls Tryd.prog 33 #[.pointer none, arr k, .agg #[.slice a n c, .int .u64 (s : Int)]] w fun e w' => e = .returned (.int .i64 1) ∧ Below w.heap.size w w' := by
  unfold arr
  obtain ⟨C, hC⟩ : ∃ C, C = (bcells k).toArray := ⟨_, rfl⟩
  rw [← hC]
  have HB := Lib.hid (((Below.refl w.heap.size w).alloc (Nat.le_refl _) (.cells C 27)).alloc (by simp) (.cells #[.slice a n c, .int .u64 (s : Int)] 25))
  clear hC
  go_enter Tryd.func33, Tryd.ntmps33
  go_wp2
  go_ret
  exact ⟨rfl, HB.out⟩
set_option maxRecDepth 100000 in
theorem nil_get (w : World) (k : List Nat) : Calls Tryd.prog 35 #[.pointer none, arr k] w fun e w' => e = .returned (.tuple #[leafV (.slice none 0 0) 0, .bool false]) ∧ Below w.heap.size w w' := by
  unfold arr
  obtain ⟨C, hC⟩ : ∃ C, C = (bcells k).toArray := ⟨_, rfl⟩
  rw [← hC]
  have h1 := Has.new (w.alloc (.cells C 27)) 25 #[.slice none 0 0, .int .u64 0]
  have hs : (w.alloc (.cells C 27)).heap.size = w.heap.size + 1 := by simp
  rw [hs] at h1
  have HB := Lib.hid (((Below.refl w.heap.size w).alloc (Nat.le_refl _) (.cells C 27)).alloc (by rw [hs]; omega) (.cells #[.slice none 0 0, .int .u64 0] 25))
  clear hC hs
  go_enter Tryd.func35, Tryd.ntmps35
  go_wp2
  refine bodyPost_ret (results_cell_tmp rfl _ _ (w.heap.size + 1) 25 #[.slice none 0 0, .int .u64 0] (0, 0) _ rfl rfl h1 Tryd.underlying25 (by kernel_rfl)) rfl ?_
  exact ⟨rfl, HB.out⟩
end Go.Proofs.YtcpomddkehhkkaaDoor
