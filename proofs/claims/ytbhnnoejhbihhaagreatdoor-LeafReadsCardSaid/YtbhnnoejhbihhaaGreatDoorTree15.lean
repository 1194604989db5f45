/- A tree for a caller: Put, Root, Keys; what a nil tree answers. -/
import Derived.Test.YtbhnnoejhbihhaaGreatDoorTree12
import Derived.Lib.SlBytesConst
namespace Go.Proofs.YtbhnnoejhbihhaaGreatDoor
set_option linter.unusedVariables false
set_option linter.unusedSimpArgs false
open Go.ChangeShapes Go.WideShapes Go.ChangeAt Go.RowKit Go.Maps

section
variable {K s0 : List Wd} {S : Nat → Prop} {w : World} {g : Nat} {T : List Lf}
theorem tr_put (h : Tr K s0 S w g T) (hl8 : s0.length = 8) (hn : ∀ k, w.heap.size ≤ k → S k) (l : Lf) (hk : IsHash l.k) (v : Value) (hv : Bytes w w.heap.size v l.v) (hs : l.s < 18446744073709551616) (hlen : l.v.length ≤ 1000000) :
    Calls Tryz.prog 81 #[.pointer (some ⟨g, 0, none⟩), arr l.k, leafV v l.s] w fun e w' => e = .returned (.int .i64 (putE T l)) ∧ Tr K s0 S w' g (putN T l) ∧ Kept S w w' := by
  obtain ⟨m, es, h⟩ := h
  exact (putT_is K s0 hl8 S w g m es T h hn l hk v hv hs hlen).mono fun e w' ⟨h1, ⟨es', h2⟩, h3⟩ => ⟨h1, ⟨m, es', h2⟩, h3.mono fun k _ e => e.elim (fun e => e ▸ h.zg) (fun e => e ▸ h.zm)⟩
theorem tr_root (h : Tr K s0 S w g T) (hT : Tabs K s0 w) (hlow : 3 + 1 ≤ g) :
    Calls Tryz.prog 73 #[.pointer (some ⟨g, 0, none⟩)] w fun e w' => e = .returned (.agg (ndV (partNd K s0 256 T)).toArray) ∧ Tr K s0 S w' g T ∧ Kept S w w' := by
  obtain ⟨m, es, h⟩ := h
  exact (root_at K s0 S hlow w hT h).mono fun e w' ⟨h1, h2, h3⟩ => ⟨h1, ⟨m, es, h2⟩, h3.mono fun k _ e => by rw [show k = g from e]; exact h.zg⟩
theorem tr_keys (h : Tr K s0 S w g T) :
    Calls Tryz.prog 113 #[.pointer (some ⟨g, 0, none⟩)] w fun e w' => ∃ a n c ks, e = .returned (.slice a n c) ∧ KeysT T ks ∧ KeysAt w' a n ks ∧ n ≤ c ∧ n ≤ 256 ∧ (∀ A, a = some A → w.heap.size ≤ A.block) ∧ Below w.heap.size w w' := by
  obtain ⟨m, es, h⟩ := h
  exact keysT_is K s0 S w h
theorem Tr.keyed (h : Tr K s0 S w g T) : Keyed (T.map (·.k)) := by obtain ⟨m, es, h⟩ := h; exact h.keyed
theorem Tr.sum (h : Tr K s0 S w g T) : sumT T < 18446744073709551616 := by obtain ⟨m, es, h⟩ := h; exact h.fit
theorem root_sum (h : Tr K s0 S w g T) : (partNd K s0 256 T).s = sumT T := part_sum K s0 256 T h.keyed (coh_top _)
end
/-- the sum of a node by value. -/
theorem nd_sum (n : Nd) (h : n.h.length = 32) (w : World) : (Instr.field 29 (.agg (ndV n).toArray) 1).run Tryz.prog w = .ok (.int .u64 (n.s : Int)) w := by
  obtain ⟨D, s⟩ := n
  match D, h with
  | [d0, d1, d2, d3, d4, d5, d6, d7, d8, d9, d10, d11, d12, d13, d14, d15, d16, d17, d18, d19, d20, d21, d22, d23, d24, d25, d26, d27, d28, d29, d30, d31], _ => show _ = _; kernel_rfl
set_option maxRecDepth 100000 in
theorem nil_keys (w : World) : Calls Tryz.prog 113 #[.pointer none] w fun e w' => e = .returned (.slice none 0 0) ∧ w' = w := by
  go_enter Tryz.func113, Tryz.ntmps113
  go_wp2
  go_ret
  exact ⟨rfl, rfl⟩
set_option maxRecDepth 100000 in
theorem nil_root (w : World) : Calls Tryz.prog 73 #[.pointer none] w fun e w' => e = .returned (nodeV (List.replicate 32 0) 0) ∧ Below w.heap.size w w' := by
  obtain ⟨Z, hz, hZs, hZn, hZ⟩ := zero_node
  have hbd : ∀ W, (Instr.build 29 #[]).run Tryz.prog W = .ok (.agg Z) W := fun W => by rw [hZ]; kernel_rfl
  have hsz : (Tryz.prog.info? 29).map (·.size) = some Z.size := by rw [hZs]; kernel_rfl
  have hone : Z.all (·.oneCell') = true := by rw [hZ]; exact all_oneCell_toArray (ncells_one _ _)
  have HBD := Lib.hid hbd
  have HSZ := Lib.hid hsz
  have HONE := Lib.hid hone
  have EZ := Lib.hid hZ
  have h1 := Has.new w 29 Z
  have hb : Below w.heap.size w ((w.alloc (.cells Z 29)).setRow w.heap.size Z) := ((Below.refl _ _).alloc (Nat.le_refl _) _).trans ((kept_setRow (g := w.heap.size) (w.alloc (.cells Z 29)) Z).below (by simp) (fun k e => by have e' : k = w.heap.size := e; omega))
  have HB := Lib.hid hb
  have H1 := Lib.hid h1
  have HR := Lib.hid (show Has ((w.alloc (.cells Z 29)).setRow w.heap.size Z) w.heap.size 29 Z from h1.setRow)
  clear hbd hsz hone hZ h1 hb hZs
  go_enter Tryz.func73, Tryz.ntmps73
  go_wp2_with (first
    | (refine wpList_build_run (by kernel_rfl) 29 _ rfl #[] (by kernel_rfl) (.agg Z) (HBD.out _) ?_)
    | (refine wpList_store_row rfl 29 (.tmp 2) (.tmp 5) rfl w.heap.size Z rfl rfl 29 Z H1.out HSZ.out rfl HONE.out ?_))
  refine bodyPost_ret (results_cell_row rfl _ _ w.heap.size 29 Z (0, 0) _ rfl HR.out Tryz.underlying29 rfl HSZ.out) rfl ?_
  exact ⟨by rw [EZ.out]; rfl, HB.out⟩
set_option maxRecDepth 100000 in
theorem nil_beside (w : World) (k : List Nat) : Calls Tryz.prog 125 #[.pointer none, arr k] w fun e w' => e = .returned (.slice none 0 0) ∧ Below w.heap.size w w' := by
  unfold arr
  obtain ⟨C, hC⟩ : ∃ C, C = (bcells k).toArray := ⟨_, rfl⟩
  rw [← hC]
  have HB := Lib.hid ((Below.refl w.heap.size w).alloc (Nat.le_refl _) (.cells C 26))
  clear hC
  go_enter Tryz.func125, Tryz.ntmps125
  go_wp2
  go_ret
  exact ⟨rfl, HB.out⟩
set_option maxRecDepth 100000 in
theorem nil_put (w : World) (k : List Nat) (a : Option Addr) (n c s : Nat) : Calls Tryz.prog 81 #[.pointer none, arr k, .agg #[.slice a n c, .int .u64 (s : Int)]] w fun e w' => e = .returned (.int .i64 1) ∧ Below w.heap.size w w' := by
  unfold arr
  obtain ⟨C, hC⟩ : ∃ C, C = (bcells k).toArray := ⟨_, rfl⟩
  rw [← hC]
  have HB := Lib.hid (((Below.refl w.heap.size w).alloc (Nat.le_refl _) (.cells C 26)).alloc (by simp) (.cells #[.slice a n c, .int .u64 (s : Int)] 58))
  clear hC
  go_enter Tryz.func81, Tryz.ntmps81
  go_wp2
  go_ret
  exact ⟨rfl, HB.out⟩
end Go.Proofs.YtbhnnoejhbihhaaGreatDoor

/- The laws' head: one leaf in a tree. -/
namespace Go.Proofs.YtbhnnoejhbihhaaGreatDoor
set_option linter.unusedVariables false
set_option linter.unusedSimpArgs false
open Go.ChangeShapes Go.WideShapes Go.ChangeAt Go.RowKit Go.Maps

def K5 : List Nat := 5 :: List.replicate 31 0
theorem k5_is : IsHash K5 := ⟨by decide, by decide⟩
theorem k5_lit (w : World) : (Instr.build 26 #[(0, .int .u8 5)]).run Tryz.prog w = .ok (.agg (bcells K5).toArray) w := by kernel_rfl
def l5 : Lf := ⟨K5, [97], 7⟩
theorem l5_put : putE [] l5 = 0 := by decide
theorem l5_new : putN [] l5 = [l5] := by unfold putN; rw [if_pos l5_put]; rfl

end Go.Proofs.YtbhnnoejhbihhaaGreatDoor

/- The walks of Get and Drop. -/
namespace Go.Proofs.YtbhnnoejhbihhaaGreatDoor
set_option linter.unusedVariables false
set_option linter.unusedSimpArgs false
open Go.ChangeShapes Go.WideShapes Go.ChangeAt Go.RowKit Go.Maps

def valT (T : List Lf) (k : List Nat) : List Nat := match findT T k with | some l => l.v | none => []
theorem Leaves.ask2 {S : Nat → Prop} {w : World} {es : List Ent} {T : List Lf} (h : Leaves S w es T) (k : List Nat) :
    ∃ (a0 : Option Addr) (n0 c0 ws : Nat) (kn : Bool), (look es k).getD (leafV (.slice none 0 0) 0) = .agg #[.slice a0 n0 c0, .int .u64 (ws : Int)] ∧ (look es k).isSome = kn ∧ ws = wasS T k ∧ kn = (findT T k).isSome ∧ RowB S w (.slice a0 n0 c0) (valT T k) := by
  obtain ⟨a0, n0, c0, ws, kn, h1, h2, h3, h4, h5⟩ := h.ask k
  cases hf : findT T k with
  | some l =>
    refine ⟨a0, n0, c0, ws, kn, h1, h2, h3, by rw [h4, hf], ?_⟩
    unfold valT
    rw [hf]
    exact (h5 l hf).1
  | none =>
    refine ⟨none, 0, 0, 0, false, ?_, ?_, ?_, by rfl, ?_⟩
    · rcases h.look_ k with ⟨e1, e2⟩ | ⟨v, l, e1, e2, e3⟩
      · rw [e1]; rfl
      · rw [e2] at hf; cases hf
    · rcases h.look_ k with ⟨e1, e2⟩ | ⟨v, l, e1, e2, e3⟩
      · rw [e1]; rfl
      · rw [e2] at hf; cases hf
    · unfold wasS; rw [hf]
    · unfold valT; rw [hf]; exact RowB.nil _ _ _ _

section
variable {K s0 : List Wd} {S : Nat → Prop} {g m : Nat} {es : List Ent} {T : List Lf}
/-- a look-up, as the walks of Get and Drop have it. -/
structure Asked (K s0 : List Wd) (S : Nat → Prop) (g m : Nat) (T : List Lf) (k : List Nat) (w : World) (LK : List Value) (a0 : Option Addr) (n0 c0 ws st : Nat) (kn : Bool) : Prop where
  lk : ∀ w', Below w.heap.size w w' → (Instr.lookup 222 (.map (some m)) (.agg LK.toArray) true).run Tryz.prog w' = .ok (.tuple #[.agg #[.slice a0 n0 c0, .int .u64 (ws : Int)], .bool kn]) w'
  gl : ∀ w', Below w.heap.size w w' → w'.cell? ⟨g, 8484, none⟩ = some (.map (some m)) ∧ w'.cell? ⟨g, 8485, none⟩ = some (.int .u64 (st : Int))
  ws : ws = wasS T k
  st : st = sumT T
  kn : kn = (findT T k).isSome
  row : RowB S w (.slice a0 n0 c0) (valT T k)
theorem asked (w : World) (htr : TreeAt K s0 S w g m es T) (k : List Nat) (hk : IsHash k) (LK : List Value) (hLK : LK = bcells k) : ∃ a0 n0 c0 ws st kn, Asked K s0 S g m T k w LK a0 n0 c0 ws st kn := by
  obtain ⟨a0, n0, c0, ws, kn, hlook, hsome, hws, hkn, hrow⟩ := htr.leaves.ask2 k
  obtain ⟨cs, hf⟩ := htr.frame
  refine ⟨a0, n0, c0, ws, sumT T, kn, fun w' hb => ?_, fun w' hb => ⟨(hf.obj.below hb hf.obj.lt).cell_is hf.lv, (hf.obj.below hb hf.obj.lt).cell_is hf.sm⟩, hws, rfl, hkn, hrow⟩
  have := lookup_ok_is (T := 222) Tryz.underlying222 zero_leaf (htr.map.kept (Kept.of_below (S := fun _ => False) hb) (fun h => h)) hk
  rw [hlook, hsome] at this
  rw [hLK]; exact this

end
end Go.Proofs.YtbhnnoejhbihhaaGreatDoor
