/- A tree for a caller: Put, Root, Keys; what a nil tree answers. -/
import Derived.Test.YtngmpcmeebcdmaaDoorTree12
import Derived.Lib.SlBytesConst
namespace Go.Proofs.YtngmpcmeebcdmaaDoor
set_option linter.unusedVariables false
set_option linter.unusedSimpArgs false
open Go.ChangeShapes Go.WideShapes Go.ChangeAt Go.RowKit Go.Maps

section
variable {K s0 : List Wd} {S : Nat → Prop} {w : World} {g : Nat} {T : List Lf}
theorem tr_put (h : Tr K s0 S w g T) (hl8 : s0.length = 8) (hn : ∀ k, w.heap.size ≤ k → S k) (l : Lf) (hk : IsHash l.k) (v : Value) (hv : Bytes w w.heap.size v l.v) (hs : l.s < 18446744073709551616) (hlen : l.v.length ≤ 1000000) :
    Calls Tryd.prog 18 #[.pointer (some ⟨g, 0, none⟩), arr l.k, leafV v l.s] w fun e w' => e = .returned (.int .i64 (putE T l)) ∧ Tr K s0 S w' g (putN T l) ∧ Kept S w w' := by
  obtain ⟨m, es, h⟩ := h
  exact (putT_is K s0 hl8 S w g m es T h hn l hk v hv hs hlen).mono fun e w' ⟨h1, ⟨es', h2⟩, h3⟩ => ⟨h1, ⟨m, es', h2⟩, h3.mono fun k _ e => e.elim (fun e => e ▸ h.zg) (fun e => e ▸ h.zm)⟩
theorem tr_root (h : Tr K s0 S w g T) (hT : Tabs K s0 w) (hlow : 2 + 1 ≤ g) :
    Calls Tryd.prog 37 #[.pointer (some ⟨g, 0, none⟩)] w fun e w' => e = .returned (.agg (ndV (partNd K s0 256 T)).toArray) ∧ Tr K s0 S w' g T ∧ Kept S w w' := by
  obtain ⟨m, es, h⟩ := h
  exact (root_at K s0 S hlow w hT h).mono fun e w' ⟨h1, h2, h3⟩ => ⟨h1, ⟨m, es, h2⟩, h3.mono fun k _ e => by rw [show k = g from e]; exact h.zg⟩
theorem tr_keys (h : Tr K s0 S w g T) :
    Calls Tryd.prog 24 #[.pointer (some ⟨g, 0, none⟩)] w fun e w' => ∃ a n c ks, e = .returned (.slice a n c) ∧ KeysT T ks ∧ KeysAt w' a n ks ∧ n ≤ c ∧ n ≤ 256 ∧ (∀ A, a = some A → w.heap.size ≤ A.block) ∧ Below w.heap.size w w' := by
  obtain ⟨m, es, h⟩ := h
  exact keysT_is K s0 S w h
theorem Tr.keyed (h : Tr K s0 S w g T) : Keyed (T.map (·.k)) := by obtain ⟨m, es, h⟩ := h; exact h.keyed
theorem Tr.sum (h : Tr K s0 S w g T) : sumT T < 18446744073709551616 := by obtain ⟨m, es, h⟩ := h; exact h.fit
theorem root_sum (h : Tr K s0 S w g T) : (partNd K s0 256 T).s = sumT T := part_sum K s0 256 T h.keyed (coh_top _)
end
/-- the sum of a node by value. -/
theorem nd_sum (n : Nd) (h : n.h.length = 32) (w : World) : (Instr.field 58 (.agg (ndV n).toArray) 1).run Tryd.prog w = .ok (.int .u64 (n.s : Int)) w := by
  obtain ⟨D, s⟩ := n
  match D, h with
  | [d0, d1, d2, d3, d4, d5, d6, d7, d8, d9, d10, d11, d12, d13, d14, d15, d16, d17, d18, d19, d20, d21, d22, d23, d24, d25, d26, d27, d28, d29, d30, d31], _ => show _ = _; kernel_rfl
set_option maxRecDepth 100000 in
theorem nil_keys (w : World) : Calls Tryd.prog 24 #[.pointer none] w fun e w' => e = .returned (.slice none 0 0) ∧ w' = w := by
  go_enter Tryd.func24, Tryd.ntmps24
  go_wp2
  go_ret
  exact ⟨rfl, rfl⟩
set_option maxRecDepth 100000 in
theorem nil_root (w : World) : Calls Tryd.prog 37 #[.pointer none] w fun e w' => e = .returned (nodeV (List.replicate 32 0) 0) ∧ Below w.heap.size w w' := by
  obtain ⟨Z, hz, hZs, hZn, hZ⟩ := zero_node
  have hbd : ∀ W, (Instr.build 58 #[]).run Tryd.prog W = .ok (.agg Z) W := fun W => by rw [hZ]; kernel_rfl
  have hsz : (Tryd.prog.info? 58).map (·.size) = some Z.size := by rw [hZs]; kernel_rfl
  have hone : Z.all (·.oneCell') = true := by rw [hZ]; exact all_oneCell_toArray (ncells_one _ _)
  have HBD := Lib.hid hbd
  have HSZ := Lib.hid hsz
  have HONE := Lib.hid hone
  have EZ := Lib.hid hZ
  have h1 := Has.new w 58 Z
  have hb : Below w.heap.size w ((w.alloc (.cells Z 58)).setRow w.heap.size Z) := ((Below.refl _ _).alloc (Nat.le_refl _) _).trans ((kept_setRow (g := w.heap.size) (w.alloc (.cells Z 58)) Z).below (by simp) (fun k e => by have e' : k = w.heap.size := e; omega))
  have HB := Lib.hid hb
  have H1 := Lib.hid h1
  have HR := Lib.hid (show Has ((w.alloc (.cells Z 58)).setRow w.heap.size Z) w.heap.size 58 Z from h1.setRow)
  clear hbd hsz hone hZ h1 hb hZs
  go_enter Tryd.func37, Tryd.ntmps37
  go_wp2_with (first
    | (refine wpList_build_run (by kernel_rfl) 58 _ rfl #[] (by kernel_rfl) (.agg Z) (HBD.out _) ?_)
    | (refine wpList_store_row rfl 58 (.tmp 2) (.tmp 5) rfl w.heap.size Z rfl rfl 58 Z H1.out HSZ.out rfl HONE.out ?_))
  refine bodyPost_ret (results_cell_row rfl _ _ w.heap.size 58 Z (0, 0) _ rfl HR.out Tryd.underlying58 rfl HSZ.out) rfl ?_
  exact ⟨by rw [EZ.out]; rfl, HB.out⟩
set_option maxRecDepth 100000 in
theorem nil_beside (w : World) (k : List Nat) : Calls Tryd.prog 35 #[.pointer none, arr k] w fun e w' => e = .returned (.slice none 0 0) ∧ Below w.heap.size w w' := by
  unfold arr
  obtain ⟨C, hC⟩ : ∃ C, C = (bcells k).toArray := ⟨_, rfl⟩
  rw [← hC]
  have HB := Lib.hid ((Below.refl w.heap.size w).alloc (Nat.le_refl _) (.cells C 28))
  clear hC
  go_enter Tryd.func35, Tryd.ntmps35
  go_wp2
  go_ret
  exact ⟨rfl, HB.out⟩
set_option maxRecDepth 100000 in
theorem nil_drop (w : World) (k : List Nat) : Calls Tryd.prog 21 #[.pointer none, arr k] w fun e w' => e = .returned (.bool false) ∧ Below w.heap.size w w' := by
  unfold arr
  obtain ⟨C, hC⟩ : ∃ C, C = (bcells k).toArray := ⟨_, rfl⟩
  rw [← hC]
  have HB := Lib.hid ((Below.refl w.heap.size w).alloc (Nat.le_refl _) (.cells C 28))
  clear hC
  go_enter Tryd.func21, Tryd.ntmps21
  go_wp2
  go_ret
  exact ⟨rfl, HB.out⟩
set_option maxRecDepth 100000 in
theorem nil_put (w : World) (k : List Nat) (a : Option Addr) (n c s : Nat) : Calls Tryd.prog 18 #[.pointer none, arr k, .agg #[.slice a n c, .int .u64 (s : Int)]] w fun e w' => e = .returned (.int .i64 1) ∧ Below w.heap.size w w' := by
  unfold arr
  obtain ⟨C, hC⟩ : ∃ C, C = (bcells k).toArray := ⟨_, rfl⟩
  rw [← hC]
  have HB := Lib.hid (((Below.refl w.heap.size w).alloc (Nat.le_refl _) (.cells C 28)).alloc (by simp) (.cells #[.slice a n c, .int .u64 (s : Int)] 32))
  clear hC
  go_enter Tryd.func18, Tryd.ntmps18
  go_wp2
  go_ret
  exact ⟨rfl, HB.out⟩
set_option maxRecDepth 100000 in
theorem nil_get (w : World) (k : List Nat) : Calls Tryd.prog 22 #[.pointer none, arr k] w fun e w' => e = .returned (.tuple #[leafV (.slice none 0 0) 0, .bool false]) ∧ Below w.heap.size w w' := by
  unfold arr
  obtain ⟨C, hC⟩ : ∃ C, C = (bcells k).toArray := ⟨_, rfl⟩
  rw [← hC]
  have h1 := Has.new (w.alloc (.cells C 28)) 32 #[.slice none 0 0, .int .u64 0]
  have hs : (w.alloc (.cells C 28)).heap.size = w.heap.size + 1 := by simp
  rw [hs] at h1
  have HB := Lib.hid (((Below.refl w.heap.size w).alloc (Nat.le_refl _) (.cells C 28)).alloc (by rw [hs]; omega) (.cells #[.slice none 0 0, .int .u64 0] 32))
  clear hC hs
  go_enter Tryd.func22, Tryd.ntmps22
  go_wp2
  refine bodyPost_ret (results_cell_tmp rfl _ _ (w.heap.size + 1) 32 #[.slice none 0 0, .int .u64 0] (0, 0) _ rfl rfl h1 Tryd.underlying32 (by kernel_rfl)) rfl ?_
  exact ⟨rfl, HB.out⟩
end Go.Proofs.YtngmpcmeebcdmaaDoor

/- The laws' head: one leaf in a tree. -/
namespace Go.Proofs.YtngmpcmeebcdmaaDoor
set_option linter.unusedVariables false
set_option linter.unusedSimpArgs false
open Go.ChangeShapes Go.WideShapes Go.ChangeAt Go.RowKit Go.Maps

def K5 : List Nat := 5 :: List.replicate 31 0
theorem k5_is : IsHash K5 := ⟨by decide, by decide⟩
theorem k5_lit (w : World) : (Instr.build 28 #[(0, .int .u8 5)]).run Tryd.prog w = .ok (.agg (bcells K5).toArray) w := by kernel_rfl
def l5 : Lf := ⟨K5, [97], 7⟩
theorem l5_put : putE [] l5 = 0 := by decide
theorem l5_new : putN [] l5 = [l5] := by unfold putN; rw [if_pos l5_put]; rfl

set_option maxRecDepth 100000 in
set_option maxHeartbeats 4000000 in
theorem headT_is (K s0 : List Wd) (w : World) (hT : Tabs K s0 w) : Calls Tryd.prog 13 #[] w fun e w' => e = .returned (.bool true) ∧ Below w.heap.size w w' := by
  have hlow := hT.low
  have HL5 := Lib.hid k5_lit
  have HT := Lib.hid hT
  obtain ⟨LK, hLK⟩ : ∃ L, L = (bcells K5).toArray := ⟨_, rfl⟩
  rw [← hLK] at HL5
  have ELK := Lib.hid hLK
  have HLOW := Lib.hid hlow
  clear hT hlow hLK
  go_enter Tryd.func13, Tryd.ntmps13
  go_wp2_with fail
  refine (newT_is K s0 (fun k => w.heap.size ≤ k) w (fun _ h => h)).mono ?_
  rintro _ w1 ⟨g, rfl, htr, hb1, hg⟩
  have htr2 : Tr K s0 (fun k => w.heap.size ≤ k) (w1.alloc (.cells #[.int .u8 97] 5 (1, 2))) g [] := htr.quiet ((Below.refl _ _).alloc (Nat.le_refl _) _)
  have hb2 : Below w.heap.size w (w1.alloc (.cells #[.int .u8 97] 5 (1, 2))) := hb1.alloc hb1.size _
  have hcv : (convert 29 29 (.slice (some ⟨w1.heap.size, 0, none⟩) 1 1)).run Tryd.prog (w1.alloc (.cells #[.int .u8 97] 5)) = .ok (.slice (some ⟨w1.heap.size, 0, none⟩) 1 1) (w1.alloc (.cells #[.int .u8 97] 5 (1, 2))) := Lib.run_convert_bytes_const w1 29 5 #[.int .u8 97] 1 1 Tryd.underlying29 Tryd.underlying5
  have hbox : (w1.alloc (.cells #[.int .u8 97] 5 (1, 2))).cell? ⟨w1.heap.size, 0, none⟩ = some (.int .u8 97) := by
    unfold World.cell?
    rw [heap_alloc_new]; rfl
  have hby : Bytes (w1.alloc (.cells #[.int .u8 97] 5 (1, 2))) (w1.alloc (.cells #[.int .u8 97] 5 (1, 2))).heap.size (.slice (some ⟨w1.heap.size, 0, none⟩) 1 1) [97] :=
    ⟨_, _, rfl, Nat.le_refl _, by decide, fun _ => ⟨w1.heap.size, 0, rfl, by simp, fun i hi => by
      obtain rfl : i = 0 := by simpa using hi
      exact hbox⟩⟩
  have hput := tr_put htr2 HT.out.len (fun k h => by have := hb2.size; omega) l5 k5_is (.slice (some ⟨w1.heap.size, 0, none⟩) 1 1) hby (by decide) (by decide)
  rw [l5_put, l5_new] at hput
  unfold arr leafV at hput
  change Calls Tryd.prog 18 #[.pointer (some ⟨g, 0, none⟩), .agg (bcells K5).toArray, .agg #[.slice (some ⟨w1.heap.size, 0, none⟩) 1 1, .int .u64 7]] _ _ at hput
  rw [← ELK.out] at hput
  have HPUT := Lib.hid hput
  have HB2 := Lib.hid hb2
  have HG := Lib.hid hg
  clear htr hb1 hg htr2 hb2 hbox hby hput
  go_wp2_with (refine wpList_build_run (by kernel_rfl) 28 _ rfl #[(0, .int .u8 5)] (by kernel_rfl) (.agg LK) (HL5.out _) ?_)
  refine HPUT.out.mono ?_
  rintro _ w2 ⟨rfl, htr, hk2⟩
  have hb2 : Below w.heap.size w w2 := HB2.out.trans (hk2.below HB2.out.size (fun k e => e))
  have hT2 : Tabs K s0 w2 := HT.out.below hb2 HLOW.out
  have hroot := tr_root htr hT2 (Nat.le_trans HLOW.out HG.out)
  obtain ⟨n, hn⟩ : ∃ n, n = partNd K s0 256 [l5] := ⟨_, rfl⟩
  have hns : n.s = 7 := by rw [hn, root_sum htr]; rfl
  have hnh : n.h.length = 32 := by rw [hn]; exact (part_hash K s0 HT.out.len _ _).1
  rw [← hn] at hroot
  obtain ⟨LN, hLN⟩ : ∃ L, L = (ndV n).toArray := ⟨_, rfl⟩
  have hfd : ∀ W, (Instr.field 58 (.agg LN) 1).run Tryd.prog W = .ok (.int .u64 7) W := fun W => by
    have := nd_sum n hnh W
    rw [hns] at this
    rw [hLN]; exact this
  rw [← hLN] at hroot
  have HROOT := Lib.hid hroot
  have HB3 := Lib.hid hb2
  clear htr hk2 hb2 hT2 hroot hn hns hnh hLN
  go_wp2_with fail
  refine HROOT.out.mono ?_
  rintro _ w3 ⟨rfl, htr, hk3⟩
  have hkeys := tr_keys htr
  have HKEYS := Lib.hid hkeys
  have HB4 := Lib.hid (HB3.out.trans (hk3.below HB3.out.size (fun k e => e)))
  have HTR := Lib.hid htr
  clear htr hk3 hkeys
  go_wp2_with fail
  refine HKEYS.out.mono ?_
  rintro _ w4 ⟨a, nn, c, ks, rfl, hkt, hka, hnc, hn2, hA, hb5⟩
  have hn1 : nn = 1 := by
    have := hkt.len_eq HTR.out.keyed.nodup
    rw [hka.len] at this
    exact this
  subst hn1
  have HB5 := Lib.hid (HB4.out.trans (hb5.mono HB4.out.size))
  clear hkt hka hnc hn2 hA hb5
  go_wp2
  go_ret
  exact ⟨rfl, HB5.out⟩
end Go.Proofs.YtngmpcmeebcdmaaDoor

/- The walks of Get and Drop. -/
namespace Go.Proofs.YtngmpcmeebcdmaaDoor
set_option linter.unusedVariables false
set_option linter.unusedSimpArgs false
open Go.ChangeShapes Go.WideShapes Go.ChangeAt Go.RowKit Go.Maps

def valT (T : List Lf) (k : List Nat) : List Nat := match findT T k with | some l => l.v | none => []
theorem Leaves.ask2 {S : Nat → Prop} {w : World} {es : List Ent} {T : List Lf} (h : Leaves S w es T) (k : List Nat) :
    ∃ (a0 : Option Addr) (n0 c0 ws : Nat) (kn : Bool), (look es k).getD (leafV (.slice none 0 0) 0) = .agg #[.slice a0 n0 c0, .int .u64 (ws : Int)] ∧ (look es k).isSome = kn ∧ ws = wasS T k ∧ kn = (findT T k).isSome ∧ RowB S w (.slice a0 n0 c0) (valT T k) := by
  obtain ⟨a0, n0, c0, ws, kn, h1, h2, h3, h4, h5⟩ := h.ask k
  cases hf : findT T k with
  | some l =>
    refine ⟨a0, n0, c0, ws, kn, h1, h2, h3, by rw [h4, hf], ?_⟩
    unfold valT
    rw [hf]
    exact (h5 l hf).1
  | none =>
    refine ⟨none, 0, 0, 0, false, ?_, ?_, ?_, by rfl, ?_⟩
    · rcases h.look_ k with ⟨e1, e2⟩ | ⟨v, l, e1, e2, e3⟩
      · rw [e1]; rfl
      · rw [e2] at hf; cases hf
    · rcases h.look_ k with ⟨e1, e2⟩ | ⟨v, l, e1, e2, e3⟩
      · rw [e1]; rfl
      · rw [e2] at hf; cases hf
    · unfold wasS; rw [hf]
    · unfold valT; rw [hf]; exact RowB.nil _ _ _ _

section
variable {K s0 : List Wd} {S : Nat → Prop} {g m : Nat} {es : List Ent} {T : List Lf}
/-- a look-up, as the walks of Get and Drop have it. -/
structure Asked (K s0 : List Wd) (S : Nat → Prop) (g m : Nat) (T : List Lf) (k : List Nat) (w : World) (LK : List Value) (a0 : Option Addr) (n0 c0 ws st : Nat) (kn : Bool) : Prop where
  lk : ∀ w', Below w.heap.size w w' → (Instr.lookup 109 (.map (some m)) (.agg LK.toArray) true).run Tryd.prog w' = .ok (.tuple #[.agg #[.slice a0 n0 c0, .int .u64 (ws : Int)], .bool kn]) w'
  gl : ∀ w', Below w.heap.size w w' → w'.cell? ⟨g, 8484, none⟩ = some (.map (some m)) ∧ w'.cell? ⟨g, 8485, none⟩ = some (.int .u64 (st : Int))
  ws : ws = wasS T k
  st : st = sumT T
  kn : kn = (findT T k).isSome
  row : RowB S w (.slice a0 n0 c0) (valT T k)
theorem asked (w : World) (htr : TreeAt K s0 S w g m es T) (k : List Nat) (hk : IsHash k) (LK : List Value) (hLK : LK = bcells k) : ∃ a0 n0 c0 ws st kn, Asked K s0 S g m T k w LK a0 n0 c0 ws st kn := by
  obtain ⟨a0, n0, c0, ws, kn, hlook, hsome, hws, hkn, hrow⟩ := htr.leaves.ask2 k
  obtain ⟨cs, hf⟩ := htr.frame
  refine ⟨a0, n0, c0, ws, sumT T, kn, fun w' hb => ?_, fun w' hb => ⟨(hf.obj.below hb hf.obj.lt).cell_is hf.lv, (hf.obj.below hb hf.obj.lt).cell_is hf.sm⟩, hws, rfl, hkn, hrow⟩
  have := lookup_ok_is (T := 109) Tryd.underlying109 zero_leaf (htr.map.kept (Kept.of_below (S := fun _ => False) hb) (fun h => h)) hk
  rw [hlook, hsome] at this
  rw [hLK]; exact this

set_option maxRecDepth 100000 in
set_option maxHeartbeats 4000000 in
theorem get_is (w : World) (htr : TreeAt K s0 S w g m es T) (k : List Nat) (hk : IsHash k) :
    Calls Tryd.prog 22 #[.pointer (some ⟨g, 0, none⟩), arr k] w fun e w' => ∃ v', e = .returned (.tuple #[leafV v' (wasS T k), .bool (findT T k).isSome]) ∧ RowB (fun j => w.heap.size ≤ j) w' v' (valT T k) ∧ Below w.heap.size w w' := by
  obtain ⟨LK, hLK⟩ : ∃ L, L = bcells k := ⟨_, rfl⟩
  have lk : LK.length = 32 := by rw [hLK, bcells_length, hk.1]
  obtain ⟨a0, n0, c0, ws, st, kn, hA⟩ := asked w htr k hk LK hLK
  have earr : arr k = .agg LK.toArray := by unfold arr; rw [hLK]
  rw [earr, ← hA.ws, ← hA.kn]
  have hsh : (valT T k).length ≤ 65536 := by
    unfold valT
    cases hf : findT T k with
    | none => exact Nat.zero_le _
    | some l => exact htr.short l (find_key hf).2
  have SZK := Lib.hid (show (Tryd.prog.info? 28).map (·.size) = some LK.length by rw [lk]; kernel_rfl)
  have SZL := Lib.hid (show (Tryd.prog.info? 32).map (·.size) = some (#[Value.slice a0 n0 c0, .int .u64 (ws : Int)] : Array Value).size by kernel_rfl)
  have ONEL := Lib.hid (show (#[Value.slice a0 n0 c0, .int .u64 (ws : Int)] : Array Value).all (·.oneCell') = true by kernel_rfl)
  have hb3 := (Has.new w 28 LK.toArray).alloc (.cells #[.slice none 0 0, .int .u64 0] 32)
  have hb4 := Has.new (w.alloc (.cells LK.toArray 28)) 32 #[.slice none 0 0, .int .u64 0]
  have s1 : ∀ (x : World) o, (x.alloc o).heap.size = x.heap.size + 1 := fun x o => by simp
  rw [s1] at hb4
  have hbel := ((Below.refl w.heap.size w).alloc (Nat.le_refl _) (.cells LK.toArray 28)).alloc (by rw [s1]; omega) (.cells #[.slice none 0 0, .int .u64 0] 32)
  have HA := Lib.hid hA
  have HB3 := Lib.hid hb3
  have HB4 := Lib.hid hb4
  have HBEL := Lib.hid hbel
  have HSH := Lib.hid hsh
  clear hLK lk hA earr hsh hb3 hb4 s1 hbel htr hk
  go_enter Tryd.func22, Tryd.ntmps22
  go_upto_region 1 with (fail)
  generalize (w.alloc (.cells LK.toArray 28)).alloc (.cells #[.slice none 0 0, .int .u64 0] 32) = w1 at HB3 HB4 HBEL ⊢
  obtain ⟨Bk, hBk⟩ : ∃ B, B = w.heap.size := ⟨_, rfl⟩
  obtain ⟨Br, hBr⟩ : ∃ B, B = w.heap.size + 1 := ⟨_, rfl⟩
  rw [← hBk] at HB3
  rw [← hBr] at HB4
  rw [← hBr, ← hBk]
  have hS : ∀ v, Below w1.heap.size w1 v → (v.cell? ⟨g, 8484, none⟩ = some (.map (some m)) ∧ v.rangeAt Bk 0 LK ∧ (Instr.lookup 109 (.map (some m)) (.agg LK.toArray) true).run Tryd.prog v = .ok (.tuple #[.agg #[.slice a0 n0 c0, .int .u64 (ws : Int)], .bool kn]) v) := fun v h2 =>
    ⟨(HA.out.gl v (HBEL.out.trans (h2.mono HBEL.out.size))).1, (HB3.out.below h2 HB3.out.lt).row0, HA.out.lk v (HBEL.out.trans (h2.mono HBEL.out.size))⟩
  have hS5 := hS w1.drew (Below.refl _ _).drew
  have hal : Below w1.heap.size w1 (w1.alloc (.cells #[.slice none 0 0, .int .u64 0] 32)).drew := ((Below.refl _ _).drew).alloc (Nat.le_refl _) _
  have hSa9 := hS _ hal
  have hnew : Has (w1.alloc (.cells #[.slice none 0 0, .int .u64 0] 32)).drew w1.heap.size 32 #[.slice none 0 0, .int .u64 0] := Has.new w1.drew _ _
  obtain ⟨p1, p2⟩ := row_set (L := [Value.slice a0 n0 c0, .int .u64 (ws : Int)]) hnew rfl
  have hal2 : Below w1.heap.size w1 ((w1.alloc (.cells #[.slice none 0 0, .int .u64 0] 32)).drew.setCells w1.heap.size 0 [Value.slice a0 n0 c0, .int .u64 (ws : Int)]) := hal.trans (p2.below hal.size (fun k e => by have e' : k = w1.heap.size := e; omega))
  have hS5b := hS _ hal2
  have HTH5 := Lib.hid (hnew.there 0 2 (by decide))
  have HP1 := Lib.hid p1
  have HAL2 := Lib.hid hal2
  have EBR := Lib.hid hBr
  clear hS hal hnew p1 p2 hal2 hBk hBr
  go_upto_region 3 with (fail)
  refine wp_region_noPanic ?_
  refine wp_region_held_drew (S := fun w' => w'.cell? ⟨g, 8484, none⟩ = some (.map (some m)) ∧ w'.rangeAt Bk 0 LK ∧ (Instr.lookup 109 (.map (some m)) (.agg LK.toArray) true).run Tryd.prog w' = .ok (.tuple #[.agg #[.slice a0 n0 c0, .int .u64 (ws : Int)], .bool kn]) w') (by kernel_rfl) hS5 (fun hH0 => ?_)
  refine wpAnyH_take (i := 0) (v := (.pointer (some ⟨g, 0, none⟩))) rfl (by kernel_rfl) (by kernel_rfl) (by kernel_rfl) (fun _ _ _ h => h) (Or.inl ⟨by kernel_rfl, by intro w' hS; obtain ⟨e0, e1, e2⟩ := hS; go_simp⟩) hH0 ?_
  simp only [Act.put, List.getElem_toArray, List.getElem_cons_zero, List.getElem_cons_succ, List.setIfInBounds_toArray, List.set_cons_zero, List.set_cons_succ]
  refine wpAnyH_take (i := 1) (v := (.pointer (some ⟨g, 0, none⟩))) rfl (by kernel_rfl) (by kernel_rfl) (by kernel_rfl) (fun _ _ _ h => h) (Or.inl ⟨by kernel_rfl, by intro w' hS; obtain ⟨e0, e1, e2⟩ := hS; go_simp⟩) hH0 ?_
  simp only [Act.put, List.getElem_toArray, List.getElem_cons_zero, List.getElem_cons_succ, List.setIfInBounds_toArray, List.set_cons_zero, List.set_cons_succ]
  refine wpAnyH_take (i := 2) (v := (.pointer (some ⟨g, 8484, none⟩))) rfl (by kernel_rfl) (by kernel_rfl) (by kernel_rfl) (fun _ _ _ h => h) (Or.inl ⟨by kernel_rfl, by intro w' hS; obtain ⟨e0, e1, e2⟩ := hS; go_simp⟩) hH0 ?_
  simp only [Act.put, List.getElem_toArray, List.getElem_cons_zero, List.getElem_cons_succ, List.setIfInBounds_toArray, List.set_cons_zero, List.set_cons_succ]
  refine wpAnyH_take (i := 3) (v := (.map (some m))) rfl (by kernel_rfl) (by kernel_rfl) (by kernel_rfl) (fun _ _ _ h => h) (Or.inl ⟨by kernel_rfl, by intro w' hS; obtain ⟨e0, e1, e2⟩ := hS; go_simp⟩) hH0 ?_
  simp only [Act.put, List.getElem_toArray, List.getElem_cons_zero, List.getElem_cons_succ, List.setIfInBounds_toArray, List.set_cons_zero, List.set_cons_succ]
  refine wpAnyH_take (i := 4) (v := (.agg LK.toArray)) rfl (by kernel_rfl) (by kernel_rfl) (by kernel_rfl) (fun _ _ _ h => h) (yieldsIf_load_mid (by kernel_rfl) 28 (.tmp 3) rfl Bk 0 rfl LK _ (fun w' h => h.2.1) Tryd.underlying28 rfl SZK.out) hH0 ?_
  simp only [Act.put, List.getElem_toArray, List.getElem_cons_zero, List.getElem_cons_succ, List.setIfInBounds_toArray, List.set_cons_zero, List.set_cons_succ]
  refine wpAnyH_take (i := 5) (v := (.tuple #[.agg #[.slice a0 n0 c0, .int .u64 (ws : Int)], .bool kn])) rfl (by kernel_rfl) (by kernel_rfl) (by kernel_rfl) (fun _ _ _ h => h) (Or.inl ⟨by kernel_rfl, by intro w' hS; obtain ⟨e0, e1, e2⟩ := hS; go_simp⟩) hH0 ?_
  simp only [Act.put, List.getElem_toArray, List.getElem_cons_zero, List.getElem_cons_succ, List.setIfInBounds_toArray, List.set_cons_zero, List.set_cons_succ]
  refine wpAnyH_take (i := 6) (v := (.tuple #[.agg #[.slice a0 n0 c0, .int .u64 (ws : Int)], .bool kn])) rfl (by kernel_rfl) (by kernel_rfl) (by kernel_rfl) (fun _ _ _ h => h) (Or.inl ⟨by kernel_rfl, by intro w' hS; obtain ⟨e0, e1, e2⟩ := hS; go_simp⟩) hH0 ?_
  simp only [Act.put, List.getElem_toArray, List.getElem_cons_zero, List.getElem_cons_succ, List.setIfInBounds_toArray, List.set_cons_zero, List.set_cons_succ]
  refine wpAnyH_take (i := 7) (v := (.agg #[.slice a0 n0 c0, .int .u64 (ws : Int)])) rfl (by kernel_rfl) (by kernel_rfl) (by kernel_rfl) (fun _ _ _ h => h) (Or.inl ⟨by kernel_rfl, by intro w' hS; obtain ⟨e0, e1, e2⟩ := hS; go_simp⟩) hH0 ?_
  simp only [Act.put, List.getElem_toArray, List.getElem_cons_zero, List.getElem_cons_succ, List.setIfInBounds_toArray, List.set_cons_zero, List.set_cons_succ]
  refine wpAnyH_take (i := 8) (v := (.bool kn)) rfl (by kernel_rfl) (by kernel_rfl) (by kernel_rfl) (fun _ _ _ h => h) (Or.inl ⟨by kernel_rfl, by intro w' hS; obtain ⟨e0, e1, e2⟩ := hS; go_simp⟩) hH0 ?_
  simp only [Act.put, List.getElem_toArray, List.getElem_cons_zero, List.getElem_cons_succ, List.setIfInBounds_toArray, List.set_cons_zero, List.set_cons_succ]
  refine wpAnyH_ready (rs := [9]) (by kernel_rfl) (by simp) ?_
  refine AllReadyH.cons rfl (fun K hK => ?_) AllReadyH.nil
  go_simp
  refine Shut.out hK _ _ hSa9 (fun hH1 => ?_)
  clear hK K
  try simp only [Act.put, List.getElem_toArray, List.getElem_cons_zero, List.getElem_cons_succ, List.setIfInBounds_toArray, List.set_cons_zero, List.set_cons_succ]
  refine wpAnyH_ready (rs := [10]) (by kernel_rfl) (by simp) ?_
  refine AllReadyH.cons rfl (fun K hK => ?_) AllReadyH.nil
  refine step_store_mid rfl 32 (.tmp 6) (.tmp 18) rfl w1.heap.size 0 #[.slice a0 n0 c0, .int .u64 (ws : Int)] rfl rfl HTH5.out SZL.out ONEL.out ?_
  refine Shut.out hK _ _ hS5b (fun hH2 => ?_)
  clear hK K
  try simp only [Act.put, List.getElem_toArray, List.getElem_cons_zero, List.getElem_cons_succ, List.setIfInBounds_toArray, List.set_cons_zero, List.set_cons_succ]
  refine wpAnyH_take (i := 11) (v := (.bool kn)) rfl (by kernel_rfl) (by kernel_rfl) (by kernel_rfl) (fun _ _ _ h => h) (Or.inl ⟨by kernel_rfl, by intro w' hS; obtain ⟨e0, e1, e2⟩ := hS; go_simp⟩) hH2 ?_
  simp only [Act.put, List.getElem_toArray, List.getElem_cons_zero, List.getElem_cons_succ, List.setIfInBounds_toArray, List.set_cons_zero, List.set_cons_succ]
  refine wpAnyH_done (by kernel_rfl) ?_ _
  refine NoPanic.normal ?_
  clear hH0 hH1 hH2 hS5 hSa9 hS5b
  have hb42 := HB4.out.below HAL2.out HB4.out.lt
  have hrl : Br < w1.heap.size := HB4.out.lt
  generalize (w1.alloc (.cells #[.slice none 0 0, .int .u64 0] 32)).drew.setCells w1.heap.size 0 [Value.slice a0 n0 c0, .int .u64 (ws : Int)] = W2 at HP1 HAL2 hb42 ⊢
  obtain ⟨B7, hB7⟩ : ∃ B, B = w1.heap.size := ⟨_, rfl⟩
  rw [← hB7] at HP1 hrl ⊢
  have hbe2 : Below w.heap.size w W2 := HBEL.out.trans (HAL2.out.mono HBEL.out.size)
  have hcl := clone_bytes W2 _ (valT T k) (by have := HSH.out; omega) ((HA.out.row.kept (Kept.of_below (S := fun _ => False) hbe2) (fun _ _ _ h => h)).bytes (Nat.le_refl _))
  have HCL := Lib.hid hcl
  have HB42 := Lib.hid hb42
  have HBE2 := Lib.hid hbe2
  have HLL := Lib.hid (show Br < B7 ∧ w.heap.size ≤ Br from by have := EBR.out; omega)
  have d0 : W2.cell? ⟨B7, 0, none⟩ = some (.slice a0 n0 c0) := HP1.out.cell_is rfl
  clear hb42 hbe2 hcl hrl hB7 HAL2
  go_wp2_with fail
  refine HCL.out.mono ?_
  rintro _ w4 ⟨v', rfl, hrow, hb4⟩
  obtain ⟨av, cv, hv', -⟩ := id hrow
  obtain ⟨nv, hnv⟩ : ∃ x, x = (valT T k).length := ⟨_, rfl⟩
  rw [← hnv] at hv'
  subst hv'
  have h7 := HP1.out.below hb4 HP1.out.lt
  have hr := HB42.out.below hb4 HB42.out.lt
  have e0 : w4.cell? ⟨B7, 0, none⟩ = some (.slice a0 n0 c0) := h7.cell_is rfl
  have e1 : w4.cell? ⟨B7, 1, none⟩ = some (.int .u64 (ws : Int)) := h7.cell_is rfl
  have f0 : w4.frozen? ⟨B7, 0, none⟩ = false := h7.free _
  have hs7 := h7.set 0 (.slice av nv cv)
  have hk5 : Kept (· = B7) w4 (w4.setCell ⟨B7, 0, none⟩ (.slice av nv cv)) := (Kept.refl (· = B7) w4).set (p := ⟨B7, 0, none⟩) (.inl rfl) _
  have hr5 := hr.kept hk5 (by have := HLL.out; omega)
  have hrow5 := hrow.kept hk5 (fun j _ h e => by have e' : j = B7 := e; have h' : W2.heap.size ≤ j := h; have := HP1.out.lt; omega)
  have hbe5 : Below w.heap.size w (w4.setCell ⟨B7, 0, none⟩ (.slice av nv cv)) := (HBE2.out.trans (hb4.mono HBE2.out.size)).trans (hk5.below (by have h1 := HBE2.out.size; have h2 := hb4.size; omega) (fun j e => by have e' : j = B7 := e; have := HLL.out; omega))
  have HS7 := Lib.hid hs7
  have HR5 := Lib.hid hr5
  have HROW5 := Lib.hid hrow5
  have HB7W := Lib.hid HP1.out.lt
  have HBE5 := Lib.hid hbe5
  have HTH := Lib.hid (show (w4.setCell ⟨B7, 0, none⟩ (.slice av nv cv)).heap.size = w4.heap.size by simp)
  clear hrow hb4 h7 hr hs7 hk5 hr5 hrow5 hbe5 hnv d0
  go_upto_region 5 with (fail)
  generalize w4.setCell ⟨B7, 0, none⟩ (.slice av nv cv) = W5 at HS7 HR5 HROW5 HBE5 HTH ⊢
  have c0 : W5.cell? ⟨B7, 0, none⟩ = some (.slice av nv cv) := HS7.out.cell_is rfl
  have c1 : W5.cell? ⟨B7, 1, none⟩ = some (.int .u64 (ws : Int)) := HS7.out.cell_is rfl
  have r0 : W5.cell? ⟨Br, 0, none⟩ = some (.slice none 0 0) := HR5.out.cell_is rfl
  have r1 : W5.cell? ⟨Br, 1, none⟩ = some (.int .u64 0) := HR5.out.cell_is rfl
  have z0 : W5.frozen? ⟨Br, 0, none⟩ = false := HR5.out.free _
  have z1 : W5.frozen? ⟨Br, 1, none⟩ = false := HR5.out.free _
  clear e0 e1 f0
  have hset := (HR5.out.set 0 (.slice av nv cv)).set 1 (.int .u64 (ws : Int))
  have hk6 : Kept (· = Br) W5 ((W5.setCell ⟨Br, 0, none⟩ (.slice av nv cv)).setCell ⟨Br, 1, none⟩ (.int .u64 (ws : Int))) := ((Kept.refl (· = Br) W5).set (p := ⟨Br, 0, none⟩) (.inl rfl) _).set (p := ⟨Br, 1, none⟩) (.inl rfl) _
  have HSET := Lib.hid (show Has ((W5.setCell ⟨Br, 0, none⟩ (.slice av nv cv)).setCell ⟨Br, 1, none⟩ (.int .u64 (ws : Int))) Br 32 #[.slice av nv cv, .int .u64 (ws : Int)] from hset)
  have HFIN := Lib.hid (And.intro ((HROW5.out.kept hk6 (fun j _ h e => by have e' : j = Br := e; have h' : W2.heap.size ≤ j := h; have h1 := HB7W.out; have h2 := HLL.out; omega)).zone (S' := fun j => w.heap.size ≤ j) (fun j _ h => by have h' : W2.heap.size ≤ j := h; have := HBE2.out.size; show w.heap.size ≤ j; omega)) (HBE5.out.trans (hk6.below HBE5.out.size (fun j e => by have e' : j = Br := e; have := HLL.out; omega))))
  clear hset hk6
  go_wp2
  refine bodyPost_ret (results_cell_tmp rfl _ _ Br 32 #[.slice av nv cv, .int .u64 (ws : Int)] (0, 0) _ rfl rfl HSET.out Tryd.underlying32 (by kernel_rfl)) rfl ?_
  exact ⟨.slice av nv cv, rfl, HFIN.out.1, HFIN.out.2⟩

set_option maxRecDepth 100000 in
set_option maxHeartbeats 4000000 in
theorem drop_is (w : World) (htr : TreeAt K s0 S w g m es T) (hl8 : s0.length = 8) (k : List Nat) (hk : IsHash k) :
    Calls Tryd.prog 21 #[.pointer (some ⟨g, 0, none⟩), arr k] w fun e w' => e = .returned (.bool (findT T k).isSome) ∧ (∃ es', TreeAt K s0 S w' g m es' (dropT T k)) ∧ Kept (fun j => j = g ∨ j = m) w w' := by
  obtain ⟨LK, hLK⟩ : ∃ L, L = bcells k := ⟨_, rfl⟩
  have lk : LK.length = 32 := by rw [hLK, bcells_length, hk.1]
  obtain ⟨a0, n0, c0, ws, st, kn, hA⟩ := asked w htr k hk LK hLK
  have earr : arr k = .agg LK.toArray := by unfold arr; rw [hLK]
  rw [earr, ← hA.kn]
  obtain ⟨cs, hf⟩ := htr.frame
  have hglt := hf.obj.lt
  have hmlt := htr.map.lt
  have hmg : m ≠ g := fun e => by
    obtain ⟨es', clock, h1, _⟩ := htr.map
    have := hf.obj
    unfold Has at this
    rw [e, this] at h1
    cases h1
  have hws : ws ≤ st := by rw [hA.ws, hA.st]; exact was_le T k
  have hfit := htr.fit
  rw [← hA.st] at hfit
  obtain ⟨sr, hsr⟩ : ∃ x, x = st - ws := ⟨_, rfl⟩
  have hsum : sumT (dropT T k) = sr := by
    have := sum_drop T k
    rw [← hA.ws, ← hA.st] at this
    omega
  -- where nothing stood
  have hnone : kn = false → ∀ w', Below w.heap.size w w' → (∃ es', TreeAt K s0 S w' g m es' (dropT T k)) ∧ Kept (fun j => j = g ∨ j = m) w w' := fun hkn w' hb => by
    have hf0 : findT T k = none := by
      have := hA.kn
      rw [hkn] at this
      cases hq : findT T k with
      | none => rfl
      | some x => rw [hq] at this; cases this
    rw [drop_none hf0]
    exact ⟨⟨es, htr.kept (Kept.of_below (S := fun _ => False) hb) (fun _ _ _ h => h)⟩, (Kept.of_below hb).mono (fun _ _ h => h)⟩
  -- where something did
  have hdone : ∀ w5, Below w.heap.size w w5 → ∃ w7, (∀ ty, (Builtin.delete_ #[109, 28] ty #[.map (some m), .agg LK.toArray]).run Tryd.prog (w5.setCell ⟨g, 8485, none⟩ (.int .u64 (sr : Int))).drew = .ok (.tuple #[]) w7) ∧ Kept (· = m) (w5.setCell ⟨g, 8485, none⟩ (.int .u64 (sr : Int))) w7 ∧ (∃ es', TreeAt K s0 S w7 g m es' (dropT T k)) ∧ Kept (fun j => j = g ∨ j = m) w w7 := fun w5 hb => by
    have h5 := hf.obj.below hb hglt
    have hk8 : Kept (· = g) w5 (w5.setCell ⟨g, 8485, none⟩ (.int .u64 (sr : Int))) := (Kept.refl (· = g) w5).set (p := ⟨g, 8485, none⟩) (.inl rfl) _
    have hm5 := (htr.map.kept (Kept.of_below (S := fun _ => False) hb) (fun h => h)).kept hk8 hmg
    have hdl := fun ty => delete_is (T := 109) Tryd.underlying109 hm5.drew hk 28 ty
    obtain ⟨w7, q1, q2, q3⟩ := hdl 0
    have q3' : Kept (· = m) (w5.setCell ⟨g, 8485, none⟩ (.int .u64 (sr : Int))) w7 := q3.undrew
    refine ⟨w7, fun ty => by rw [hLK]; exact q1, q3', ⟨delL es k, ?_⟩, ?_⟩
    · have h7 := (h5.set 8485 (.int .u64 (sr : Int))).kept q3' (fun e => hmg e.symm)
      have far : ∀ {v bs}, RowB S w v bs → RowB S w7 v bs := fun {v bs} hr' => by
        obtain ⟨a', c', e, h1, h2, h3⟩ := hr'
        refine ⟨a', c', e, h1, h2, fun hl => ?_⟩
        obtain ⟨bg, bo, cur, e2, hz, hh, hc⟩ := h3 hl
        have hh5 := hh.below hb hh.lt
        have hbg : bg ≠ g := hh5.ne h5 (by decide)
        have hbm : bg ≠ m := fun e => by
          obtain ⟨es', clock, h1, _⟩ := htr.map.kept (Kept.of_below (S := fun _ => False) hb) (fun h => h)
          unfold Has at hh5
          rw [e, h1] at hh5
          cases hh5
        exact ⟨bg, bo, cur, e2, hz, (hh5.kept hk8 hbg).kept q3' hbm, hc⟩
      refine ⟨⟨_, h7, by rw [Array.size_setIfInBounds]; exact hf.size, by rw [Array.getElem?_setIfInBounds_ne (by decide)]; exact hf.lock, by rw [Array.getElem?_setIfInBounds_ne (by decide)]; exact hf.lv, by rw [Array.getElem?_setIfInBounds_self_of_lt (by rw [hf.size]; decide), hsum], ?_⟩, q2, (htr.leaves.imp fun v bs hr' => far hr').drop k, htr.keyed.drop k, by rw [hsum]; omega, Nat.le_trans (drop_sub T k).length_le htr.len, fun t ht => htr.short t (drop_mem ht), htr.zg, htr.zm⟩
      rcases hf.once with h | ⟨h1, h2⟩
      · exact .inl (by rw [Array.getElem?_setIfInBounds_ne (by decide)]; exact h)
      · refine .inr ⟨by rw [Array.getElem?_setIfInBounds_ne (by decide)]; exact h1, fun h hh j u hu => ?_⟩
        have hj := (List.getElem?_eq_some_iff.1 hu).1
        have hj2 := h2 h hh j u hu
        have : (ncells (emptyNd K s0 h).h (emptyNd K s0 h).s).length = 33 := ndV_len (empty_hash K s0 hl8 h)
        have := Nat.mul_le_mul_right 33 hh
        rw [Array.getElem?_setIfInBounds_ne (by omega)]
        exact hj2
    · exact (((Kept.of_below (S := fun _ => False) hb).mono (S' := fun j => j = g ∨ j = m) (fun _ _ h => h.elim)).trans (hk8.mono (fun _ _ h => .inl h))).trans (q3'.mono (fun _ _ h => .inr h))
  have SZK := Lib.hid (show (Tryd.prog.info? 28).map (·.size) = some LK.length by rw [lk]; kernel_rfl)
  have SZL := Lib.hid (show (Tryd.prog.info? 32).map (·.size) = some (#[Value.slice a0 n0 c0, .int .u64 (ws : Int)] : Array Value).size by kernel_rfl)
  have ONEL := Lib.hid (show (#[Value.slice a0 n0 c0, .int .u64 (ws : Int)] : Array Value).all (·.oneCell') = true by kernel_rfl)
  have hb3 := Has.new w 28 LK.toArray
  have hbel := (Below.refl w.heap.size w).alloc (Nat.le_refl _) (.cells LK.toArray 28)
  have hfz : ∀ v, Below w.heap.size w v → v.frozen? ⟨g, 8485, none⟩ = false := fun v hb => (hf.obj.below hb hglt).free _
  have hsub : IntKind.u64.wrap ((st : Int) - (ws : Int)) = (sr : Int) := by rw [IntKind.wrap_u64]; omega
  have HA := Lib.hid hA
  have HB3 := Lib.hid hb3
  have HBEL := Lib.hid hbel
  have HNONE := Lib.hid hnone
  have HDONE := Lib.hid hdone
  have HFZ := Lib.hid hfz
  have HGM := Lib.hid (And.intro hglt (And.intro hmlt hmg))
  clear hLK lk hA earr hb3 hbel htr hk hf hglt hmlt hmg hws hfit hsr hsum hnone hdone hfz hl8
  go_enter Tryd.func21, Tryd.ntmps21
  go_upto_region 1 with (fail)
  generalize w.alloc (.cells LK.toArray 28) = w1 at HB3 HBEL ⊢
  obtain ⟨Bk, hBk⟩ : ∃ B, B = w.heap.size := ⟨_, rfl⟩
  rw [← hBk] at HB3
  rw [← hBk]
  have EBK := Lib.hid hBk
  clear hBk
  have hS : ∀ v, Below w1.heap.size w1 v → (v.cell? ⟨g, 8484, none⟩ = some (.map (some m)) ∧ v.rangeAt Bk 0 LK ∧ (Instr.lookup 109 (.map (some m)) (.agg LK.toArray) true).run Tryd.prog v = .ok (.tuple #[.agg #[.slice a0 n0 c0, .int .u64 (ws : Int)], .bool kn]) v) := fun v h2 =>
    ⟨(HA.out.gl v (HBEL.out.trans (h2.mono HBEL.out.size))).1, (HB3.out.below h2 HB3.out.lt).row0, HA.out.lk v (HBEL.out.trans (h2.mono HBEL.out.size))⟩
  have hS5 := hS w1.drew (Below.refl _ _).drew
  have hal : Below w1.heap.size w1 (w1.alloc (.cells #[.slice none 0 0, .int .u64 0] 32)).drew := ((Below.refl _ _).drew).alloc (Nat.le_refl _) _
  have hSa9 := hS _ hal
  have hnew : Has (w1.alloc (.cells #[.slice none 0 0, .int .u64 0] 32)).drew w1.heap.size 32 #[.slice none 0 0, .int .u64 0] := Has.new w1.drew _ _
  obtain ⟨p1, p2⟩ := row_set (L := [Value.slice a0 n0 c0, .int .u64 (ws : Int)]) hnew rfl
  have hal2 : Below w1.heap.size w1 ((w1.alloc (.cells #[.slice none 0 0, .int .u64 0] 32)).drew.setCells w1.heap.size 0 [Value.slice a0 n0 c0, .int .u64 (ws : Int)]) := hal.trans (p2.below hal.size (fun k e => by have e' : k = w1.heap.size := e; omega))
  have hS5b := hS _ hal2
  have HTH5 := Lib.hid (hnew.there 0 2 (by decide))
  have HP1 := Lib.hid p1
  have HAL2 := Lib.hid hal2
  clear hS hal hnew p1 p2 hal2
  go_upto_region 3 with (fail)
  refine wp_region_noPanic ?_
  refine wp_region_held_drew (S := fun w' => w'.cell? ⟨g, 8484, none⟩ = some (.map (some m)) ∧ w'.rangeAt Bk 0 LK ∧ (Instr.lookup 109 (.map (some m)) (.agg LK.toArray) true).run Tryd.prog w' = .ok (.tuple #[.agg #[.slice a0 n0 c0, .int .u64 (ws : Int)], .bool kn]) w') (by kernel_rfl) hS5 (fun hH0 => ?_)
  refine wpAnyH_take (i := 0) (v := (.pointer (some ⟨g, 0, none⟩))) rfl (by kernel_rfl) (by kernel_rfl) (by kernel_rfl) (fun _ _ _ h => h) (Or.inl ⟨by kernel_rfl, by intro w' hS; obtain ⟨e0, e1, e2⟩ := hS; go_simp⟩) hH0 ?_
  simp only [Act.put, List.getElem_toArray, List.getElem_cons_zero, List.getElem_cons_succ, List.setIfInBounds_toArray, List.set_cons_zero, List.set_cons_succ]
  refine wpAnyH_take (i := 1) (v := (.pointer (some ⟨g, 0, none⟩))) rfl (by kernel_rfl) (by kernel_rfl) (by kernel_rfl) (fun _ _ _ h => h) (Or.inl ⟨by kernel_rfl, by intro w' hS; obtain ⟨e0, e1, e2⟩ := hS; go_simp⟩) hH0 ?_
  simp only [Act.put, List.getElem_toArray, List.getElem_cons_zero, List.getElem_cons_succ, List.setIfInBounds_toArray, List.set_cons_zero, List.set_cons_succ]
  refine wpAnyH_take (i := 2) (v := (.pointer (some ⟨g, 8484, none⟩))) rfl (by kernel_rfl) (by kernel_rfl) (by kernel_rfl) (fun _ _ _ h => h) (Or.inl ⟨by kernel_rfl, by intro w' hS; obtain ⟨e0, e1, e2⟩ := hS; go_simp⟩) hH0 ?_
  simp only [Act.put, List.getElem_toArray, List.getElem_cons_zero, List.getElem_cons_succ, List.setIfInBounds_toArray, List.set_cons_zero, List.set_cons_succ]
  refine wpAnyH_take (i := 3) (v := (.map (some m))) rfl (by kernel_rfl) (by kernel_rfl) (by kernel_rfl) (fun _ _ _ h => h) (Or.inl ⟨by kernel_rfl, by intro w' hS; obtain ⟨e0, e1, e2⟩ := hS; go_simp⟩) hH0 ?_
  simp only [Act.put, List.getElem_toArray, List.getElem_cons_zero, List.getElem_cons_succ, List.setIfInBounds_toArray, List.set_cons_zero, List.set_cons_succ]
  refine wpAnyH_take (i := 4) (v := (.agg LK.toArray)) rfl (by kernel_rfl) (by kernel_rfl) (by kernel_rfl) (fun _ _ _ h => h) (yieldsIf_load_mid (by kernel_rfl) 28 (.tmp 3) rfl Bk 0 rfl LK _ (fun w' h => h.2.1) Tryd.underlying28 rfl SZK.out) hH0 ?_
  simp only [Act.put, List.getElem_toArray, List.getElem_cons_zero, List.getElem_cons_succ, List.setIfInBounds_toArray, List.set_cons_zero, List.set_cons_succ]
  refine wpAnyH_take (i := 5) (v := (.tuple #[.agg #[.slice a0 n0 c0, .int .u64 (ws : Int)], .bool kn])) rfl (by kernel_rfl) (by kernel_rfl) (by kernel_rfl) (fun _ _ _ h => h) (Or.inl ⟨by kernel_rfl, by intro w' hS; obtain ⟨e0, e1, e2⟩ := hS; go_simp⟩) hH0 ?_
  simp only [Act.put, List.getElem_toArray, List.getElem_cons_zero, List.getElem_cons_succ, List.setIfInBounds_toArray, List.set_cons_zero, List.set_cons_succ]
  refine wpAnyH_take (i := 6) (v := (.tuple #[.agg #[.slice a0 n0 c0, .int .u64 (ws : Int)], .bool kn])) rfl (by kernel_rfl) (by kernel_rfl) (by kernel_rfl) (fun _ _ _ h => h) (Or.inl ⟨by kernel_rfl, by intro w' hS; obtain ⟨e0, e1, e2⟩ := hS; go_simp⟩) hH0 ?_
  simp only [Act.put, List.getElem_toArray, List.getElem_cons_zero, List.getElem_cons_succ, List.setIfInBounds_toArray, List.set_cons_zero, List.set_cons_succ]
  refine wpAnyH_take (i := 7) (v := (.agg #[.slice a0 n0 c0, .int .u64 (ws : Int)])) rfl (by kernel_rfl) (by kernel_rfl) (by kernel_rfl) (fun _ _ _ h => h) (Or.inl ⟨by kernel_rfl, by intro w' hS; obtain ⟨e0, e1, e2⟩ := hS; go_simp⟩) hH0 ?_
  simp only [Act.put, List.getElem_toArray, List.getElem_cons_zero, List.getElem_cons_succ, List.setIfInBounds_toArray, List.set_cons_zero, List.set_cons_succ]
  refine wpAnyH_take (i := 8) (v := (.bool kn)) rfl (by kernel_rfl) (by kernel_rfl) (by kernel_rfl) (fun _ _ _ h => h) (Or.inl ⟨by kernel_rfl, by intro w' hS; obtain ⟨e0, e1, e2⟩ := hS; go_simp⟩) hH0 ?_
  simp only [Act.put, List.getElem_toArray, List.getElem_cons_zero, List.getElem_cons_succ, List.setIfInBounds_toArray, List.set_cons_zero, List.set_cons_succ]
  refine wpAnyH_ready (rs := [9]) (by kernel_rfl) (by simp) ?_
  refine AllReadyH.cons rfl (fun K hK => ?_) AllReadyH.nil
  go_simp
  refine Shut.out hK _ _ hSa9 (fun hH1 => ?_)
  clear hK K
  try simp only [Act.put, List.getElem_toArray, List.getElem_cons_zero, List.getElem_cons_succ, List.setIfInBounds_toArray, List.set_cons_zero, List.set_cons_succ]
  refine wpAnyH_ready (rs := [10]) (by kernel_rfl) (by simp) ?_
  refine AllReadyH.cons rfl (fun K hK => ?_) AllReadyH.nil
  refine step_store_mid rfl 32 (.tmp 5) (.tmp 16) rfl w1.heap.size 0 #[.slice a0 n0 c0, .int .u64 (ws : Int)] rfl rfl HTH5.out SZL.out ONEL.out ?_
  refine Shut.out hK _ _ hS5b (fun hH2 => ?_)
  clear hK K
  try simp only [Act.put, List.getElem_toArray, List.getElem_cons_zero, List.getElem_cons_succ, List.setIfInBounds_toArray, List.set_cons_zero, List.set_cons_succ]
  refine wpAnyH_take (i := 11) (v := (.bool kn)) rfl (by kernel_rfl) (by kernel_rfl) (by kernel_rfl) (fun _ _ _ h => h) (Or.inl ⟨by kernel_rfl, by intro w' hS; obtain ⟨e0, e1, e2⟩ := hS; go_simp⟩) hH2 ?_
  simp only [Act.put, List.getElem_toArray, List.getElem_cons_zero, List.getElem_cons_succ, List.setIfInBounds_toArray, List.set_cons_zero, List.set_cons_succ]
  refine wpAnyH_done (by kernel_rfl) ?_ _
  refine NoPanic.normal ?_
  clear hH0 hH1 hH2 hS5 hSa9 hS5b
  have hb32 := HB3.out.below HAL2.out HB3.out.lt
  generalize (w1.alloc (.cells #[.slice none 0 0, .int .u64 0] 32)).drew.setCells w1.heap.size 0 [Value.slice a0 n0 c0, .int .u64 (ws : Int)] = W2 at HP1 HAL2 hb32 ⊢
  obtain ⟨B7, hB7⟩ : ∃ B, B = w1.heap.size := ⟨_, rfl⟩
  rw [← hB7] at HP1 ⊢
  have HB32 := Lib.hid hb32
  have HBE2 := Lib.hid (HBEL.out.trans (HAL2.out.mono HBEL.out.size))
  have HLB := Lib.hid (show Bk < B7 ∧ w.heap.size ≤ Bk from by have h1 := HB3.out.lt; have h2 := EBK.out; omega)
  clear hb32 hB7 HAL2 HTH5 HB3
  cases kn with
  | false =>
    go_wp2
    go_ret
    exact ⟨rfl, HNONE.out (by first | rfl | trivial) W2 HBE2.out⟩
  | true =>
    obtain ⟨w7, q1, q3, q4, q5⟩ := HDONE.out W2.drew HBE2.out.drew
    obtain ⟨W5, hW5⟩ : ∃ W5, W5 = (W2.setCell ⟨g, 8485, none⟩ (.int .u64 (sr : Int))).drew := ⟨_, rfl⟩
    have q1' : ∀ ty, (Builtin.delete_ #[109, 28] ty #[.map (some m), .agg LK.toArray]).run Tryd.prog W5.drew = .ok (.tuple #[]) w7 := fun ty => by rw [hW5]; exact q1 ty
    have q3' : Kept (· = m) W5 w7 := by rw [hW5]; exact q3
    have k5 : Kept (· = g) W2 W5 := by rw [hW5]; exact ((Kept.refl (· = g) W2).set (p := ⟨g, 8485, none⟩) (.inl rfl) _).drew
    have d85 : W2.cell? ⟨g, 8485, none⟩ = some (.int .u64 (st : Int)) := (HA.out.gl W2 HBE2.out).2
    have d84 : W2.cell? ⟨g, 8484, none⟩ = some (.map (some m)) := (HA.out.gl W2 HBE2.out).1
    have f85 : W2.frozen? ⟨g, 8485, none⟩ = false := HFZ.out W2 HBE2.out
    have d71 : W2.cell? ⟨B7, 1, none⟩ = some (.int .u64 (ws : Int)) := HP1.out.cell_is rfl
    have hgB : B7 ≠ g ∧ Bk ≠ g ∧ Bk ≠ m := by have h1 := HLB.out; have h2 := HGM.out; omega
    have hS9 : W2.drew.cell? ⟨g, 8485, none⟩ = some (.int .u64 (st : Int)) ∧ W2.drew.cell? ⟨B7, 1, none⟩ = some (.int .u64 (ws : Int)) := ⟨d85, d71⟩
    have hS9b : W5.cell? ⟨B7, 1, none⟩ = some (.int .u64 (ws : Int)) := cell_held k5 d71 hgB.1
    have e84 : W5.cell? ⟨g, 8484, none⟩ = some (.map (some m)) := by rw [hW5]; exact (World.cell?_setCell_other _ ⟨g, 8485, none⟩ ⟨g, 8484, none⟩ _ (by simp)).trans d84
    have hr5 := HB32.out.kept k5 hgB.2.1
    have hS6 : W5.drew.cell? ⟨g, 8484, none⟩ = some (.map (some m)) ∧ W5.drew.rangeAt Bk 0 LK := ⟨e84, hr5.drew.row0⟩
    have hS6b : w7.cell? ⟨g, 8484, none⟩ = some (.map (some m)) ∧ w7.rangeAt Bk 0 LK := ⟨cell_held q3' e84 (fun e => HGM.out.2.2 e.symm), (hr5.kept q3' hgB.2.2).row0⟩
    have HFIN := Lib.hid (And.intro q4 q5)
    have EW5 := Lib.hid hW5
    have HQ1 := Lib.hid q1'
    clear q1 q1' q3 q3' q4 q5 k5 d84 hgB hr5 e84 hW5
    go_upto_region 5 with (fail)
    go_region
    rw [← EW5.out]
    clear hS9 hS9b d85 f85 d71
    go_upto_region 6 with (fail)
    have hq1 := HQ1.out
    refine wp_region_noPanic ?_
    refine wp_region_held_drew (S := fun w' => w'.cell? ⟨g, 8484, none⟩ = some (.map (some m)) ∧ w'.rangeAt Bk 0 LK) (by kernel_rfl) hS6 (fun hH0 => ?_)
    refine wpAnyH_take (i := 0) (v := (.pointer (some ⟨g, 0, none⟩))) rfl (by kernel_rfl) (by kernel_rfl) (by kernel_rfl) (fun _ _ _ h => h) (Or.inl ⟨by kernel_rfl, by intro w' hS; obtain ⟨e0, e1⟩ := hS; go_simp⟩) hH0 ?_
    simp only [Act.put, List.getElem_toArray, List.getElem_cons_zero, List.getElem_cons_succ, List.setIfInBounds_toArray, List.set_cons_zero, List.set_cons_succ]
    refine wpAnyH_take (i := 1) (v := (.pointer (some ⟨g, 0, none⟩))) rfl (by kernel_rfl) (by kernel_rfl) (by kernel_rfl) (fun _ _ _ h => h) (Or.inl ⟨by kernel_rfl, by intro w' hS; obtain ⟨e0, e1⟩ := hS; go_simp⟩) hH0 ?_
    simp only [Act.put, List.getElem_toArray, List.getElem_cons_zero, List.getElem_cons_succ, List.setIfInBounds_toArray, List.set_cons_zero, List.set_cons_succ]
    refine wpAnyH_take (i := 2) (v := (.pointer (some ⟨g, 8484, none⟩))) rfl (by kernel_rfl) (by kernel_rfl) (by kernel_rfl) (fun _ _ _ h => h) (Or.inl ⟨by kernel_rfl, by intro w' hS; obtain ⟨e0, e1⟩ := hS; go_simp⟩) hH0 ?_
    simp only [Act.put, List.getElem_toArray, List.getElem_cons_zero, List.getElem_cons_succ, List.setIfInBounds_toArray, List.set_cons_zero, List.set_cons_succ]
    refine wpAnyH_take (i := 3) (v := (.map (some m))) rfl (by kernel_rfl) (by kernel_rfl) (by kernel_rfl) (fun _ _ _ h => h) (Or.inl ⟨by kernel_rfl, by intro w' hS; obtain ⟨e0, e1⟩ := hS; go_simp⟩) hH0 ?_
    simp only [Act.put, List.getElem_toArray, List.getElem_cons_zero, List.getElem_cons_succ, List.setIfInBounds_toArray, List.set_cons_zero, List.set_cons_succ]
    refine wpAnyH_take (i := 4) (v := (.agg LK.toArray)) rfl (by kernel_rfl) (by kernel_rfl) (by kernel_rfl) (fun _ _ _ h => h) (yieldsIf_load_mid (by kernel_rfl) 28 (.tmp 3) rfl Bk 0 rfl LK _ (fun w' h => h.2) Tryd.underlying28 rfl SZK.out) hH0 ?_
    simp only [Act.put, List.getElem_toArray, List.getElem_cons_zero, List.getElem_cons_succ, List.setIfInBounds_toArray, List.set_cons_zero, List.set_cons_succ]
    refine wpAnyH_ready (rs := [5]) (by kernel_rfl) (by simp) ?_
    refine AllReadyH.cons rfl (fun K hK => ?_) AllReadyH.nil
    go_simp
    refine Shut.out hK _ _ hS6b (fun hH1 => ?_)
    clear hK K
    try simp only [Act.put, List.getElem_toArray, List.getElem_cons_zero, List.getElem_cons_succ, List.setIfInBounds_toArray, List.set_cons_zero, List.set_cons_succ]
    refine wpAnyH_done (by kernel_rfl) ?_ _
    refine NoPanic.normal ?_
    clear hS6 hS6b hq1
    go_wp2
    go_ret
    exact ⟨rfl, HFIN.out⟩
end
end Go.Proofs.YtngmpcmeebcdmaaDoor
