/- What holds between the steps of BookRuns, and inside a step. -/
import Derived.Test.YtcekammjpghjnaaDoorWs
import Derived.Test.YtcekammjpghjnaaDoorURg16
import Derived.Test.YtcekammjpghjnaaDoorUBook18
import Derived.Test.YtcekammjpghjnaaDoorUBook21
import Derived.Test.YtcekammjpghjnaaDoorUNum7
namespace Go.Proofs.YtcekammjpghjnaaDoor
set_option linter.unusedVariables false
set_option linter.unusedSimpArgs false
open Go.ChangeShapes Go.WideShapes Go.ChangeAt Go.RowKit Go.Maps

structure RunIs (N : Nat) (w0 : World) (g B6 B7 : Nat) (b : Bk) (ids : List (List Nat)) (v8 : Value) (w : World) : Prop where
 live : Lv (fun k => N ≤ k) w g b
 tidy : Tidy b
 small : Small b ids.length
 ref : ∃ L r, Has w B6 31 L.toArray ∧ RbAt w L r ∧ Like b r
 tab : Has w B7 36 tabL.toArray
 row : w.ownsRow N 39 32 v8 ids.length (ids.flatMap bcells)
 hash : ∀ i ∈ ids, IsHash i
 below : Below N w0 w
 six : N ≤ B6
 ne : B6 ≠ B7
theorem RunIs.quiet {N : Nat} {w0 : World} {g B6 B7 : Nat} {b : Bk} {ids : List (List Nat)} {v8 : Value} {w w' : World} (h : RunIs N w0 g B6 B7 b ids v8 w) (hb : Below w.heap.size w w') : RunIs N w0 g B6 B7 b ids v8 w' := by
 obtain ⟨L, r, h1, h2, h3⟩ := h.ref
 exact ⟨h.live.quiet hb, h.tidy, h.small, ⟨L, r, h1.below hb h1.lt, h2.below hb, h3⟩, h.tab.below hb h.tab.lt, own_kept h.row (Kept.of_below (S := fun _ => False) hb) (fun _ _ e => e), h.hash, h.below.trans (hb.mono (Nat.le_trans h.six (Nat.le_of_lt h1.lt))), h.six, h.ne⟩
structure MidIs (N : Nat) (w0 : World) (g B6 B7 : Nat) (b : Bk) (r : RB) (ids : List (List Nat)) (v8 : Value) (w : World) : Prop where
 live : Lv (fun k => N ≤ k) w g b
 tidy : Tidy b
 ref : ∃ L, Has w B6 31 L.toArray ∧ RbAt w L r
 tab : Has w B7 36 tabL.toArray
 row : w.ownsRow N 39 32 v8 ids.length (ids.flatMap bcells)
 hash : ∀ i ∈ ids, IsHash i
 below : Below N w0 w
 six : N ≤ B6
 ne : B6 ≠ B7
theorem RunIs.mid {N : Nat} {w0 : World} {g B6 B7 : Nat} {b : Bk} {ids : List (List Nat)} {v8 : Value} {w : World} (h : RunIs N w0 g B6 B7 b ids v8 w) : ∃ r, Like b r ∧ MidIs N w0 g B6 B7 b r ids v8 w := by
 obtain ⟨L, r, h1, h2, h3⟩ := h.ref
 exact ⟨r, h3, h.live, h.tidy, ⟨L, h1, h2⟩, h.tab, h.row, h.hash, h.below, h.six, h.ne⟩
variable {N : Nat} {w0 : World} {g B6 B7 : Nat} {b : Bk} {r : RB} {ids : List (List Nat)} {v8 : Value} {w : World}
theorem MidIs.run (h : MidIs N w0 g B6 B7 b r ids v8 w) (hl : Like b r) (hs : Small b ids.length) : RunIs N w0 g B6 B7 b ids v8 w := by
 obtain ⟨L, h1, h2⟩ := h.ref
 exact ⟨h.live, h.tidy, hs, ⟨L, r, h1, h2, hl⟩, h.tab, h.row, h.hash, h.below, h.six, h.ne⟩
theorem MidIs.quiet {w' : World} (h : MidIs N w0 g B6 B7 b r ids v8 w) (hb : Below w.heap.size w w') : MidIs N w0 g B6 B7 b r ids v8 w' := by
 obtain ⟨L, h1, h2⟩ := h.ref
 exact ⟨h.live.quiet hb, h.tidy, ⟨L, h1.below hb h1.lt, h2.below hb⟩, h.tab.below hb h.tab.lt, own_kept h.row (Kept.of_below (S := fun _ => False) hb) (fun _ _ e => e), h.hash, h.below.trans (hb.mono (Nat.le_trans h.six (Nat.le_of_lt h1.lt))), h.six, h.ne⟩
theorem MidIs.lv (h : MidIs N w0 g B6 B7 b r ids v8 w) {S : Nat → Prop} {w' : World} (hk : Kept S w w') (h1 : ∀ j cs, Has w j 71 cs → ¬ S j) (h2 : ∀ j cs, Has w j 42 cs → ¬ S j) (h3 : ∀ j, S j → ∃ t cs, Has w j t cs) : Lv (fun k => N ≤ k) w' g b := by
 obtain ⟨m0, m1, v, hat, hset⟩ := h.live
 have hl : Lv (bset g m0 m1 v) w g b := ⟨m0, m1, v, hat, fun k e => e⟩
 refine (hl.kept hk (fun k _ e hs => ?_)).zone (fun k _ e => hset k e)
 rcases e with rfl | rfl | rfl | e
 · exact h1 _ _ hat.obj hs
 · obtain ⟨t, cs, hh⟩ := h3 _ hs
   exact map_not_has hat.map0 hh
 · obtain ⟨t, cs, hh⟩ := h3 _ hs
   exact map_not_has hat.map1 hh
 · rcases hat.row.2 with ⟨rfl, _⟩ | ⟨g', cap, cur, rfl, _, hh, _⟩
   · cases e
   · injection e with e
     rw [← e] at hs
     exact h2 _ _ hh hs
theorem RunIs.grow {w' : World} {v8' : Value} {x : List Nat} (h : RunIs N w0 g B6 B7 b ids v8 w) (hg : w.grownBy w' v8.ownBlock) (ho : w'.ownsRow N 39 32 v8' (ids.length + 1) (ids.flatMap bcells ++ [x].flatMap bcells)) (hx : IsHash x) : RunIs N w0 g B6 B7 b (ids ++ [x]) v8' w' := by
 have hk := Kept.of_grown hg
 obtain ⟨L, r, h1, h2, h3⟩ := h.ref
 have hn : ∀ {t : TypeId} {cs : Array Value} {j : Nat}, Has w j t cs → 39 ≠ t → ¬ (some j = v8.ownBlock) := fun hh ht e => own_has_ne h.row hh ht _ e.symm rfl
 have hm : MidIs N w0 g B6 B7 b r ids v8 w := ⟨h.live, h.tidy, ⟨L, h1, h2⟩, h.tab, h.row, h.hash, h.below, h.six, h.ne⟩
 refine ⟨hm.lv hk (fun j cs hh => hn hh (by decide)) (fun j cs hh => hn hh (by decide)) (fun j e => ?_), h.tidy, h.small.more (by simp), ⟨L, r, h1.kept hk (hn h1 (by decide)), h2.far hk (fun j cs hh => ?_), h3⟩, h.tab.kept hk (hn h.tab (by decide)), ?_, fun i hi => ?_, h.below.trans (hk.below (Nat.le_trans h.six (Nat.le_of_lt h1.lt)) (fun j e => own_blk h.row j e.symm)), h.six, h.ne⟩
 · rcases h.row.2 with ⟨rfl, _⟩ | ⟨g', cap, cur, rfl, _, hh, _⟩
   · cases e
   · injection e with e
     exact ⟨_, _, by rw [e]; exact hh⟩
 · rcases hh with hh | hh
   · exact hn hh (by decide)
   · exact hn hh (by decide)
 · rw [List.flatMap_append, List.length_append, List.length_singleton]; exact ho
 · rcases List.mem_append.1 hi with hi | hi
   · exact h.hash i hi
   · rw [List.mem_singleton.1 hi]; exact hx
theorem MidIs.store {v : World} {L' : List Value} {r' : RB} (h : MidIs N w0 g B6 B7 b r ids v8 w) (hb : Below w.heap.size w v) (hr : RbAt v L' r') : MidIs N w0 g B6 B7 b r' ids v8 (v.setRow B6 L'.toArray) := by
 have hv := h.quiet hb
 obtain ⟨L, h1, h2⟩ := hv.ref
 have hk : Kept (fun j => j = B6) v (v.setRow B6 L'.toArray) := kept_setRow _ _
 refine ⟨hv.lv hk (fun j cs hh e => hh.ne h1 (by decide) e) (fun j cs hh e => hh.ne h1 (by decide) e) (fun j e => by have e' : j = B6 := e; subst e'; exact ⟨_, _, h1⟩), hv.tidy, ⟨L', h1.setRow, rb_far1 h1 hk hr⟩, hv.tab.kept hk (fun e => hv.ne e.symm), own_kept hv.row hk (fun j e1 e2 => own_has_ne hv.row h1 (by decide) j e1 e2), hv.hash, hv.below.trans (hk.below (Nat.le_trans hv.six (Nat.le_of_lt h1.lt)) (fun j e => by rw [show j = B6 from e]; exact hv.six)), hv.six, hv.ne⟩
theorem MidIs.size (h : MidIs N w0 g B6 B7 b r ids v8 w) : N ≤ w.heap.size := by
 obtain ⟨L, h1, h2⟩ := h.ref
 exact Nat.le_trans h.six (Nat.le_of_lt h1.lt)
theorem MidIs.calm {w' : World} {b' : Bk} (h : MidIs N w0 g B6 B7 b r ids v8 w) (hc : Calm N w w') (hl : Lv (fun k => N ≤ k) w' g b') (ht : Tidy b') : MidIs N w0 g B6 B7 b' r ids v8 w' := by
 obtain ⟨L, h1, h2⟩ := h.ref
 exact ⟨hl, ht, ⟨L, hc.has h1 (by decide) (by decide), hc.rb h2⟩, hc.has h.tab (by decide) (by decide), hc.own h.row (by decide) (by decide), h.hash, h.below.trans (hc.below h.size), h.six, h.ne⟩
theorem stp_box {w w' : World} {G : Nat} {s : Stp} {v8 : Value} {n : Nat} {xs : List Value} (h : Has w G 44 s.cells.toArray) (ho : w.ownsRow N 39 32 v8 n xs) (hg : w.grownBy w' v8.ownBlock) : Has w' G 44 s.cells.toArray :=
 h.grown hg (fun e => own_has_ne ho h (by decide) _ e.symm rfl)
theorem stp_set {w : World} {G B6 : Nat} {s : Stp} {Z C : Array Value} (h : Has w G 44 s.cells.toArray) (h6 : Has w B6 31 Z) : Has (w.setRow B6 C) G 44 s.cells.toArray :=
 h.kept (kept_setRow (g := B6) w C) (fun e => h.ne h6 (by decide) e)
theorem ids_last (b o m d : Nat) (hd : m + 1 ≤ d) (v : World) : (Instr.slice 40 (.slice (some ⟨b, o, none⟩) (m + 1) d) (some (.int .i64 (m : Int))) none none).run Tryd.prog v = .ok (.slice (some ⟨b, o + m * 32, none⟩) 1 (d - m)) v := by
 have hu : Tryd.prog.underlying 40 = some (.slice (Tryd.prog.elem 40)) := by kernel_rfl
 have he : Tryd.prog.elem 40 = 39 := by kernel_rfl
 have hz : ∀ w, (sizeOf 39).run Tryd.prog w = .ok 32 w := fun w => by kernel_rfl
 rw [run_slice_l v 40 _ (m + 1) d hu .i64 (m : Int) (by omega) (by omega), he, hz]
 simp only [Result.andThen, sliced, Int.toNat_natCast]
 rw [if_neg (by omega), Option.map_some, Addr.add_mid, show m + 1 - m = 1 by omega]
theorem ids_at {ids : List (List Nat)} {x : List Nat} {oa : Option Addr} {n oc : Nat} (h : w.ownsRow N 39 32 (.slice oa (n + 1) oc) (ids ++ [x]).length ((ids ++ [x]).flatMap bcells)) (hn : ids.length = n) (hh : ∀ i ∈ ids ++ [x], IsHash i) :
  ∃ q, oa = some ⟨q, 0, none⟩ ∧ n + 1 ≤ oc ∧ RowsAt bcells 32 w (some ⟨q, 0, none⟩) (n + 1) (ids ++ [x]) ∧ RowsAt bcells 32 w (some ⟨q, 0 + n * 32, none⟩) 1 [x] := by
 have e : (ids ++ [x]).length = n + 1 := by simp [hn]
 rw [e] at h
 obtain ⟨q, cap, cur, e1, -, hhas, hc, -⟩ := own_open h (by omega)
 injection e1 with e2 e3 e4
 subst e2 e4
 obtain ⟨hr, -⟩ := own_rows h e (fun i hi => by rw [bcells_length, (hh i hi).1])
 refine ⟨q, rfl, hc, hr, rfl, fun y hy => by rw [List.mem_singleton.1 hy, bcells_length, (hh x (by simp)).1], fun _ => ⟨q, _, rfl, hhas.lt, fun i y hy => ?_⟩⟩
 obtain ⟨b2, o2, e5, hb, hrr⟩ := hr.at_ (by omega)
 injection e5 with e5
 injection e5 with e6 e7
 subst e6 e7
 have hi : i = 0 := by
  have := (List.getElem?_eq_some_iff.1 hy).1
  simpa using this
 subst hi
 have := hrr n x (by rw [List.getElem?_append_right (by omega), hn, Nat.sub_self]; rfl)
 have hy' : y = x := by simpa using hy.symm
 rw [hy', Nat.zero_mul, Nat.add_zero]
 exact this
theorem yieldsIf_sliceL {P : Program} {ops : Array Oper} {S : World → Prop} {op : Oper} {a : Act} (hw : Region.wanted op (yielded ops a.tmps) = true) (t : TypeId) (x y : Operand) (ho : op.op = .slice t x (some y) none none) (ht : P.underlying t = some (.slice (P.elem t)))
  (u k : Value) (hx : a.eval x = u) (hy : a.eval y = k) (v : Value) (hrun : ∀ w, S w → (Instr.slice t u (some k) none none).run P w = .ok v w) : YieldsIf P ops S op v a :=
 .inl ⟨hw, fun w hw' => by
  unfold execOp
  simp only [ho, hx, hy, Option.map_some, Option.map_none, Sem.run_bind, run_sliceAt_slice _ t u (some k) none none ht, hrun w hw', Result.andThen_ok, Sem.run_pure]⟩
theorem tabL_length : tabL.length = 72 := by rw [tab_words]; exact tabs_length KS SS rfl rfl
theorem build_rb0 (k0 k1 : Nat) (w : World) : (Instr.build 31 #[(2, .agg #[.int .u64 (k0 : Int), .int .u64 (k1 : Int)])]).run Tryd.prog w = .ok (.agg #[.slice none 0 0, .slice none 0 0, .int .u64 (k0 : Int), .int .u64 (k1 : Int)]) w := by kernel_rfl
theorem zero_tabs : ∃ Z : Array Value, (∀ w, (zeroValue 36).run Tryd.prog w = .ok (.agg Z) w) ∧ Z.size = 72 ∧ ¬ Z = #[] := by
 obtain ⟨Z, h1, h2, h3, h4, h5, h6⟩ := zero_tab
 exact ⟨Z, h2, h3, h4⟩
theorem build_h0 (w : World) : (Instr.build 39 #[]).run Tryd.prog w = .ok (.agg (bcells (List.replicate 32 0)).toArray) w := by kernel_rfl
theorem build_off0 : ∃ Z, ∀ w, (Instr.build 42 #[]).run Tryd.prog w = .ok (.agg Z) w := ⟨(Off.cells ⟨0, 0, List.replicate 32 0, 0, List.replicate 32 0, 0⟩).toArray, fun w => by kernel_rfl⟩
theorem info_h32 : (Tryd.prog.info? 39).map (fun i => (i.zero, i.size, i.bytes)) = some (some (.agg (bcells (List.replicate 32 0)).toArray), 32, 32) := by kernel_rfl
theorem rb0_at (w : World) (k0 k1 : Nat) : RbAt w [.slice none 0 0, .slice none 0 0, .int .u64 (k0 : Int), .int .u64 (k1 : Int)] ⟨[], [], k0, k1⟩ :=
 ⟨⟨none, 0, 0, none, 0, 0, rfl, ⟨⟨rfl, fun x hx => (by cases hx), fun h => absurd h (by decide)⟩, fun h => absurd h (by decide)⟩, ⟨⟨rfl, fun x hx => (by cases hx), fun h => absurd h (by decide)⟩, fun h => absurd h (by decide)⟩, Nat.le_refl _, by decide, by decide⟩, fun h hh => (by cases hh), fun h hh => (by cases hh)⟩
end Go.Proofs.YtcekammjpghjnaaDoor

