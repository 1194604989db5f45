/- The walk of Read where nothing waits. -/
import Derived.RangeFuncFrom
import Derived.RangeFuncNested
import Derived.RangeFuncBound
import Derived.RangeFuncCalls
import Derived.RangeFuncLeaves
import Derived.OwnWalkIn
import Derived.TacticsInMore
import Derived.LoopNIn
import Derived.LoopIn
import Derived.Shelf.Abstract
import Derived.Shelf.AbstractIn
import Derived.Test.YtcpomddkehhkkaaDisk6
namespace Go.Proofs.Ytcpomddkehhkkaa
open Go.ChangeShapes Go.WideShapes Go.ChangeAt Go.RowKit Go.Shelf
attribute [local go_sem] Oper.semAt_some

def noEncs : Empty → Array Value := Empty.elim

set_option maxRecDepth 100000 in
set_option maxHeartbeats 1000000 in
/-- the iterator over nothing: it never asks for a round. -/
theorem back1_nil (n : Nat) (l Bm : Nat) (J : List Empty → World → Prop) (W : World) (hm : W.cell? ⟨Bm, 0, none⟩ = some (.slice none 0 0)) (h0 : J [] W) :
    CallsIn Fence.wide n Try.prog 22 #[.func (.yield l) #[] #[], .pointer (some ⟨Bm, 0, none⟩)] W fun e W' => (∃ v, e = .returned v) ∧ J [] W' := by
  refine callsIn_of_wp Try.func22 rfl trivial ?_ rfl
  simp only [Try.ntmps22, List.size_toArray, List.length_cons, List.length_nil, Nat.reduceAdd, Nat.reduceSub, Array.replicate_succ, Array.replicate_zero, List.push_toArray, List.append_toArray, List.nil_append, List.cons_append]
  have H0 := Lib.hid h0
  clear h0
  gi_wp2
  refine wpIn_loop_rounds 1 ?_
  rw [roundsIn_succ]
  gi_wp2
  go_end0
  exact ⟨⟨_, rfl⟩, H0.out⟩

theorem back_nil (n : Nat) (Bm n₀ : Nat) (w : World) (hBm : Bm < w.heap.size) (hm : w.cell? ⟨Bm, 0, none⟩ = some (.slice none 0 0)) :
    SeqStopsK Fence.wide n Try.prog 22 #[.pointer (some ⟨Bm, 0, none⟩)] noEncs (Below n₀) (fun _ => True) (fun _ => False) 0 w := fun l J _ W hW _ _ _ h0 =>
  (back1_nil n l Bm J W ((hW.cell (p := ⟨Bm, 0, none⟩) hBm).trans hm) h0).mono fun _ _ ⟨he, hj⟩ => ⟨he, .inl ⟨[], trivial, hj⟩⟩

theorem cell3 {w : World} {b o : Nat} {v : Value} (h : w.cell? ⟨b, o, none⟩ = some v) (o1 o2 o3 : Obj) : (((w.alloc o1).alloc o2).alloc o3).cell? ⟨b, o, none⟩ = some v := by
  have h1 := World.block_lt_of_cell? w _ h
  simp only at h1
  rw [World.cell?_alloc_lt _ _ _ (by simp; omega), World.cell?_alloc_lt _ _ _ (by simp; omega), World.cell?_alloc_lt _ _ _ h1]; exact h

theorem backward_nil (w : World) : Calls Try.prog 21 #[.slice none 0 0] w fun e w' => e = .returned (.func (.func 22) #[] #[.pointer (some ⟨w.heap.size, 0, none⟩)]) ∧ w' = w.alloc (.cells #[.slice none 0 0] 47) := by
  go_enter Try.func21, Try.ntmps21
  go_wp2
  go_ret
  exact ⟨rfl, rfl⟩

theorem below_drawN {B : Nat} {a w : World} (h : Below B a w) (n : Nat) : Below B a (w.drewN n) := ⟨h.os, h.tape, h.output, h.size, h.block⟩

theorem read_after {W w2 : World} {a0 a1 a2 : Addr} {b1 b2 : Nat} {v0 v1 v2 u1 u2 : Value} {t1 t2 : TypeId} (hb : Below W.drew.heap.size W.drew w2) (h0 : W.cell? a0 = some v0) (h1 : W.cell? a1 = some v1) (h2 : W.cell? a2 = some v2)
    (r1 : Has W b1 t1 #[u1]) (r2 : Has W b2 t2 #[u2]) :
    w2.cell? a0 = some v0 ∧ w2.cell? a1 = some v1 ∧ w2.cell? a2 = some v2 ∧ w2.cell? ⟨b1, 0, none⟩ = some u1 ∧ w2.cell? ⟨b2, 0, none⟩ = some u2 ∧ w2.frozen? ⟨b1, 0, none⟩ = false ∧ w2.frozen? ⟨b2, 0, none⟩ = false := by
  have hb := below_undrew hb
  have x1 := Has.below r1 hb r1.lt
  have x2 := Has.below r2 hb r2.lt
  exact ⟨(hb.cell (World.block_lt_of_cell? W _ h0)).trans h0, (hb.cell (World.block_lt_of_cell? W _ h1)).trans h1, (hb.cell (World.block_lt_of_cell? W _ h2)).trans h2, x1.cell_is rfl, x2.cell_is rfl, x1.free 0, x2.free 0⟩

theorem read_close {w W0 W w2 : World} {B D g2 cap2 b1 b2 : Nat} {bx : List Nat} {t1 t2 : TypeId} {u1 u2 : Value} (hs : B + 4 ≤ W0.heap.size) (h0 : Below w.heap.size w W0) (h1 : Below W0.heap.size W0 W) (hB : B = w.heap.size) (h2 : Below W.heap.size W w2)
    (hown : w2.ownsRow W.heap.size 5 1 (.slice (some ⟨g2, 0, none⟩) 64 cap2) 64 (bcells bx)) (r1 : Has w2 b1 t1 #[u1]) (r2 : Has w2 b2 t2 #[u2]) (hD : w2.heap[D]? = some (.deferred (some []))) (hb : B + 1 ≤ b1 ∧ B + 1 ≤ b2 ∧ b1 < W.heap.size ∧ b2 < W.heap.size ∧ b1 ≠ b2 ∧ B ≤ D)
    (hd1 : D ≠ b1) (hd2 : D ≠ b2) :
    ((w2.setCell ⟨b1, 0, none⟩ (.slice (some ⟨g2, 0, none⟩) 64 cap2)).setCell ⟨b2, 0, none⟩ (.int .i64 0)).heap[D]? = some (.deferred (some [])) ∧
    (((w2.setCell ⟨b1, 0, none⟩ (.slice (some ⟨g2, 0, none⟩) 64 cap2)).setCell ⟨b2, 0, none⟩ (.int .i64 0)).putObj D (.deferred none)).cell? ⟨b1, 0, none⟩ = some (.slice (some ⟨g2, 0, none⟩) 64 cap2) ∧
    (((w2.setCell ⟨b1, 0, none⟩ (.slice (some ⟨g2, 0, none⟩) 64 cap2)).setCell ⟨b2, 0, none⟩ (.int .i64 0)).putObj D (.deferred none)).cell? ⟨b2, 0, none⟩ = some (.int .i64 0) ∧
    (((w2.setCell ⟨b1, 0, none⟩ (.slice (some ⟨g2, 0, none⟩) 64 cap2)).setCell ⟨b2, 0, none⟩ (.int .i64 0)).putObj D (.deferred none)).ownsRow w.heap.size 5 1 (.slice (some ⟨g2, 0, none⟩) 64 cap2) 64 (bcells bx) ∧
    Below w.heap.size w (((w2.setCell ⟨b1, 0, none⟩ (.slice (some ⟨g2, 0, none⟩) 64 cap2)).setCell ⟨b2, 0, none⟩ (.int .i64 0)).putObj D (.deferred none)) := by
  obtain ⟨hb1, hb2, hb3, hb4, hb5, hb6⟩ := hb
  subst hB
  have hg2 := (hown.lt g2 rfl).1
  have x1 : Has (w2.setCell ⟨b1, 0, none⟩ (.slice (some ⟨g2, 0, none⟩) 64 cap2)) b1 t1 #[.slice (some ⟨g2, 0, none⟩) 64 cap2] := Has.set r1 0 _
  have x2 := Has.far r2 (p := ⟨b1, 0, none⟩) (fun e => hb5 e.symm) (.slice (some ⟨g2, 0, none⟩) 64 cap2)
  have y1 := Has.far x1 (p := ⟨b2, 0, none⟩) hb5 (.int .i64 0)
  have y2 : Has ((w2.setCell ⟨b1, 0, none⟩ (.slice (some ⟨g2, 0, none⟩) 64 cap2)).setCell ⟨b2, 0, none⟩ (.int .i64 0)) b2 t2 #[.int .i64 0] := Has.set x2 0 _
  have hp := grownBy_putObj' ((w2.setCell ⟨b1, 0, none⟩ (.slice (some ⟨g2, 0, none⟩) 64 cap2)).setCell ⟨b2, 0, none⟩ (.int .i64 0)) D (.deferred none)
  have kk : Kept (fun k => k = b1 ∨ k = b2) w2 ((w2.setCell ⟨b1, 0, none⟩ (.slice (some ⟨g2, 0, none⟩) 64 cap2)).setCell ⟨b2, 0, none⟩ (.int .i64 0)) := ((Kept.refl (fun k => k = b1 ∨ k = b2) _).set (.inl (.inl rfl)) _).set (.inl (.inr rfl)) _
  have hw2 : w.heap.size ≤ W.heap.size := Nat.le_trans h0.size h1.size
  refine ⟨?_, ?_, ?_, ?_, ?_⟩
  · exact (kk.block D (Array.getElem?_eq_some_iff.1 hD).1 (fun e => e.elim hd1 hd2)).trans hD
  · exact (y1.grown hp (fun e => hd1 (Option.some.inj e).symm)).cell_is rfl
  · exact (y2.grown hp (fun e => hd2 (Option.some.inj e).symm)).cell_is rfl
  · refine own_base ((own_kept hown kk (fun k hk e => ?_)).kept hp (.inr ?_)) hw2
    · simp [Value.ownBlock] at hk; omega
    · intro e
      have e2 : g2 = D := by simpa [Value.ownBlock] using e
      rcases hown.2 with ⟨h, _⟩ | ⟨g', _, _, h, _, hh, _⟩
      · cases h
      · simp at h
        rw [← h.1, e2, hD] at hh
        cases hh
  · refine (((h0.trans (h1.mono h0.size)).trans (h2.mono hw2)).trans (kk.below (Nat.le_trans hw2 h2.size) ?_)).grown hp ?_ (fun k e => by cases e; exact hb6)
    · rintro k (rfl | rfl) <;> omega
    · exact Nat.le_trans hw2 (Nat.le_trans h2.size kk.size)

set_option maxRecDepth 100000 in
set_option maxHeartbeats 2000000 in
theorem read_nil (w : World) (g gs cap n gx cx : Nat) (fuse : Int) (at_ : Int) (bx : List Nat)
    (h : DObj w g (.slice (some ⟨gs, 0, none⟩) n cap) (.slice none 0 0) fuse false) (h0 : 0 ≤ at_) (h1 : at_ < n) (hx : w.cell? ⟨gs, at_.toNat, none⟩ = some (.slice (some ⟨gx, 0, none⟩) 64 cx))
    (hl : bx.length = 64) (hb : ∀ j u, (bcells bx)[j]? = some u → w.cell? ((⟨gx, 0, none⟩ : Addr).add j) = some u) :
    CallsIn Fence.wide 3 Try.prog 13 #[.pointer (some ⟨g, 0, none⟩), .int .i64 at_] w fun e w' =>
      ∃ g2 cap2, e = .returned (.tuple #[.slice (some ⟨g2, 0, none⟩) 64 cap2, .int .i64 0]) ∧ (w'.ownsRow w.heap.size 5 1 (.slice (some ⟨g2, 0, none⟩) 64 cap2) 64 (bcells bx) ∧ Below w.heap.size w w') := by
  refine callsIn_of_wp_marks Try.func13 rfl trivial ?_ rfl
  simp only [Try.ntmps13, List.size_toArray, List.length_cons, List.length_nil, Nat.reduceAdd, Nat.reduceSub, Array.replicate_succ, Array.replicate_zero, List.push_toArray, List.append_toArray, List.nil_append, List.cons_append]
  obtain ⟨c0, c1, c2, c3⟩ := h.facts
  have lg := Has.lt h
  have d0 := cell3 c0
  have d1 := cell3 c1
  have d3 := cell3 c3
  have dx := cell3 hx
  have HH := Lib.hid h
  have HL := Lib.hid hl
  have HB := Lib.hid hb
  clear h hl hb
  refine wpIn_wide.2 ?_
  go_wp2_with fail
  go_quiet (fail)
  go_wp2_with fail
  refine (backward_nil _).mono ?_
  rintro e w1 ⟨rfl, rfl⟩
  go_wp2_with fail
  obtain ⟨W0, hW0⟩ : ∃ W0, (((((w.alloc (.cells #[.int .i64 at_] 3)).alloc (.cells #[.slice none 0 0] 32)).alloc (.cells #[.int .i64 0] 30)).drewN nq).alloc (.cells #[.slice none 0 0] 47)) = W0 := ⟨_, rfl⟩
  rw [hW0]
  have hs0 : W0.heap.size = w.heap.size + 4 := by rw [← hW0]; simp
  have hbx : W0.cell? ⟨w.heap.size + 1 + 1 + 1, 0, none⟩ = some (.slice none 0 0) := by
    rw [← hW0]
    have := World.cell?_alloc_new ((((w.alloc (.cells #[.int .i64 at_] 3)).alloc (.cells #[.slice none 0 0] 32)).alloc (.cells #[.int .i64 0] 30)).drewN nq) #[.slice none 0 0] 47 0
    simpa using this
  have hbw0 : Below w.heap.size w W0 := by
    rw [← hW0]
    exact Below.alloc (below_drawN ((((Below.refl _ _).alloc (Nat.le_refl _) _).alloc (by simp) _).alloc (by simp; omega) _) nq) (by simp; omega) _
  have p0 : W0.cell? ⟨w.heap.size, 0, none⟩ = some (.int .i64 at_) := by
    rw [← hW0, World.cell?_alloc_lt _ _ _ (by simp; omega)]
    have := World.cell?_alloc_new w #[.int .i64 at_] 3 0
    rw [← World.cell?_alloc_lt _ (.cells #[.slice none 0 0] 32) _ (by simp), ← World.cell?_alloc_lt _ (.cells #[.int .i64 0] 30) _ (by simp; omega)] at this
    simpa using this
  have p1 : Has W0 (w.heap.size + 1) 32 #[.slice none 0 0] := by
    rw [← hW0]
    refine Has.alloc (Has.drewN (Has.alloc ?_ _) _) _
    have := Has.new (w.alloc (.cells #[.int .i64 at_] 3)) 32 #[.slice none 0 0]
    simpa using this
  have p2 : Has W0 (w.heap.size + 1 + 1) 30 #[.int .i64 0] := by
    rw [← hW0]
    refine Has.alloc (Has.drewN ?_ _) _
    have := Has.new ((w.alloc (.cells #[.int .i64 at_] 3)).alloc (.cells #[.slice none 0 0] 32)) 30 #[.int .i64 0]
    simpa using this
  have q0 : W0.cell? ⟨g, 0, none⟩ = some (.slice (some ⟨gs, 0, none⟩) n cap) := (hbw0.cell (by exact lg)).trans c0
  have q1 : W0.cell? ⟨gs, at_.toNat, none⟩ = some (.slice (some ⟨gx, 0, none⟩) 64 cx) := (hbw0.cell (by exact World.block_lt_of_cell? w _ hx)).trans hx
  have hb0 : ∀ j u, (bcells bx)[j]? = some u → W0.cell? ((⟨gx, 0, none⟩ : Addr).add j) = some u := fun j u hu => (hbw0.cell (World.block_lt_of_cell? w _ (HB.out j u hu))).trans (HB.out j u hu)
  have HW2 : Hid (w.heap.size + 4 ≤ W0.heap.size) := Lib.hid (by omega)
  have HW := Lib.hid hW0
  have HB0 := Lib.hid hb0
  have HP1 := Lib.hid p1
  have HP2 := Lib.hid p2
  have lgs0 : gs < w.heap.size := World.block_lt_of_cell? w _ hx
  have n1 : ¬ g = w.heap.size + 1 := by omega
  have n2 : ¬ g = w.heap.size + 1 + 1 := by omega
  have n3 : ¬ gs = w.heap.size + 1 := by omega
  have n4 : ¬ gs = w.heap.size + 1 + 1 := by omega
  clear hW0 hb0 p1 p2 d0 d1 d3 dx c0 c1 c2 c3 hx
  refine wpIn_wide.1 (wpIn_rangeFunc_ownF (F := Fence.wide) (n := 3) rfl (by decide) (gf := 22) (lb := #[.pointer (some ⟨w.heap.size + 1 + 1 + 1, 0, none⟩)]) rfl trivial (enters_of Try.func22 (by kernel_rfl) rfl)
    (back_nil 2 (w.heap.size + 1 + 1 + 1) W0.heap.size W0 (by omega) hbx) belowK_t (belowK_b (Nat.le_refl _)) (Below.refl _ _) (fun x => x.elim)
    (fun _ W => Below W0.heap.size W0 W) (fun _ _ _ => False) (ownFrom_below (Nat.le_refl _) (Nat.le_refl _)) (fun _ _ _ _ _ hs _ _ => hs) (Below.refl _ _) (fun x => x.elim) (fun _ x => x.elim) (fun _ _ x => x.elim) ?done ?stop)
  case stop =>
    rintro D c pre W _ h _ _
    exact h.elim
  case done =>
    rintro D xs W hD _ hB hK
    have e0 := (hB.cell (p := ⟨g, 0, none⟩) (by show g < _; omega)).trans q0
    have e1 := (hB.cell (p := ⟨w.heap.size, 0, none⟩) (by show w.heap.size < _; omega)).trans p0
    have e2 := (hB.cell (p := ⟨gs, at_.toNat, none⟩) (World.block_lt_of_cell? W0 _ q1)).trans q1
    have hbW : ∀ j u, (bcells bx)[j]? = some u → W.cell? ((⟨gx, 0, none⟩ : Addr).add j) = some u := fun j u hu => (hB.cell (World.block_lt_of_cell? W0 _ (HB0.out j u hu))).trans (HB0.out j u hu)
    have r1 := Has.below HP1.out hB (by omega)
    have r2 := Has.below HP2.out hB (by omega)
    have HR1 := Lib.hid r1
    have HR2 := Lib.hid r2
    have HBW := Lib.hid hbW
    have HK := Lib.hid hK
    have lgs := World.block_lt_of_cell? W0 _ q1
    have hsW := hB.size
    clear r1 r2 hbW hK q0 q1 p0
    go_wp2_with fail
    go_region_held3 (fun w' => w'.cell? ⟨g, 0, none⟩ = some (.slice (some ⟨gs, 0, none⟩) n cap) ∧ w'.cell? ⟨w.heap.size, 0, none⟩ = some (.int .i64 at_) ∧ w'.cell? ⟨gs, at_.toNat, none⟩ = some (.slice (some ⟨gx, 0, none⟩) 64 cx)) (first | exact ⟨e0, e1, e2⟩ | exact ⟨y0, y1, y2⟩ | (refine ⟨?_, ?_, ?_⟩ <;> (repeat' (first | assumption | refine cell_far ?_ ?_ | (dsimp only; omega))))) (first | (go_at_call 19; refine (clone64 W.drew gx cx bx HL.out HBW.out).mono ?_; rintro e w2 ⟨g2, cap2, rfl, hown2, hb2, hg21, hg22⟩; obtain ⟨y0, y1, y2, y3, y4, y5, y6⟩ := read_after hb2 e0 e1 e2 HR1.out HR2.out))
    have hKn : w2.heap[D]? = some (.deferred (some [])) := (below_undrew hb2).block D (Array.getElem?_eq_some_iff.1 HK.out).1 |>.trans HK.out
    have hD1 : D ≠ w.heap.size + 1 := by omega
    have hD2 : D ≠ w.heap.size + 1 + 1 := by omega
    have hfin := Lib.hid (read_close (B := w.heap.size) HW2.out hbw0 hB rfl (below_undrew hb2) hown2 (Has.below HR1.out (below_undrew hb2) (by rw [World.size_drew]; omega)) (Has.below HR2.out (below_undrew hb2) (by rw [World.size_drew]; omega)) hKn ⟨by omega, by omega, by omega, by omega, by omega, by omega⟩ hD1 hD2)
    clear hown2 hb2 hKn e0 e1 e2
    go_wp2
    obtain ⟨k1, k2, k3, k4⟩ := hfin.out
    refine ⟨by simp, .inl ⟨_, _, rfl, run_takeDeferred k1, ?_⟩⟩
    exact ⟨.tuple #[.slice (some ⟨g2, 0, none⟩) 64 cap2, .int .i64 0], by simp [results, Try.f13, go_sem, k2, k3], g2, cap2, rfl, k4⟩
end Go.Proofs.Ytcpomddkehhkkaa
