/- The tree of all that comes of one transfer. -/
import Derived.Test.YtknfbccbdiidjaaGreatDoorWu
import Derived.Test.YtknfbccbdiidjaaGreatDoorLLb2
import Derived.Test.YtknfbccbdiidjaaGreatDoorLFc
import Derived.Deep.AppendLies
import Derived.StillTailTactics
namespace Go.Proofs.YtknfbccbdiidjaaGreatDoor
set_option linter.unusedVariables false
set_option linter.unusedSimpArgs false
open Go.ChangeShapes Go.WideShapes Go.ChangeAt Go.RowKit Go.Maps

def partL (K s0 : List Wd) (i : Nat) (l : LeafT) : Lf := ⟨placeK K s0 i, l.id ++ l.ow, l.am⟩
def tlStep (K s0 : List Wd) (k : Nat) (l : LeafT) (T : List Lf) : Except Int (List Lf) :=
 if l.pl ≠ (k : Int) ∨ l.am = 0 then .error 22 else if putE T (partL K s0 k l) = 0 then .ok (putN T (partL K s0 k l)) else .error (putE T (partL K s0 k l))
def tlAt (K s0 : List Wd) (ls : List LeafT) : Nat → Except Int (List Lf)
 | 0 => .ok []
 | k + 1 => match tlAt K s0 ls k with
  | .error e => .error e
  | .ok T => match ls[k]? with
   | none => .ok T
   | some l => tlStep K s0 k l T
theorem tlAt_up {K s0 : List Wd} {ls : List LeafT} {k : Nat} {e : Int} (h : tlAt K s0 ls k = .error e) : tlAt K s0 ls (k + 1) = .error e := by
 unfold tlAt
 rw [h]
theorem tlAt_err {K s0 : List Wd} {ls : List LeafT} {k : Nat} {e : Int} (h : tlAt K s0 ls k = .error e) : ∀ j, k ≤ j → tlAt K s0 ls j = .error e := by
 intro j hj
 obtain ⟨d, rfl⟩ : ∃ d, j = k + d := ⟨j - k, by omega⟩
 clear hj
 induction d with
 | zero => exact h
 | succ d ih => exact tlAt_up ih
theorem tlAt_succ {K s0 : List Wd} {ls : List LeafT} {k : Nat} {T : List Lf} {l : LeafT} (h : tlAt K s0 ls k = .ok T) (hl : ls[k]? = some l) : tlAt K s0 ls (k + 1) = tlStep K s0 k l T := by
 unfold tlAt
 rw [h]
 simp only [hl]
theorem zero_leafT : ∃ Z : Array Value, (∀ w, (zeroValue 32).run Tryz.prog w = .ok (.agg Z) w) ∧ (∀ w, (Instr.build 32 #[]).run Tryz.prog w = .ok (.agg Z) w) ∧ Z.size = 99 ∧ ¬ Z = #[] ∧ Z = (LeafT.cells ⟨List.replicate 32 0, 0, List.replicate 32 0, 0, zNd⟩).toArray := by
 have hs : (LeafT.cells ⟨List.replicate 32 0, 0, List.replicate 32 0, 0, zNd⟩).toArray.size = 99 := by kernel_rfl
 exact ⟨_, fun w => by kernel_rfl, fun w => by kernel_rfl, hs, fun e => (by rw [e] at hs; cases hs), rfl⟩
theorem at_leaf (b o n c k : Nat) (hk : k < n) (w : World) : (Instr.indexAt 22 (.slice (some ⟨b, o, none⟩) n c) (.int .i64 (k : Int))).run Tryz.prog w = .ok (.pointer (some ⟨b, o + k * 99, none⟩)) w := by
 have hu : Tryz.prog.underlying 22 = some (.slice (Tryz.prog.elem 22)) := by kernel_rfl
 have he : Tryz.prog.elem 22 = 32 := by kernel_rfl
 have hz : ∀ w, (sizeOf 32).run Tryz.prog w = .ok 99 w := fun w => by kernel_rfl
 rw [run_indexAt_slice w 22 ⟨b, o, none⟩ n c .i64 (k : Int) hu, if_pos ⟨by omega, by omega⟩, he, hz]
 simp only [Result.andThen, Int.toNat_natCast, Addr.add_mid]
def TlP (K s0 : List Wd) (w : World) (R : Except Int (List Lf)) (e : Ending) (w' : World) : Prop :=
 Below w.heap.size w w' ∧ match R with
  | .ok T => ∃ g, e = .returned (.tuple #[.pointer (some ⟨g, 0, none⟩), .int .i64 0]) ∧ Tr K s0 (fun j => w.heap.size ≤ j) w' g T ∧ w.heap.size ≤ g
  | .error x => e = .returned (.tuple #[.pointer none, .int .i64 x])
set_option maxRecDepth 100000 in
set_option maxHeartbeats 4000000 in
theorem lfTree_is (K s0 : List Wd) (w : World) (hT : Tabs K s0 w) (A : Option Addr) (n c : Nat) (ls : List LeafT) (hls : RowsAt LeafT.cells 99 w A n ls) (hok : ∀ l ∈ ls, l.ok) (hn : n ≤ 256) :
  Calls Tryz.prog 71 #[.slice A n c] w (TlP K s0 w (tlAt K s0 ls n)) := by
 obtain ⟨Z, hz, -, hzs, hzn, -⟩ := zero_leafT
 have As := Hh hT.len
 have Aq := hT.low
 have HT := Hh hT
 have Au := Hh hls
 have A5 := Hh hok
 have A2 := Hh at_leaf
 clear hls hok hT
 go_enter Tryz.func71, Tryz.ntmps71
 go_wp2_with fail
 refine (newT_is K s0 (fun j => w.heap.size ≤ j) w (fun _ h => h)).mono ?_
 rintro _ w2 ⟨g, rfl, htr, hb2, hg⟩
 have Az := Hh htr
 have A3 := Hh hb2
 have HG := Hh hg
 clear htr hb2 hg
 go_wp2_with fail
 go_loopw [11] (fun i wr => ∃ (k : Nat) (T : List Lf), i = .int .i64 (k : Int) ∧ k ≤ n ∧ tlAt K s0 ls k = .ok T ∧ Tr K s0 (fun j => w.heap.size ≤ j) wr g T ∧ Below w.heap.size w wr) (fun i _ => n - (intOf i).toNat)
 case atStart => exact ⟨0, [], rfl, Nat.zero_le _, rfl, Az.o, A3.o⟩
 case round =>
  obtain ⟨k, T, rfl, hk, htl, htr, Ag⟩ := hrel
  have Ao := Hh htr
  have Ai := Hh Ag
  have Ay := Hh htl
  clear htr Ag htl Az
  by_cases hlt : k < n
  · have hlt' : (k : Int) < (n : Int) := by omega
    obtain ⟨x, hx⟩ : ∃ x, ls[k]? = some x := ⟨_, List.getElem?_eq_getElem (by rw [Au.o.len]; exact hlt)⟩
    have Ae := A5.o x (List.mem_of_getElem? hx)
    obtain ⟨sb, so, hA1, hA2, hr⟩ := Au.o.at_ (by omega)
    subst hA1
    have hrw := rangeAt_kept (hr k x hx) (Kept.of_below (S := fun _ => False) Ai.o) (fun h => h)
    have Ad := LeafT.len Ae
    have Aw := Hh hrw
    have SZ := Hh (show (Tryz.prog.info? 32).map (·.size) = some x.cells.length by rw [Ad]; kernel_rfl)
    have A1 := Hh (show (Tryz.prog.info? 32).map (·.size) = some x.cells.toArray.size by rw [List.size_toArray]; exact SZ.o)
    have A0 := Hh (show Z.size = x.cells.toArray.size by rw [hzs, List.size_toArray, Ad])
    have Af := Hh (show x.cells.toArray.all (·.oneCell') = true from LeafT.one x)
    have hnw : ∀ C, Has ((wr.alloc (.cells Z 32)).setRow wr.heap.size C) wr.heap.size 32 C ∧ Kept (fun _ => False) wr ((wr.alloc (.cells Z 32)).setRow wr.heap.size C) := fun C => by
      rw [World.setRow_alloc_new]
      exact ⟨Has.new wr _ _, (Kept.refl _ _).alloc _⟩
    have Av := Hh hnw
    have Aa := Hh Ae
    have HX := Hh hx
    have hat := A2.o sb so n c k hlt
    clear hrw Ad hnw Ae hx hr hA2
    go_upto_region 5 with (first
      | (refine wpList_load_mid rfl 32 (.tmp 14) rfl sb (so + k * 99) rfl x.cells _ Aw.o Tryz.underlying32 rfl SZ.o ?_)
      | (refine wpList_store_row rfl 32 (.tmp 6) (.tmp 15) rfl wr.heap.size x.cells.toArray rfl rfl 32 Z (heap_alloc_new wr _) A1.o A0.o Af.o ?_))
    obtain ⟨h3, hk3⟩ := Av.o x.cells.toArray
    have hb3 : Below w.heap.size w ((wr.alloc (.cells Z 32)).setRow wr.heap.size x.cells.toArray) := Ai.o.trans (hk3.below Ai.o.size (fun _ h => h.elim))
    have Ac : Tr K s0 (fun j => w.heap.size ≤ j ∧ j ≠ wr.heap.size) ((wr.alloc (.cells Z 32)).setRow wr.heap.size x.cells.toArray) g T := (Ao.o.zone (S' := fun j => w.heap.size ≤ j ∧ j ≠ wr.heap.size) (fun j hj hz => ⟨hz, by omega⟩)).kept hk3 (fun _ _ _ h => h)
    clear Av Aw hk3 hat
    generalize (wr.alloc (.cells Z 32)).setRow wr.heap.size x.cells.toArray = W9 at h3 hb3 Ac ⊢
    generalize wr.heap.size = G at h3 Ac ⊢
    have c65 : W9.cell? ⟨G, 65, none⟩ = some (.int .i64 x.pl) := h3.cell_is (by rw [List.getElem?_toArray]; exact LeafT.at_pl Aa.o)
    have c32 : W9.cell? ⟨G, 32, none⟩ = some (.int .u64 (x.am : Int)) := h3.cell_is (by rw [List.getElem?_toArray]; exact LeafT.at_am Aa.o)
    have hnx := tlAt_succ Ay.o HX.o
    have Ar : W9.rangeAt G 0 x.cells := h3.row0
    obtain ⟨pl, hpl⟩ : ∃ p, p = x.pl := ⟨_, rfl⟩
    obtain ⟨am, ham⟩ : ∃ p, p = x.am := ⟨_, rfl⟩
    obtain ⟨LC, hLC⟩ : ∃ L, L = x.cells := ⟨_, rfl⟩
    obtain ⟨E, hE⟩ : ∃ E, E = putE T (partL K s0 k x) := ⟨_, rfl⟩
    rw [← hpl] at c65
    rw [← ham] at c32
    rw [← hLC] at h3 SZ
    have A4 := Hh h3
    have An := Hh (show ∀ v : World, Calls Tryz.prog 100 #[.agg LC.toArray] v fun e w' => ∃ a c, e = .returned (leafV (.slice a 64 c) am) ∧ Bytes w' w'.heap.size (.slice a 64 c) (x.id ++ x.ow) ∧ Below v.heap.size v w' from fun v => by rw [hLC, ham]; exact lfPart_is v x Aa.o)
    have Am := Hh (show tlAt K s0 ls (k + 1) = if pl ≠ (k : Int) ∨ am = 0 then .error 22 else if E = 0 then .ok (putN T (partL K s0 k x)) else .error E by rw [hnx, tlStep, ← hpl, ← ham, ← hE])
    have Aj := Hh hb3
    have Ap := Hh Ac
    have A6 := Hh (show ∀ (v : World) (a : Option Addr) (c : Nat), Bytes v v.heap.size (.slice a 64 c) (x.id ++ x.ow) → Tr K s0 (fun j => w.heap.size ≤ j ∧ j ≠ G) v g T → w.heap.size ≤ v.heap.size → G < v.heap.size → Calls Tryz.prog 43 #[.pointer (some ⟨g, 0, none⟩), .agg (bcells (placeK K s0 k)).toArray, .agg #[.slice a 64 c, .int .u64 (am : Int)]] v fun e w' => e = .returned (.int .i64 E) ∧ Tr K s0 (fun j => w.heap.size ≤ j ∧ j ≠ G) w' g (putN T (partL K s0 k x)) ∧ Kept (fun j => w.heap.size ≤ j ∧ j ≠ G) v w' from fun v a c hb htr hsz hg => by
      have := tr_put htr As.o (fun j h => ⟨by omega, by omega⟩) (partL K s0 k x) (tagD_hash K s0 As.o plS [k]) (.slice a 64 c) hb Aa.o.am (by show (x.id ++ x.ow).length ≤ _; rw [List.length_append, Aa.o.id.1, Aa.o.ow.1]; decide)
      rw [hE, ham]
      exact this)
    clear hnx hb3 Ac hpl ham hE Ar Aa hLC Ao A1 A0 Af
    by_cases hpk : pl = (k : Int)
    · have hp2 : (pl != (k : Int)) = false := by rw [bne_eq_false_iff_eq]; exact hpk
      by_cases ha0 : am = 0
      · have ha2 : ((am : Int) == 0) = true := by rw [beq_iff_eq]; omega
        have Ab := Am.o
        rw [if_pos (.inr ha0)] at Ab
        have Ak := Hh (tlAt_err Ab n (by omega))
        clear Ab hpk ha0
        go_wp2_with fail
        go_ret2
        refine ⟨Aj.o, ?_⟩
        rw [Ak.o]; exact rfl
      · have ha2 : ((am : Int) == 0) = false := by rw [beq_eq_false_iff_ne]; omega
        have Ax := Hh (show tlAt K s0 ls (k + 1) = if E = 0 then .ok (putN T (partL K s0 k x)) else .error E by rw [Am.o, if_neg (by rintro (h | h) <;> contradiction)])
        clear ha0 hpk
        go_upto_region 7 with (fail)
        have hS0 := A4.o
        have hq0 : Below w.heap.size w W9 := Aj.o
        have ht0 : Tr K s0 (fun j => w.heap.size ≤ j ∧ j ≠ G) W9 g T := Ap.o
        refine wp_region_noPanic ?_
        refine wp_region_held_drew (S := (fun v => Has v G 32 LC.toArray)) (by kernel_rfl) hS0 (fun hH0 => ?_)
        refine tl 0 (v := ((.pointer (some ⟨g, 0, none⟩)))) rfl (by intro w' hS; go_simp) hH0 ?_
        simp only [qc]
        refine tl 1 (v := ((.int .i64 (k : Int)))) rfl (by intro w' hS; go_simp) hH0 ?_
        simp only [qc]
        refine tk 3 (v := (.agg LC.toArray)) rfl (yieldsIf_load_mid (by kernel_rfl) 32 (.tmp 6) rfl G 0 rfl LC _ (fun w' h => h.row0) Tryz.underlying32 rfl SZ.o) hH0 ?_
        simp only [qc]
        refine rdy [2] (ar1 rfl fun KK hKK => ?_)
        go_simp
        refine (place_is K s0 _ (HT.o.below (below_drew hq0) Aq) k (by omega)).mono ?_
        rintro _ x2 ⟨rfl, hx2⟩
        replace hx2 := below_undrew hx2
        unfold arr
        have hs2 := hS0.below hx2 hS0.lt
        have hq2 := hq0.trans (hx2.mono hq0.size)
        have ht2 := ht0.quiet hx2
        clear hx2
        refine hKK _ _ hs2 fun hH1 => ?_
        clear hKK KK
        try simp only [qc]
        refine rdy [4] (ar1 rfl fun KK hKK => ?_)
        go_simp
        refine (An.o _).mono ?_
        rintro _ x4 ⟨a4, c4, rfl, hy4, hx4⟩
        unfold leafV
        have hs4 := hs2.below hx4 hs2.lt
        have hq4 := hq2.trans (hx4.mono hq2.size)
        have ht4 := ht2.quiet hx4
        clear hx4
        refine hKK _ _ hs4 fun hH2 => ?_
        clear hKK KK
        try simp only [qc]
        refine rdy [5] (ar1 rfl fun KK hKK => ?_)
        go_simp
        refine (A6.o x4 a4 c4 hy4 ht4 hq4.size hs4.lt).mono ?_
        rintro _ x5 ⟨rfl, Ah, hk5⟩
        have hs5 := hs4.kept hk5 (fun e => e.2 rfl)
        have Al := Hh (show Tr K s0 (fun j => w.heap.size ≤ j) x5 g (putN T (partL K s0 k x)) ∧ Below w.heap.size w x5 from ⟨Ah.zone (fun j _ h => h.1), hq4.trans (hk5.below hq4.size (fun j e => e.1))⟩)
        clear hy4 Ah hk5
        refine hKK _ _ hs5 fun hH3 => ?_
        clear hKK KK
        try simp only [qc]
        refine tl 6 (v := ((.int .i64 E))) rfl (by intro w' hS; go_simp) hH3 ?_
        simp only [qc]
        refine wpAnyH_done (by kernel_rfl) ?_ _
        refine NoPanic.normal ?_
        clear hS0 hs2 hs4 hs5 hq0 hq2 hq4 ht0 ht2 ht4
        by_cases hE0 : E = 0
        · have HN := Hh (show tlAt K s0 ls (k + 1) = .ok (putN T (partL K s0 k x)) by rw [Ax.o, if_pos hE0])
          have hE2 : (E != 0) = false := by rw [bne_eq_false_iff_eq]; exact hE0
          clear hE0
          go_wp2_with fail
          go_roundw
          case rel => exact ⟨k + 1, _, by go_num, by omega, HN.o, Al.o.1, Al.o.2⟩
          case measure => simp [intOf]; omega
        · have HN := Hh (show tlAt K s0 ls n = .error E from tlAt_err (by rw [Ax.o, if_neg hE0]) n (by omega))
          have hE2 : (E != 0) = true := by rw [bne_iff_ne]; exact hE0
          clear hE0
          go_wp2_with fail
          go_ret2
          refine ⟨Al.o.2, ?_⟩
          rw [HN.o]; exact rfl
    · have hp2 : (pl != (k : Int)) = true := by rw [bne_iff_ne]; exact hpk
      have Ab := Am.o
      rw [if_pos (.inl hpk)] at Ab
      have Ak := Hh (tlAt_err Ab n (by omega))
      clear Ab hpk
      go_wp2_with fail
      go_ret2
      refine ⟨Aj.o, ?_⟩
      rw [Ak.o]; exact rfl
  · obtain rfl : k = n := by omega
    have hlt' : ¬ (k : Int) < (k : Int) := by omega
    go_wp2
    go_ret2
    refine ⟨Ai.o, ?_⟩
    rw [Ay.o]
    exact ⟨g, rfl, Ao.o, HG.o⟩
/- The digests of the commit's head: one leaf of 7 in its transfer's tree, in its asset's, in the tree of trees; the anchor is not all zero. -/

theorem clm_lit {t : Lf} (ht : t.s < 18446744073709551616) {h : Nat} {X : List Nat} (hX : Clm t h X) (bs : List Bool) (hb : ∀ i, i < bs.length → bs.getD i false = decide (bitAt t.k (h + i) = 1)) {Y : List Nat} (hr : oneL (t.s / 4294967296) (t.s % 4294967296) bs X = Y) : Clm t (h + bs.length) Y := by
 have := clm_go t ht bs h X hX hb
 rw [hr] at this
 exact this
theorem clm_root {t : Lf} {h : Nat} {X : List Nat} (hX : Clm t h X) : partNd KS SS h [t] = ⟨(X.drop 8).flatMap (fun x => [x / 16777216, x / 65536 % 256, x / 256 % 256, x % 256]), t.s⟩ := by
 obtain ⟨e0, e1, e2, e3, e4, e5, e6, e7, v0, v1, v2, v3, v4, v5, v6, v7, rfl, _, h2⟩ := hX
 rw [h2]
 rfl
theorem clm_zero {t : Lf} (E V : List Wd) (hE : E.length = 8) (hV : V.length = 8) (h1 : digest KS SS (eight 0) = E.flatMap bytesOf) (h2 : digest KS SS (t.v ++ eight t.s) = V.flatMap bytesOf) : Clm t 0 (E.map BitVec.toNat ++ V.map BitVec.toNat) := by
 match E, hE, V, hV with
 | [e0, e1, e2, e3, e4, e5, e6, e7], _, [v0, v1, v2, v3, v4, v5, v6, v7], _ =>
  refine ⟨e0, e1, e2, e3, e4, e5, e6, e7, v0, v1, v2, v3, v4, v5, v6, v7, rfl, ?_, ?_⟩
  · show leafNd KS SS [] 0 = _
    unfold leafNd
    rw [List.nil_append, h1]
  · show leafNd KS SS t.v t.s = _
    unfold leafNd
    rw [h2]
def anS : ByteArray := { data := #[109, 111, 110, 101, 121, 101, 114, 47, 97, 110, 99, 104, 111, 114] }
def anchorK (K s0 : List Wd) (n : Nd) : List Nat := tagD K s0 anS (n.h ++ eight n.s)
def hZ : List Nat := List.replicate 32 0
def hA : LeafT := ⟨hZ, 7, hZ, 0, ⟨hZ, 0⟩⟩
def tP : Lf := ⟨[216, 117, 75, 94, 252, 85, 37, 234, 2, 154, 161, 134, 215, 58, 109, 194, 85, 222, 57, 103, 233, 87, 65, 67, 209, 142, 216, 243, 209, 62, 255, 6], hZ ++ hZ, 7⟩
def xP0 : List Nat := [2941612277, 2709588858, 4153192267, 3339347471, 234167874, 3136888141, 3853660813, 3773316604, 2289139900, 3968741354, 2150493087, 2721354708, 2588500371, 540644367, 866413899, 3611513379]
theorem way_p0 : Clm tP 0 xP0 := clm_zero [2941612277#32, 2709588858#32, 4153192267#32, 3339347471#32, 234167874#32, 3136888141#32, 3853660813#32, 3773316604#32] [2289139900#32, 3968741354#32, 2150493087#32, 2721354708#32, 2588500371#32, 540644367#32, 866413899#32, 3611513379#32] rfl rfl (by decide +kernel) (by decide +kernel)
def xP1 : List Nat := [208879366, 4140909696, 3831996763, 1573517774, 1910805831, 3116279899, 2682650095, 3654652600, 2585604679, 112581393, 1961796303, 73879754, 2609461667, 3822364276, 3877235320, 783238634]
theorem way_p1 : Clm tP 32 xP1 := clm_lit (by decide) way_p0 [false, true, true, false, false, false, false, false, true, true, true, true, true, true, true, true, false, true, true, true, true, true, false, false, true, false, false, false, true, false, true, true] (by decide +kernel) (by kernel_rfl)
def xP2 : List Nat := [1971395767, 2614590752, 102892842, 2568570480, 3562440682, 1087006390, 470909799, 649654843, 1720058885, 3939654332, 4139241626, 2905061501, 3548083800, 697200059, 1461090349, 303338385]
theorem way_p2 : Clm tP 64 xP2 := clm_lit (by decide) way_p1 [true, true, false, false, true, true, true, true, false, false, false, true, true, false, true, true, false, true, true, true, false, false, false, true, true, false, false, false, true, false, true, true] (by decide +kernel) (by kernel_rfl)
def xP3 : List Nat := [4236566059, 2681804153, 307520777, 1436930145, 4270826212, 3169459239, 1956509384, 1130893320, 2737218609, 3844295569, 1469344834, 841259270, 1762448309, 4202225799, 962919408, 3866862052]
theorem way_p3 : Clm tP 96 xP3 := clm_lit (by decide) way_p2 [true, true, false, false, false, false, true, false, true, false, false, false, false, false, true, false, true, true, true, false, true, false, true, false, true, false, false, true, false, true, true, true] (by decide +kernel) (by kernel_rfl)
def xP4 : List Nat := [1612280554, 2677105714, 2841539195, 3069015414, 1754419902, 1039355076, 1501796502, 851435222, 222950599, 4027996710, 2438113655, 2280838660, 4233553901, 4141321605, 2591552247, 1665469956]
theorem way_p4 : Clm tP 128 xP4 := clm_lit (by decide) way_p3 [true, true, true, false, false, true, true, false, true, false, false, true, true, true, false, false, false, true, true, true, true, false, true, true, true, false, true, false, true, false, true, false] (by decide +kernel) (by kernel_rfl)
def xP5 : List Nat := [1885116331, 1243248890, 1174264560, 285536171, 1840814251, 4049962279, 1122340624, 349305283, 404597971, 242927118, 3600338851, 3429580862, 469314429, 3155431528, 3210046104, 354872566]
theorem way_p5 : Clm tP 160 xP5 := clm_lit (by decide) way_p4 [false, true, false, false, false, false, true, true, true, false, true, true, false, true, true, false, false, true, false, true, true, true, false, false, true, true, true, false, true, false, true, true] (by decide +kernel) (by kernel_rfl)
def xP6 : List Nat := [1628100244, 3104769924, 3293246715, 611891231, 3019818246, 592674985, 4083282172, 2371521161, 60924359, 674217687, 703056295, 2826041040, 1650944635, 3829693306, 2625682543, 573658800]
theorem way_p6 : Clm tP 192 xP6 := clm_lit (by decide) way_p5 [false, true, true, false, false, false, false, true, true, false, false, false, false, true, false, true, false, true, false, true, true, false, false, true, false, true, false, false, false, false, false, false] (by decide +kernel) (by kernel_rfl)
def xP7 : List Nat := [3757193492, 2138643976, 4263338015, 2202752158, 3357981527, 2474618184, 197568832, 2330428621, 2833433930, 2180685504, 3259168428, 2701827564, 3814973621, 3988243056, 3300141107, 2930787598]
theorem way_p7 : Clm tP 224 xP7 := clm_lit (by decide) way_p6 [false, true, false, true, false, true, true, true, true, false, true, false, false, true, false, false, true, false, true, false, true, false, true, false, false, false, true, true, true, true, true, true] (by decide +kernel) (by kernel_rfl)
def xP8 : List Nat := [1343946694, 3199553166, 2965483008, 3675644939, 2775798746, 1869696994, 1295114084, 851353708, 1921657938, 3406892581, 4118811164, 4156750162, 3357257382, 2247261997, 3846357124, 1818506803]
theorem way_p8 : Clm tP 256 xP8 := clm_lit (by decide) way_p7 [false, true, true, true, true, false, true, false, true, true, false, true, false, false, true, false, true, false, true, false, true, true, true, false, false, false, false, true, true, false, true, true] (by decide +kernel) (by kernel_rfl)
def rP : List Nat := [114, 138, 44, 82, 203, 17, 14, 37, 245, 128, 18, 28, 247, 194, 249, 82, 200, 27, 174, 166, 133, 242, 127, 45, 229, 66, 192, 132, 108, 100, 54, 51]
theorem root_p : partNd KS SS 256 [tP] = ⟨rP, 7⟩ := by
 rw [clm_root way_p8]
 have e : (xP8.drop 8).flatMap (fun x => [x / 16777216, x / 65536 % 256, x / 256 % 256, x % 256]) = rP := by decide +kernel
 rw [e]
 rfl
theorem place_0 : placeK KS SS 0 = tP.k := by decide +kernel
theorem parts_h : partNd KS SS 256 [partL KS SS 0 hA] = ⟨rP, 7⟩ := by
 have e : partL KS SS 0 hA = tP := by unfold partL; rw [place_0]; rfl
 rw [e]
 exact root_p
def hL : LeafT := ⟨hZ, 7, hZ, 0, ⟨rP, 7⟩⟩
def tL : Lf := ⟨[6, 128, 59, 227, 51, 52, 83, 192, 155, 5, 31, 28, 176, 188, 169, 13, 140, 125, 182, 7, 139, 87, 50, 154, 208, 138, 87, 145, 126, 143, 91, 136], [0, 32, 0, 0, 0, 0, 0, 0, 0, 0, 0, 0, 0, 0, 0, 0, 0, 0, 0, 0, 0, 0, 0, 0, 0, 0, 0, 0, 0, 0, 0, 0, 0, 0, 2, 8, 0, 0, 0, 0, 0, 0, 0, 7, 4, 32, 0, 0, 0, 0, 0, 0, 0, 0, 0, 0, 0, 0, 0, 0, 0, 0, 0, 0, 0, 0, 0, 0, 0, 0, 0, 0, 0, 0, 0, 0, 0, 0, 6, 1, 0, 8, 40, 114, 138, 44, 82, 203, 17, 14, 37, 245, 128, 18, 28, 247, 194, 249, 82, 200, 27, 174, 166, 133, 242, 127, 45, 229, 66, 192, 132, 108, 100, 54, 51, 0, 0, 0, 0, 0, 0, 0, 7], 7⟩
def xL0 : List Nat := [2941612277, 2709588858, 4153192267, 3339347471, 234167874, 3136888141, 3853660813, 3773316604, 162395550, 1876519183, 3186805271, 2243118139, 2371837136, 669870811, 1605437323, 2279955810]
theorem way_l0 : Clm tL 0 xL0 := clm_zero [2941612277#32, 2709588858#32, 4153192267#32, 3339347471#32, 234167874#32, 3136888141#32, 3853660813#32, 3773316604#32] [162395550#32, 1876519183#32, 3186805271#32, 2243118139#32, 2371837136#32, 669870811#32, 1605437323#32, 2279955810#32] rfl rfl (by decide +kernel) (by decide +kernel)
def xL1 : List Nat := [208879366, 4140909696, 3831996763, 1573517774, 1910805831, 3116279899, 2682650095, 3654652600, 2277733787, 2530254541, 4225007844, 3105245760, 1807058712, 106857387, 1203755276, 1220377261]
theorem way_l1 : Clm tL 32 xL1 := clm_lit (by decide) way_l0 [false, false, false, true, false, false, false, true, true, true, false, true, true, false, true, false, true, true, true, true, false, false, false, true, false, true, true, true, true, true, true, false] (by decide +kernel) (by kernel_rfl)
def xL2 : List Nat := [1971395767, 2614590752, 102892842, 2568570480, 3562440682, 1087006390, 470909799, 649654843, 2532393255, 3781950224, 1991972003, 4087419220, 3583540662, 4215603926, 1639981244, 2693399964]
theorem way_l2 : Clm tL 64 xL2 := clm_lit (by decide) way_l1 [true, false, false, false, true, false, false, true, true, true, true, false, true, false, true, false, false, true, false, true, false, false, false, true, false, false, false, false, true, false, true, true] (by decide +kernel) (by kernel_rfl)
def xL3 : List Nat := [4236566059, 2681804153, 307520777, 1436930145, 4270826212, 3169459239, 1956509384, 1130893320, 461036345, 1544534045, 3056253307, 1803612011, 2050882574, 1195572684, 179806674, 1303392066]
theorem way_l3 : Clm tL 96 xL3 := clm_lit (by decide) way_l2 [false, true, false, true, true, false, false, true, false, true, false, false, true, true, false, false, true, true, true, false, true, false, true, false, true, true, false, true, false, false, false, true] (by decide +kernel) (by kernel_rfl)
def xL4 : List Nat := [1612280554, 2677105714, 2841539195, 3069015414, 1754419902, 1039355076, 1501796502, 851435222, 2503981959, 4011566167, 666285885, 3683180348, 605223114, 928132374, 967985889, 3716367152]
theorem way_l4 : Clm tL 128 xL4 := clm_lit (by decide) way_l3 [true, true, true, false, false, false, false, false, false, true, true, false, true, true, false, true, true, false, true, true, true, true, true, false, false, false, true, true, false, false, false, true] (by decide +kernel) (by kernel_rfl)
def xL5 : List Nat := [1885116331, 1243248890, 1174264560, 285536171, 1840814251, 4049962279, 1122340624, 349305283, 2972566412, 3516520327, 974305753, 2359412954, 1992965521, 306508531, 3267884285, 3264334956]
theorem way_l5 : Clm tL 160 xL5 := clm_lit (by decide) way_l4 [true, false, true, true, false, false, false, false, true, false, false, true, false, true, false, true, false, false, true, true, true, true, false, true, false, false, false, false, true, true, false, true] (by decide +kernel) (by kernel_rfl)
def xL6 : List Nat := [1628100244, 3104769924, 3293246715, 611891231, 3019818246, 592674985, 4083282172, 2371521161, 3615567901, 3948559154, 1228014011, 4169413185, 173115332, 1314464306, 2863808427, 1550130697]
theorem way_l6 : Clm tL 192 xL6 := clm_lit (by decide) way_l5 [false, false, true, true, true, false, false, false, true, true, true, true, true, false, false, false, true, false, true, false, false, false, false, false, true, true, false, true, true, false, false, true] (by decide +kernel) (by kernel_rfl)
def xL7 : List Nat := [3757193492, 2138643976, 4263338015, 2202752158, 3357981527, 2474618184, 197568832, 2330428621, 2867369546, 3319899372, 830736254, 2202789949, 3066597023, 1307584959, 2152851567, 4222600258]
theorem way_l7 : Clm tL 224 xL7 := clm_lit (by decide) way_l6 [false, false, false, false, false, false, true, true, true, true, false, false, true, false, true, false, false, false, true, false, true, true, false, false, true, true, false, false, true, true, false, false] (by decide +kernel) (by kernel_rfl)
def xL8 : List Nat := [1343946694, 3199553166, 2965483008, 3675644939, 2775798746, 1869696994, 1295114084, 851353708, 3423037388, 3667018736, 74070858, 4198202674, 3254361215, 3971845038, 2485865948, 3424827465]
theorem way_l8 : Clm tL 256 xL8 := clm_lit (by decide) way_l7 [true, true, false, false, false, true, true, true, true, true, false, true, true, true, false, false, false, false, false, false, false, false, false, true, false, true, true, false, false, false, false, false] (by decide +kernel) (by kernel_rfl)
def rL : List Nat := [204, 7, 103, 204, 218, 146, 67, 240, 4, 106, 59, 74, 250, 59, 125, 50, 193, 249, 156, 127, 236, 189, 139, 174, 148, 43, 77, 220, 204, 34, 184, 73]
theorem root_l : partNd KS SS 256 [tL] = ⟨rL, 7⟩ := by
 rw [clm_root way_l8]
 have e : (xL8.drop 8).flatMap (fun x => [x / 16777216, x / 65536 % 256, x / 256 % 256, x % 256]) = rL := by decide +kernel
 rw [e]
 rfl
theorem key_h : keyK KS SS hL = tL.k := by decide +kernel
theorem bytes_h : leafB hL = tL.v := by decide +kernel
theorem low_h : partNd KS SS 256 [⟨keyK KS SS hL, leafB hL, 7⟩] = ⟨rL, 7⟩ := by
 rw [key_h, bytes_h]
 exact root_l
def tH : Lf := ⟨hZ, rL, 7⟩
def xH0 : List Nat := [2941612277, 2709588858, 4153192267, 3339347471, 234167874, 3136888141, 3853660813, 3773316604, 2184562317, 960830975, 630954732, 4082452317, 3181166385, 1454554206, 4274666624, 2046466810]
theorem way_h0 : Clm tH 0 xH0 := clm_zero [2941612277#32, 2709588858#32, 4153192267#32, 3339347471#32, 234167874#32, 3136888141#32, 3853660813#32, 3773316604#32] [2184562317#32, 960830975#32, 630954732#32, 4082452317#32, 3181166385#32, 1454554206#32, 4274666624#32, 2046466810#32] rfl rfl (by decide +kernel) (by decide +kernel)
def xH1 : List Nat := [208879366, 4140909696, 3831996763, 1573517774, 1910805831, 3116279899, 2682650095, 3654652600, 2095267200, 3327625977, 683445362, 1135867885, 2071513818, 1197164104, 3364421565, 3384566123]
theorem way_h1 : Clm tH 32 xH1 := clm_lit (by decide) way_h0 [false, false, false, false, false, false, false, false, false, false, false, false, false, false, false, false, false, false, false, false, false, false, false, false, false, false, false, false, false, false, false, false] (by decide +kernel) (by kernel_rfl)
def xH2 : List Nat := [1971395767, 2614590752, 102892842, 2568570480, 3562440682, 1087006390, 470909799, 649654843, 3800578410, 1024488236, 175194250, 1295557394, 2565484267, 198389240, 2345999083, 579687066]
theorem way_h2 : Clm tH 64 xH2 := clm_lit (by decide) way_h1 [false, false, false, false, false, false, false, false, false, false, false, false, false, false, false, false, false, false, false, false, false, false, false, false, false, false, false, false, false, false, false, false] (by decide +kernel) (by kernel_rfl)
def xH3 : List Nat := [4236566059, 2681804153, 307520777, 1436930145, 4270826212, 3169459239, 1956509384, 1130893320, 1745317134, 2537151901, 3761771832, 1177900738, 3573403824, 967020965, 1801565755, 421817293]
theorem way_h3 : Clm tH 96 xH3 := clm_lit (by decide) way_h2 [false, false, false, false, false, false, false, false, false, false, false, false, false, false, false, false, false, false, false, false, false, false, false, false, false, false, false, false, false, false, false, false] (by decide +kernel) (by kernel_rfl)
def xH4 : List Nat := [1612280554, 2677105714, 2841539195, 3069015414, 1754419902, 1039355076, 1501796502, 851435222, 2999693242, 1926956572, 2020343798, 3068334712, 4025912865, 3369624998, 606329409, 1143662481]
theorem way_h4 : Clm tH 128 xH4 := clm_lit (by decide) way_h3 [false, false, false, false, false, false, false, false, false, false, false, false, false, false, false, false, false, false, false, false, false, false, false, false, false, false, false, false, false, false, false, false] (by decide +kernel) (by kernel_rfl)
def xH5 : List Nat := [1885116331, 1243248890, 1174264560, 285536171, 1840814251, 4049962279, 1122340624, 349305283, 2605530812, 3672682231, 952262071, 1589577975, 3559571526, 257576565, 3890269527, 1417643478]
theorem way_h5 : Clm tH 160 xH5 := clm_lit (by decide) way_h4 [false, false, false, false, false, false, false, false, false, false, false, false, false, false, false, false, false, false, false, false, false, false, false, false, false, false, false, false, false, false, false, false] (by decide +kernel) (by kernel_rfl)
def xH6 : List Nat := [1628100244, 3104769924, 3293246715, 611891231, 3019818246, 592674985, 4083282172, 2371521161, 1770480869, 1450530990, 3505579421, 1423332934, 3408742678, 3076991067, 316126867, 2463609852]
theorem way_h6 : Clm tH 192 xH6 := clm_lit (by decide) way_h5 [false, false, false, false, false, false, false, false, false, false, false, false, false, false, false, false, false, false, false, false, false, false, false, false, false, false, false, false, false, false, false, false] (by decide +kernel) (by kernel_rfl)
def xH7 : List Nat := [3757193492, 2138643976, 4263338015, 2202752158, 3357981527, 2474618184, 197568832, 2330428621, 1494398249, 1773978296, 3030917682, 3111771234, 618901508, 1673829052, 721283056, 184495225]
theorem way_h7 : Clm tH 224 xH7 := clm_lit (by decide) way_h6 [false, false, false, false, false, false, false, false, false, false, false, false, false, false, false, false, false, false, false, false, false, false, false, false, false, false, false, false, false, false, false, false] (by decide +kernel) (by kernel_rfl)
def xH8 : List Nat := [1343946694, 3199553166, 2965483008, 3675644939, 2775798746, 1869696994, 1295114084, 851353708, 2843753083, 2426603470, 2408059677, 2082716963, 638502768, 2121835508, 2820727049, 278588742]
theorem way_h8 : Clm tH 256 xH8 := clm_lit (by decide) way_h7 [false, false, false, false, false, false, false, false, false, false, false, false, false, false, false, false, false, false, false, false, false, false, false, false, false, false, false, false, false, false, false, false] (by decide +kernel) (by kernel_rfl)
def rH : List Nat := [169, 128, 58, 123, 144, 163, 7, 206, 143, 136, 19, 29, 124, 35, 189, 35, 38, 14, 199, 112, 126, 120, 163, 244, 168, 32, 225, 9, 16, 154, 237, 70]
theorem root_h : partNd KS SS 256 [tH] = ⟨rH, 7⟩ := by
 rw [clm_root way_h8]
 have e : (xH8.drop 8).flatMap (fun x => [x / 16777216, x / 65536 % 256, x / 256 % 256, x % 256]) = rH := by decide +kernel
 rw [e]
 rfl
theorem high_h : partNd KS SS 256 [⟨hZ, rL, 7⟩] = ⟨rH, 7⟩ := root_h
theorem anchor_h : (anchorK KS SS ⟨rH, 7⟩).getD 0 0 = 204 := by decide +kernel
theorem anchor_ne : anchorK KS SS ⟨rH, 7⟩ ≠ hZ := fun e => by
 have h := anchor_h
 rw [e] at h
 exact absurd h (by decide)
section
/- The walk of Make: the proof of what stands at a key, or that nothing does. -/

structure MakeW (K s0 : List Wd) (S : Nat → Prop) (w : World) (g : Nat) (T : List Lf) (f : Nat → Nd) (B B4 B5 B6 : Nat) (Zp : Array Value) (k : Nat) (bb : List Nat) (a : Option Addr) (n c : Nat) (wr : World) : Prop where
 p : Has wr B5 39 (pcells bb a n c).toArray
 own : wr.ownsRow w.heap.size 30 33 (.slice a n c) n ((nodesF K s0 f k).flatMap ndV)
 len : (nodesF K s0 f k).length = n
 hash : IsHash bb
 bits : ∀ h, h < 256 → bareB bb h = (decide (h < k) && bareF K s0 f h)
 e : Has wr B6 30 (ndV (emptyNd K s0 k)).toArray
 r : Has wr B4 39 Zp
 out : OutAt wr B 0 f
 tr : Tr K s0 S wr g T
 kept : Kept (fun j => j = g) w wr
 far : ∀ j, (Value.slice a n c).ownBlock = some j → j ≠ B6 ∧ j ≠ B
structure MakeG (S : Nat → Prop) (w : World) (B B4 B5 B6 : Nat) : Prop where
 pl : w.heap.size ≤ B4 ∧ B4 < B5 ∧ B5 < B6 ∧ B6 < B
 zone : ∀ j, S j → j < w.heap.size
section
variable {K s0 : List Wd} {S : Nat → Prop} {w : World} {g : Nat} {T : List Lf} {f : Nat → Nd} {B B4 B5 B6 : Nat} {Zp : Array Value} {k : Nat} {bb : List Nat} {a : Option Addr} {n c : Nat} {wr wr' : World}
theorem MakeW.below (h : MakeW K s0 S w g T f B B4 B5 B6 Zp k bb a n c wr) (hb : Below wr.heap.size wr wr') : MakeW K s0 S w g T f B B4 B5 B6 Zp k bb a n c wr' :=
 have hk : Kept (fun _ => False) wr wr' := Kept.of_below hb
 ⟨h.p.kept hk (fun e => e), own_kept h.own hk (fun _ _ e => e), h.len, h.hash, h.bits, h.e.kept hk (fun e => e), h.r.kept hk (fun e => e), h.out.kept hk (fun e => e), h.tr.kept hk (fun _ _ _ e => e), h.kept.step hk (fun _ e => e.elim), h.far⟩
theorem MakeW.next (h : MakeW K s0 S w g T f B B4 B5 B6 Zp k bb a n c wr) (hg : MakeG S w B B4 B5 B6) {bb' : List Nat} {a' : Option Addr} {n' c' : Nat} {wx : World} (hp : Has wx B5 39 (pcells bb' a' n' c').toArray)
  (ho : wx.ownsRow w.heap.size 30 33 (.slice a' n' c') n' ((nodesF K s0 f (k + 1)).flatMap ndV)) (hl : (nodesF K s0 f (k + 1)).length = n') (hb : IsHash bb') (hbits : ∀ h, h < 256 → bareB bb' h = (decide (h < k + 1) && bareF K s0 f h))
  {Q : Nat → Prop} (hk : Kept Q wr wx) (hQ : ∀ j, Q j → j = B5 ∨ (Value.slice a n c).ownBlock = some j) (hf : ∀ j, (Value.slice a' n' c').ownBlock = some j → j ≠ B6 ∧ j ≠ B)
  {wz : World} (hb2 : Below wx.heap.size wx wz) : MakeW K s0 S w g T f B B4 B5 B6 Zp (k + 1) bb' a' n' c' (wz.setRow B6 (ndV (emptyNd K s0 (k + 1))).toArray) := by
 have hq : ∀ j, Q j → w.heap.size ≤ j ∧ j ≠ B6 ∧ j ≠ B ∧ j ≠ B4 := fun j hj => by
  have hpl := hg.pl
  rcases hQ j hj with e | e
  · omega
  · have h1 := (h.own.lt j e).1
    have h2 := h.far j e
    have h3 := own_has_ne h.own h.r (by decide) j e
    exact ⟨h1, h2.1, h2.2, h3⟩
 have hk2 : Kept (fun _ => False) wx wz := Kept.of_below hb2
 have hk3 := kept_setRow (g := B6) wz (ndV (emptyNd K s0 (k + 1))).toArray
 have hpl := hg.pl
 have hk4 : Kept (fun j => j = B6) wx (wz.setRow B6 (ndV (emptyNd K s0 (k + 1))).toArray) := (hk2.mono (fun _ _ e => e.elim)).trans hk3
 have hk5 : Kept (fun j => Q j ∨ j = B6) wr (wz.setRow B6 (ndV (emptyNd K s0 (k + 1))).toArray) := (hk.mono (fun _ _ e => .inl e)).step hk4 (fun j e => .inl (.inr e))
 have hz : ∀ j, S j → ¬ (Q j ∨ j = B6) := fun j hs e => by
  have h1 := hg.zone j hs
  rcases e with e | e
  · have := (hq j e).1; omega
  · omega
 have he6 : Has wz B6 30 (ndV (emptyNd K s0 k)).toArray := (h.e.kept hk (fun e => (hq B6 e).2.1 rfl)).kept hk2 (fun e => e)
 refine ⟨hp.kept hk4 (by show ¬ B5 = B6; omega), own_kept ho hk4 (fun j e1 e2 => (hf j e1).1 e2), hl, hb, hbits, he6.setRow, h.r.kept hk5 (fun e => e.elim (fun e => (hq B4 e).2.2.2 rfl) (fun e => by omega)), h.out.kept hk5 (fun e => e.elim (fun e => (hq B e).2.2.1 rfl) (fun e => by omega)), h.tr.kept hk5 (fun j _ hs e => hz j hs e), ?_, hf⟩
 exact h.kept.step hk5 (fun j e => by
  rcases e with e | e
  · exact .inr (hq j e).1
  · right; omega)
end
structure Made (K s0 : List Wd) (S : Nat → Prop) (w : World) (g : Nat) (T : List Lf) (key : List Nat) (bb : List Nat) (a : Option Addr) (n c : Nat) (w' : World) : Prop where
 hash : IsHash bb
 bits : ∀ h, h < 256 → bareB bb h = bareF K s0 (besF K s0 T key) h
 nodes : NodesAt w' a n (nodesF K s0 (besF K s0 T key) 256)
 new : 0 < n → ∀ A, a = some A → w.heap.size ≤ A.block
 tr : Tr K s0 S w' g T
 kept : Kept S w w'
 cap : n ≤ c
set_option maxRecDepth 100000 in
set_option maxHeartbeats 8000000 in
theorem mkProof_is (K s0 : List Wd) (S0 : Nat → Prop) (w : World) (hT : Tabs K s0 w) (g : Nat) (T : List Lf) (htr0 : Tr K s0 S0 w g T) (hlo : 2 + 1 ≤ g) (key : List Nat) (hkey : IsHash key) :
  Calls Tryz.prog 66 #[.pointer (some ⟨g, 0, none⟩), arr key] w fun e w' => ∃ bb a n c, e = .returned (.agg (pcells bb a n c).toArray) ∧ Made K s0 S0 w g T key bb a n c w' := by
 obtain ⟨Z, hz, hZs, hZn, hZ⟩ := zero_node
 obtain ⟨Zp, hzp, hZps, hZpn, hZp⟩ := zero_proof
 obtain ⟨inode, his, A2, A3, Bh⟩ := info_parts info_node
 obtain ⟨f, hfd⟩ : ∃ f, f = besF K s0 T key := ⟨_, rfl⟩
 obtain ⟨CK, hCK⟩ : ∃ L, L = bcells key := ⟨_, rfl⟩
 have lk : CK.length = 32 := by rw [hCK, bcells_length, hkey.1]
 have A5 := hT.low
 have hfh : ∀ h, IsHash (f h).h := fun h => by rw [hfd]; exact part_hash K s0 hT.len _ _
 have hfs : ∀ h, h < 256 → (f h).s < 18446744073709551616 := fun h hh => by
  have := climb_sum (K := K) (s0 := s0) htr0.keyed htr0.sum (key := key) hh
  rw [hfd]; show (partNd K s0 h (besideT T key h)).s < _; omega
 have htr : Tr K s0 (fun j => S0 j ∧ j < w.heap.size) w g T := htr0.zone (fun j h1 h2 => ⟨h2, h1⟩)
 have Az : ∀ W, Below w.heap.size w W → Calls Tryz.prog 49 #[.int .i64 0] W fun e w' => e = .returned (.agg (ndV (emptyNd K s0 0)).toArray) ∧ Below W.heap.size W w' := fun W hW =>
  empty_in K s0 W (hT.below hW A5) 0 (by decide)
 have Ax : ∀ W, Below w.heap.size w W → Calls Tryz.prog 95 #[.pointer (some ⟨g, 0, none⟩), .agg CK.toArray] W fun e w' => ∃ B, e = .returned (.slice (some ⟨B, 0, none⟩) 256 256) ∧ W.heap.size ≤ B ∧ OutAt w' B 0 f ∧ Tr K s0 (fun j => S0 j ∧ j < w.heap.size) w' g T ∧ Kept (fun j => j = g) W w' := fun W hW => by
  rw [hCK, hfd]
  obtain ⟨m, es, hte⟩ := htr.kept (Kept.of_below (S := fun _ => False) hW) (fun _ _ _ e => e)
  exact (beside_is K s0 _ g m es T hlo W (hT.below hW A5) hte key hkey).mono fun e w' ⟨B, h1, h2, h3, h4, h5⟩ => ⟨B, h1, h2, h3, ⟨m, es, h4⟩, h5⟩
 have hzg : S0 g ∧ g < w.heap.size := ⟨htr0.zg, htr0.lt⟩
 unfold arr
 rw [← hCK]
 have Ca := Hh (show (Tryz.prog.info? 27).map (·.size) = some CK.toArray.size by rw [List.size_toArray, lk]; kernel_rfl)
 have Ag := Hh (show ∀ x : Nd, IsHash x.h → (Tryz.prog.info? 30).map (·.size) = some (ndV x).toArray.size from fun x hx => by rw [List.size_toArray, ndV_len hx]; kernel_rfl)
 have Cb := Hh (show ∀ x : Nd, IsHash x.h → (Tryz.prog.info? 30).map (·.size) = some (ndV x).length from fun x hx => by rw [ndV_len hx]; kernel_rfl)
 have Bu := Hh (show ∀ x : Nd, IsHash x.h → Z.size = (ndV x).toArray.size from fun x hx => by rw [hZs, List.size_toArray, ndV_len hx])
 have Bp := Hh (show ∀ x y : Nd, IsHash x.h → IsHash y.h → (ndV x).toArray.size = (ndV y).toArray.size from fun x y hx hy => by rw [List.size_toArray, List.size_toArray, ndV_len hx, ndV_len hy])
 have Cc := Hh (show ∀ (bb : List Nat), IsHash bb → ∀ (a : Option Addr) (n c : Nat), (Tryz.prog.info? 39).map (·.size) = some (pcells bb a n c).toArray.size ∧ Zp.size = (pcells bb a n c).toArray.size from fun bb hb a n c => by rw [List.size_toArray, pcells_len hb, hZps]; exact ⟨by kernel_rfl, rfl⟩)
 have Ae := Hh (show ∀ h, IsHash (emptyNd K s0 h).h from fun h => empty_hash K s0 hT.len h)
 have Ah := Hh (show ∀ W h, Kept (fun j => j = g) w W → Calls Tryz.prog 52 #[.agg (ndV (emptyNd K s0 h)).toArray, .agg (ndV (emptyNd K s0 h)).toArray] W fun e w' => e = .returned (.tuple #[.agg (ndV (emptyNd K s0 (h + 1))).toArray, .int .i64 0]) ∧ Below W.heap.size W w' from fun W h hW => br_empty K s0 W h (hT.kept hW (fun k e => by have e' : k = g := e; omega)))
 have Aq := Hh Az
 have Ap := Hh Ax
 have Bn := Hh hfh
 have B0 := Hh hfs
 have Bw := Hh hZp
 have Bv := Hh hfd
 clear Az Ax hfh hfs hZp hfd htr htr0 hCK lk hkey hZs hZ hZps hT hlo
 go_enter Tryz.func66, Tryz.ntmps66
 go_upto_region 2 with (fail)
 have h3 : Has (((w.alloc (.cells CK.toArray 27)).alloc (.cells Zp 39)).alloc (.cells Zp 39)) w.heap.size 27 CK.toArray := ((Has.new w _ _).alloc _).alloc _
 have h4 : Has (((w.alloc (.cells CK.toArray 27)).alloc (.cells Zp 39)).alloc (.cells Zp 39)) (w.heap.size + 1) 39 Zp := by
  have := Has.new (w.alloc (.cells CK.toArray 27)) 39 Zp
  exact (by simpa using this : Has _ (w.heap.size + 1) _ _).alloc _
 have h5 : Has (((w.alloc (.cells CK.toArray 27)).alloc (.cells Zp 39)).alloc (.cells Zp 39)) (w.heap.size + 1 + 1) 39 Zp := by
  have := Has.new ((w.alloc (.cells CK.toArray 27)).alloc (.cells Zp 39)) 39 Zp
  simpa using this
 have hb1 : Below w.heap.size w (((w.alloc (.cells CK.toArray 27)).alloc (.cells Zp 39)).alloc (.cells Zp 39)) :=
  (((Below.refl _ _).alloc (Nat.le_refl _) _).alloc (by simp) _).alloc (by simp; omega) _
 generalize ((w.alloc (.cells CK.toArray 27)).alloc (.cells Zp 39)).alloc (.cells Zp 39) = W1 at h3 h4 h5 hb1 ⊢
 have H3 := Hh h3
 have H4 := Hh h4
 have H5 := Hh h5
 have Ao := Hh hb1
 clear h3 h4 h5 hb1
 go_wp2_with fail
 refine (Aq.o _ Ao.o).mono ?_
 rintro _ w2 ⟨rfl, hb2⟩
 have hnw : Has ((w2.alloc (.cells Z 30)).setRow w2.heap.size (ndV (emptyNd K s0 0)).toArray) w2.heap.size 30 (ndV (emptyNd K s0 0)).toArray ∧ Below W1.heap.size W1 ((w2.alloc (.cells Z 30)).setRow w2.heap.size (ndV (emptyNd K s0 0)).toArray) := by
  rw [World.setRow_alloc_new]
  exact ⟨Has.new _ _ _, hb2.alloc hb2.size _⟩
 have Bk := hb2.size
 have Aj := Hh hnw
 clear hb2 hnw Aq
 go_upto_region 3 with (refine wpList_store_row rfl 30 (.tmp 6) (.tmp 9) rfl w2.heap.size (ndV (emptyNd K s0 0)).toArray rfl rfl 30 Z (heap_alloc_new w2 _) (Ag.o _ (Ae.o 0)) (Bu.o _ (Ae.o 0)) (ndV_one _) ?_)
 generalize (w2.alloc (.cells Z 30)).setRow w2.heap.size (ndV (emptyNd K s0 0)).toArray = W3 at Aj ⊢
 have Bb := Hh (Ao.o.trans (Aj.o.2.mono Ao.o.size))
 have Bm := Hh (H3.o.below Aj.o.2 H3.o.lt)
 go_wp2_with (refine wpList_load_row rfl 27 (.tmp 3) rfl w.heap.size rfl 27 CK.toArray (0, 0) _ Bm.o Tryz.underlying27 rfl Ca.o ?_)
 refine (Ap.o _ Bb.o).mono ?_
 rintro _ w4 ⟨B, rfl, hB, A7, A8, hk4⟩
 have hmg : MakeG (fun j => S0 j ∧ j < w.heap.size) w B (w.heap.size + 1) (w.heap.size + 1 + 1) w2.heap.size :=
  ⟨by have h1 := H5.o.lt; have h2 := Aj.o.1.lt; omega, fun j h => h.2⟩
 have hmw : MakeW K s0 (fun j => S0 j ∧ j < w.heap.size) w g T f B (w.heap.size + 1) (w.heap.size + 1 + 1) w2.heap.size Zp 0 (List.replicate 32 0) none 0 0 w4 := by
  have hz : ∀ j, w.heap.size ≤ j → ¬ j = g := fun j h e => by have := hzg.2; omega
  refine ⟨?_, ⟨rfl, .inl ⟨rfl, rfl⟩⟩, rfl, zNd_hash, fun h hh => by rw [bareB_zero h hh]; simp, Aj.o.1.kept hk4 (hz _ (by have := Ao.o.size; omega)), (H4.o.below Aj.o.2 H4.o.lt).kept hk4 (hz _ (by omega)), A7, A8, ?_, fun j e => by simp [Value.ownBlock] at e⟩
  · have := (H5.o.below Aj.o.2 H5.o.lt).kept hk4 (hz _ (by omega))
    rw [Bw.o] at this
    exact this
  · exact (Kept.of_below Bb.o).trans hk4
 have Ai := Hh hmg
 have Ab := Hh hmw
 have hZpl := H4.o.lt
 clear hB A7 A8 hk4 hmg hmw Aj Bb Bm H3 H4 H5 Ao Ap Bk hZpl
 generalize w2.heap.size = B6 at Ai Ab ⊢
 obtain ⟨B5, hB5⟩ : ∃ b, b = w.heap.size + 1 + 1 := ⟨_, rfl⟩
 rw [← hB5] at Ai Ab ⊢
 obtain ⟨B4, hB4⟩ : ∃ b, b = w.heap.size + 1 := ⟨_, rfl⟩
 rw [← hB4] at Ai Ab ⊢
 clear hB5 hB4
 go_wp2_with fail
 go_loopw [14] (fun v wr => ∃ (k : Nat) (bb : List Nat) (a : Option Addr) (n c : Nat), v = .int .i64 (k : Int) ∧ k ≤ 256 ∧ MakeW K s0 (fun j => S0 j ∧ j < w.heap.size) w g T f B B4 B5 B6 Zp k bb a n c wr) (fun v _ => 256 - (intOf v).toNat)
 case atStart => exact ⟨0, _, _, _, _, rfl, Nat.zero_le _, Ab.o⟩
 case round =>
  clear Ab
  obtain ⟨k, bb, a, n, c, rfl, hk, hmw⟩ := hrel
  have Ab := Hh hmw
  clear hmw
  by_cases hlt : k < 256
  · have hlt' : (k : Int) < 256 := by omega
    have hat := at_node B 256 256 k hlt
    have hrg := Ab.o.out.range k (Nat.zero_le _) hlt
    have Bt := Hh hrg
    have hfk := Bn.o k
    have Af := Hh hfk
    clear hrg hfk
    go_upto_region 6 with (first
     | (refine wpList_load_mid rfl 30 (.tmp 17) rfl B (k * 33) rfl (ndV (f k)) _ Bt.o Tryz.underlying30 rfl (Cb.o _ Af.o) ?_)
     | (refine wpList_store_row rfl 30 (.tmp 8) (.tmp 18) rfl wr.heap.size (ndV (f k)).toArray rfl rfl 30 Z (heap_alloc_new wr _) (Ag.o _ Af.o) (Bu.o _ Af.o) (ndV_one _) ?_))
    have hnw : MakeW K s0 (fun j => S0 j ∧ j < w.heap.size) w g T f B B4 B5 B6 Zp k bb a n c ((wr.alloc (.cells Z 30)).setRow wr.heap.size (ndV (f k)).toArray) ∧ Has ((wr.alloc (.cells Z 30)).setRow wr.heap.size (ndV (f k)).toArray) wr.heap.size 30 (ndV (f k)).toArray := by
     rw [World.setRow_alloc_new]
     exact ⟨Ab.o.below ((Below.refl _ _).alloc (Nat.le_refl _) _), Has.new _ _ _⟩
    generalize (wr.alloc (.cells Z 30)).setRow wr.heap.size (ndV (f k)).toArray = W5 at hnw ⊢
    generalize wr.heap.size = G8 at hnw ⊢
    obtain ⟨hm5, h8⟩ := hnw
    have Aa := Hh hm5
    have H8 := Hh h8
    have Ay := nd_any (f k) (emptyNd K s0 k) Af.o (Ae.o k)
    obtain ⟨bt, hbt⟩ : ∃ b, b = bareF K s0 f k := ⟨_, rfl⟩
    change ∀ w, (Op.equalIn 10000 30 (.agg (ndV (f k)).toArray) (.agg (ndV (emptyNd K s0 k)).toArray)).run Tryz.prog w = .ok (bareF K s0 f k) w at Ay
    rw [← hbt] at Ay
    have Bl := Hh hbt
    have c32 := Aa.o.p.cell_is (i := 32) (by rw [List.getElem?_toArray]; exact pcells_row Aa.o.hash a n c)
    have ck8 := Aa.o.p.cell_is (i := k / 8) (by rw [List.getElem?_toArray]; exact pcells_byte Aa.o.hash a n c (k / 8) (by omega))
    have hns := nodesF_succ (K := K) (s0 := s0) (f := f) k
    rw [← hbt] at hns
    have Bq := Hh (show bt = true → nodesF K s0 f (k + 1) = nodesF K s0 f k from fun e => by rw [hns, if_pos e, List.append_nil])
    have Bo := Hh (show bt = false → nodesF K s0 f (k + 1) = nodesF K s0 f k ++ [f k] from fun e => by rw [hns, if_neg (by rw [e]; decide)])
    clear hm5 h8 hbt Ab Bt hns
    cases bt with
    | true =>
     as_aux_lemma =>
       obtain ⟨x, hx⟩ : ∃ x, x = bb.getD (k / 8) 0 := ⟨_, rfl⟩
       rw [← hx] at ck8
       have hx8 : x < 256 := by rw [hx]; exact Aa.o.hash.byte _ (by omega)
       have EX := Hh hx
       clear hx
       go_upto_region 7 with (first
         | (refine wpList_load_row rfl 30 (.tmp 8) rfl G8 rfl 30 (ndV (f k)).toArray (0, 0) _ H8.o Tryz.underlying30 rfl (Ag.o _ Af.o) ?_)
         | (refine wpList_load_row rfl 30 (.tmp 6) rfl B6 rfl 30 (ndV (emptyNd K s0 k)).toArray (0, 0) _ Aa.o.e Tryz.underlying30 rfl (Ag.o _ (Ae.o k)) ?_))
       have hw1 : IntKind.i64.wrap ((k : Int) / 8) = ((k / 8 : Nat) : Int) := by rw [IntKind.wrap_i64]; omega
       have hw2 : IntKind.i64.wrap ((k : Int) % 8) = ((k % 8 : Nat) : Int) := by rw [IntKind.wrap_i64]; omega
       have hq1 : (0 : Int) ≤ (k : Int) / 8 := by omega
       have hq2 : (k : Int) / 8 < 32 := by omega
       have hq3 : ((k : Int) / 8).toNat = k / 8 := by omega
       have hq4 : (0 : Int) ≤ (k : Int) % 8 := by omega
       have hq5 : (k : Int) % 8 < 8 := by omega
       have hq6 : ((k : Int) % 8).toNat = k % 8 := by omega
       have hw3 : Int.tmod (k : Int) 8 = (k : Int) % 8 := by rw [Int.tmod_eq_emod_of_nonneg (by omega)]
       obtain ⟨y, hy⟩ : ∃ y, y = x ||| 2 ^ (k % 8) := ⟨_, rfl⟩
       have hor : bits BinOp.or IntKind.u8 (x : Int) (IntKind.u8.wrap ((2 : Int) ^ (k % 8))) = (y : Int) := by
         have h1 := or_bit x (k % 8) hx8 (Nat.mod_lt _ (by decide))
         have h2 : 2 ^ (k % 8) < 2 ^ 8 := Nat.pow_lt_pow_right (by decide) (Nat.mod_lt _ (by decide))
         have h3 : IntKind.u8.wrap ((2 : Int) ^ (k % 8)) = ((2 ^ (k % 8) : Nat) : Int) := by
           rw [show ((2 : Int) ^ (k % 8)) = ((2 ^ (k % 8) : Nat) : Int) by rw [Int.natCast_pow]; rfl]
           generalize 2 ^ (k % 8) = q at h2
           simp [IntKind.wrap, IntKind.bits, IntKind.signed]; omega
         rw [h3, h1, hy]
       have EY := Hh hy
       have hm6 := Aa.o.below (Below.refl _ _).drew
       have ck9 : W5.drew.cell? ⟨B5, k / 8, none⟩ = some (.int .u8 (x : Int)) := ck8
       have Ad := Hh hm6
       clear hy hm6
       go_still_tail 11, (by kernel_rfl)
       change wpList _ _ _ _ _ W5.drew
       clear ck8 c32 hor hw1 hw2 hw3 hq1 hq2 hq3 hq4 hq5 hq6
       generalize W5.drew = W6 at Ad ck9 ⊢
       have hfr := Ad.o.p.free (k / 8)
       have hp7 := Ad.o.p.set (k / 8) (.int .u8 (y : Int))
       rw [pcells_set Ad.o.hash a n c (k / 8) y (by omega)] at hp7
       have hk7 : Kept (· = B5) W6 (W6.setCell ⟨B5, k / 8, none⟩ (.int .u8 (y : Int))) := (Kept.refl (· = B5) W6).set (p := ⟨B5, k / 8, none⟩) (.inl rfl) _
       have Br := Hh hp7
       have As := Hh hk7
       clear hp7 hk7
       go_upto_region 9 with (fail)
       generalize W6.setCell ⟨B5, k / 8, none⟩ (.int .u8 (y : Int)) = W7 at Br As ⊢
       have hpl := Ai.o.pl
       have he7 := Ad.o.e.kept As.o (by show ¬ B6 = B5; omega)
       have A4 : Kept (fun j => j = g) w W7 := Ad.o.kept.step As.o (fun j e => by have e' : j = B5 := e; right; omega)
       have Bc := Hh he7
       have Bd := Hh A4
       clear he7 A4 hfr ck9
       go_wp2_with (refine wpList_load_row rfl 30 (.tmp 6) rfl B6 rfl 30 (ndV (emptyNd K s0 k)).toArray (0, 0) _ Bc.o Tryz.underlying30 rfl (Ag.o _ (Ae.o k)) ?_)
       refine (Ah.o _ k Bd.o).mono ?_
       rintro _ w8 ⟨rfl, hb8⟩
       have Am : W7.ownsRow w.heap.size 30 33 (.slice a n c) n ((nodesF K s0 f (k + 1)).flatMap ndV) := by
         rw [Bq.o (by first | rfl | trivial)]
         exact own_kept Ad.o.own As.o (fun j e1 e2 => own_has_ne Ad.o.own Ad.o.p (by decide) j e1 e2)
       have Ac := bare_set Ad.o.hash k hlt
       rw [← EX.o, ← EY.o] at Ac
       have hnx := Ad.o.next Ai.o Br.o Am (by rw [Bq.o (by first | rfl | trivial)]; exact Ad.o.len) Ac.1 (fun h hh => by
         rw [Ac.2 h hh, Ad.o.bits h hh]
         by_cases e : h = k
         · subst e
           rw [decide_eq_true rfl, Bool.or_true, decide_eq_true (Nat.lt_succ_self h), ← Bl.o]; rfl
         · rw [decide_eq_false e, Bool.or_false]
           congr 1
           rw [decide_eq_decide]; omega) As.o (fun j e => .inl e) Ad.o.far hb8
       have B8 := Hh hnx
       have Bz := Hh (Bc.o.below hb8 Bc.o.lt)
       clear hb8 Am Ac hnx Ah
       go_wp2_with (refine wpList_store_row rfl 30 (.tmp 6) (.tmp 43) rfl B6 (ndV (emptyNd K s0 (k + 1))).toArray rfl rfl 30 (ndV (emptyNd K s0 k)).toArray Bz.o (Ag.o _ (Ae.o (k + 1))) (Bp.o _ _ (Ae.o k) (Ae.o (k + 1))) (ndV_one _) ?_)
       go_roundw
       case rel => exact ⟨k + 1, _, _, _, _, by go_num, by omega, B8.o⟩
       case measure => simp [intOf]; omega
    | false =>
     as_aux_lemma =>
       have An : (Value.agg (List.replicate 32 (Value.int .u8 0) ++ [Value.int .u64 0]).toArray).cells.size = 33 := by kernel_rfl
       have A6 : n ≤ 256 := by have h1 := nodesF_len (K := K) (s0 := s0) (f := f) k; have h2 := Aa.o.len; omega
       have Bg := Hh An
       have B7 := Hh (show n + 1 ≤ maxLen by unfold maxLen; omega)
       have By := Hh (show (n + 1) * 40 ≤ 140737488355328 by omega)
       have hB5 : w.heap.size ≤ W5.heap.size := Aa.o.kept.size
       have Bx := Hh (show ∀ C, w.heap.size ≤ (W5.alloc C).heap.size by intro C; show _ ≤ (W5.heap.push _).size; rw [Array.size_push]; omega)
       have B3 := Hh (show (ndV (f k)).length = 1 * 33 from ndV_len Af.o)
       have B2 := Hh (show ∀ v ∈ ndV (f k), v.oneCell' = true from ncells_one _ _)
       have h0k : 0 < (ndV (f k)).length := by rw [ndV_len Af.o]; decide
       have h24 : (ndV (f k)).length ≤ 16777216 := by rw [ndV_len Af.o]; decide
       have B1 := Hh (show inode.size = (ndV (f k)).length by rw [A3, ndV_len Af.o])
       have B9 := Hh (show (Value.agg (List.replicate 32 (Value.int .u8 0) ++ [Value.int .u64 0]).toArray).cells.size = (ndV (f k)).length by rw [An, ndV_len Af.o])
       have Bf := Hh (show (W5.alloc (.cells (ndV (f k)).toArray 30)).heap.size = W5.heap.size + 1 by simp)
       have A0 : ∀ g7 cap7 w7, w7.ownsRow w.heap.size 30 33 (.slice (some ⟨g7, 0, none⟩) (n + 1) cap7) (n + 1) ((nodesF K s0 f k).flatMap ndV ++ ndV (f k)) → (W5.alloc (.cells (ndV (f k)).toArray 30)).grownBy w7 (Value.slice a n c).ownBlock → ((Value.slice a n c).ownBlock = some g7 ∨ g7 = W5.heap.size + 1) →
           Has w7 B5 39 (pcells bb a n c).toArray ∧ Has (w7.setCell ⟨B5, 32, none⟩ (.slice (some ⟨g7, 0, none⟩) (n + 1) cap7)) B6 30 (ndV (emptyNd K s0 k)).toArray ∧ Kept (fun j => j = g) w (w7.setCell ⟨B5, 32, none⟩ (.slice (some ⟨g7, 0, none⟩) (n + 1) cap7)) ∧
           ∀ w8, Below (w7.setCell ⟨B5, 32, none⟩ (.slice (some ⟨g7, 0, none⟩) (n + 1) cap7)).heap.size (w7.setCell ⟨B5, 32, none⟩ (.slice (some ⟨g7, 0, none⟩) (n + 1) cap7)) w8 →
             Has w8 B6 30 (ndV (emptyNd K s0 k)).toArray ∧ MakeW K s0 (fun j => S0 j ∧ j < w.heap.size) w g T f B B4 B5 B6 Zp (k + 1) bb (some ⟨g7, 0, none⟩) (n + 1) cap7 (w8.setRow B6 (ndV (emptyNd K s0 (k + 1))).toArray) := fun g7 cap7 w7 ho hg hb7 => by
         have hpl := Ai.o.pl
         have hk1 : Kept (fun j => (Value.slice a n c).ownBlock = some j) W5 w7 := ((Kept.refl _ W5).alloc _).grown hg (fun j e => .inl e)
         have Bj : ¬ (Value.slice a n c).ownBlock = some B5 := fun e => own_has_ne Aa.o.own Aa.o.p (by decide) B5 e rfl
         have hp7 := Aa.o.p.kept hk1 Bj
         have hp8 := hp7.set 32 (.slice (some ⟨g7, 0, none⟩) (n + 1) cap7)
         rw [pcells_put Aa.o.hash a (some ⟨g7, 0, none⟩) n c (n + 1) cap7] at hp8
         have hk2 : Kept (· = B5) w7 (w7.setCell ⟨B5, 32, none⟩ (.slice (some ⟨g7, 0, none⟩) (n + 1) cap7)) := (Kept.refl (· = B5) w7).set (p := ⟨B5, 32, none⟩) (.inl rfl) _
         have hk3 : Kept (fun j => j = B5 ∨ (Value.slice a n c).ownBlock = some j) W5 (w7.setCell ⟨B5, 32, none⟩ (.slice (some ⟨g7, 0, none⟩) (n + 1) cap7)) := (hk1.mono (fun _ _ e => .inr e)).step hk2 (fun j e => .inl (.inl e))
         have he8 := Aa.o.e.kept hk3 (fun e => e.elim (fun e => by omega) (fun e => (Aa.o.far B6 e).1 rfl))
         have hl1 : (nodesF K s0 f (k + 1)).length = n + 1 := by rw [Bo.o (by first | rfl | trivial), List.length_append, Aa.o.len]; rfl
         have hlt6 := Aa.o.e.lt
         obtain ⟨cso, hho, -, -⟩ := Aa.o.out
         have hltB := hho.lt
         have ho8 : (w7.setCell ⟨B5, 32, none⟩ (.slice (some ⟨g7, 0, none⟩) (n + 1) cap7)).ownsRow w.heap.size 30 33 (.slice (some ⟨g7, 0, none⟩) (n + 1) cap7) (n + 1) ((nodesF K s0 f (k + 1)).flatMap ndV) := by
           rw [Bo.o (by first | rfl | trivial), List.flatMap_append]
           refine own_kept (by simpa using ho) hk2 (fun j e1 e2 => own_has_ne ho hp7 (by decide) j e1 e2)
         refine ⟨hp7, he8, Aa.o.kept.step hk3 (fun j e => by
           right
           rcases e with e | e
           · omega
           · exact (Aa.o.own.lt j e).1), fun w8 hb8 => ⟨he8.below hb8 he8.lt, ?_⟩⟩
         exact Aa.o.next Ai.o hp8 ho8 hl1 Aa.o.hash (fun h hh => by
           rw [Aa.o.bits h hh]
           by_cases e : h = k
           · subst e
             rw [← Bl.o, Bool.and_false, Bool.and_false]
           · congr 1
             rw [decide_eq_decide]; omega) hk3 (fun j e => e) (fun j e => by
             have e' : g7 = j := by simpa [Value.ownBlock] using e
             rcases hb7 with h | h
             · rw [← e']; exact Aa.o.far g7 h
             · omega) hb8
       have Ar := Hh A0
       have Av := Hh Aa.o.own
       clear A0 An A6 hB5
       go_upto_region 9 with (first
         | (refine wpList_load_row rfl 30 (.tmp 8) rfl G8 rfl 30 (ndV (f k)).toArray (0, 0) _ H8.o Tryz.underlying30 rfl (Ag.o _ Af.o) ?_)
         | (refine wpList_load_row rfl 30 (.tmp 6) rfl B6 rfl 30 (ndV (emptyNd K s0 k)).toArray (0, 0) _ Aa.o.e Tryz.underlying30 rfl (Ag.o _ (Ae.o k)) ?_)
         | (refine wpList_build1 rfl 37 30 (.tmp 35) rfl inode _ Tryz.underlying37 his A2 (ndV (f k)) B1.o B9.o h0k h24 rfl ?_)
         | (at_builtin; refine wpList_append_lies _ rfl (.tmp 34) (.tmp 36) 37 rfl w.heap.size 30 inode _ 33 40 Tryz.underlying37 his A2 A3 Bh Bg.o (by decide) _ n _ rfl (Av.o.alloc _) ⟨W5.heap.size, 0, none⟩ 1 1 (ndV (f k)) rfl B3.o (World.news_of_block (cs := (ndV (f k)).toArray) (heap_alloc_new W5 _)) B2.o (by decide) B7.o By.o (Bx.o _) (W5.heap.size + 1) Bf.o ?_; intro g7 cap7 w7 Al A1 Aw Bi; (have hq7 := Ar.o g7 cap7 w7 Al A1 Aw); (have c732 := hq7.1.cell_is (i := 32) (by rw [List.getElem?_toArray]; exact pcells_row Aa.o.hash a n c)); (have f732 := hq7.1.free 32); (have A9 := Hh hq7); clear hq7 Al A1 Aw Bi))
       generalize w7.setCell ⟨B5, 32, none⟩ (.slice (some ⟨g7, 0, none⟩) (n + 1) cap7) = W8 at A9 ⊢
       clear c732 f732 c32 ck8 Ar Av
       go_wp2_with (refine wpList_load_row rfl 30 (.tmp 6) rfl B6 rfl 30 (ndV (emptyNd K s0 k)).toArray (0, 0) _ A9.o.2.1 Tryz.underlying30 rfl (Ag.o _ (Ae.o k)) ?_)
       refine (Ah.o _ k A9.o.2.2.1).mono ?_
       rintro _ w9 ⟨rfl, hb9⟩
       have hq9 := A9.o.2.2.2 w9 hb9
       have Bs := Hh hq9
       clear hb9 hq9 Ah
       go_wp2_with (refine wpList_store_row rfl 30 (.tmp 6) (.tmp 43) rfl B6 (ndV (emptyNd K s0 (k + 1))).toArray rfl rfl 30 (ndV (emptyNd K s0 k)).toArray Bs.o.1 (Ag.o _ (Ae.o (k + 1))) (Bp.o _ _ (Ae.o k) (Ae.o (k + 1))) (ndV_one _) ?_)
       go_roundw
       case rel => exact ⟨k + 1, _, _, _, _, by go_num, by omega, Bs.o.2⟩
       case measure => simp [intOf]; omega
  · obtain rfl : k = 256 := by omega
    have hk := kept_setRow (g := B4) wr (pcells bb a n c).toArray
    have hpl := Ai.o.pl
    have Ac : Has (wr.setRow B4 (pcells bb a n c).toArray) B4 39 (pcells bb a n c).toArray := Ab.o.r.setRow
    have hzp := (Cc.o bb Ab.o.hash a n c)
    have Ak : Made K s0 S0 w g T key bb a n c (wr.setRow B4 (pcells bb a n c).toArray) := by
     have hno := own_nodes Ab.o.own Ab.o.len (fun x hx => by
       obtain ⟨j, hj, e⟩ := nodesF_mem 256 x hx
       rw [e]; exact Bn.o j) (fun x hx => by
       obtain ⟨j, hj, e⟩ := nodesF_mem 256 x hx
       rw [e]; exact B0.o j hj)
     have hf : f = besF K s0 T key := Bv.o
     subst hf
     refine ⟨Ab.o.hash, fun h hh => by rw [Ab.o.bits h hh, decide_eq_true hh, Bool.true_and], ?_, hno.2, ?_, ?_, ?_⟩
     · refine ⟨hno.1.len, hno.1.hash, hno.1.fits, fun hn => ?_⟩
       obtain ⟨b, o, e1, e2, e3⟩ := hno.1.at_ hn
       refine ⟨b, o, e1, by have := hk.size; omega, fun i x hx => rangeAt_kept (e3 i x hx) hk (fun e => ?_)⟩
       have e' : b = B4 := e
       exact own_has_ne Ab.o.own Ab.o.r (by decide) b (by rw [e1]; rfl) e'
     · exact (Ab.o.tr.kept hk (fun j _ hs e => by have e' : j = B4 := e; have := hs.2; omega)).zone (fun j _ hs => hs.1)
     · exact Ab.o.kept.step hk (fun j e => by have e' : j = B4 := e; right; omega) |>.mono (fun j _ e => by have e' : j = g := e; rw [e']; exact hzg.1)
     · rcases Ab.o.own.2 with ⟨e, h0⟩ | ⟨g', cap, cur, e, _, _, hc, _⟩
       · injection e with _ _ e; omega
       · injection e with _ _ e; omega
    have Be := Hh Ac
    have Au := Hh Ak
    have Ba := Hh hzp
    clear Ac Ak hzp hk hpl
    go_wp2_with (first
     | (refine wpList_load_row rfl 39 (.tmp 5) rfl B5 rfl 39 (pcells bb a n c).toArray (0, 0) _ Ab.o.p Tryz.underlying39 rfl Ba.o.1 ?_)
     | (refine wpList_store_row rfl 39 (.tmp 4) (.tmp 46) rfl B4 (pcells bb a n c).toArray rfl rfl 39 Zp Ab.o.r Ba.o.1 Ba.o.2 (pcells_one _ _ _ _) ?_))
    refine bodyPost_ret (results_cell_row rfl _ _ B4 39 (pcells bb a n c).toArray (0, 0) _ rfl Be.o Tryz.underlying39 rfl Ba.o.1) rfl ?_
    exact ⟨bb, a, n, c, rfl, Au.o⟩
end
/- Parts: leaves made to be all that comes of one transfer; Way; Of. -/

def turnTo {α : Type} (f : Nat → α → α) (k : Nat) (xs : List α) : List α := xs.mapIdx fun i x => if i < k then f i x else x
theorem turnTo_len {α : Type} (f : Nat → α → α) (k : Nat) (xs : List α) : (turnTo f k xs).length = xs.length := by simp [turnTo]
theorem turnTo_zero {α : Type} (f : Nat → α → α) (xs : List α) : turnTo f 0 xs = xs := by
 apply List.ext_getElem?
 intro i
 simp [turnTo]
theorem turnTo_get {α : Type} (f : Nat → α → α) (k : Nat) (xs : List α) (i : Nat) (x : α) (h : xs[i]? = some x) : (turnTo f k xs)[i]? = some (if i < k then f i x else x) := by
 simp [turnTo, h]
theorem turnTo_succ {α : Type} (f : Nat → α → α) (k : Nat) (xs : List α) (x : α) (h : xs[k]? = some x) : (turnTo f k xs).set k (f k x) = turnTo f (k + 1) xs := by
 apply List.ext_getElem?
 intro i
 by_cases e : i = k
 · subst e
   have hi := (List.getElem?_eq_some_iff.1 h).1
   rw [List.getElem?_set_self (by rw [turnTo_len]; exact hi), turnTo_get f _ xs i x h, if_pos (Nat.lt_succ_self i)]
 · rw [List.getElem?_set_ne (fun h => e h.symm)]
   simp only [turnTo, List.getElem?_mapIdx]
   cases xs[i]? with
   | none => rfl
   | some y =>
    simp only [Option.map_some]
    congr 1
    by_cases h1 : i < k
    · rw [if_pos h1, if_pos (by omega)]
    · rw [if_neg h1, if_neg (by omega)]
theorem turnTo_ok {α : Type} (f : Nat → α → α) (k : Nat) (xs : List α) (p : α → Prop) (h : ∀ x ∈ xs, p x) (hf : ∀ i x, i < xs.length → p x → p (f i x)) : ∀ x ∈ turnTo f k xs, p x := by
 intro y hy
 obtain ⟨i, hi⟩ := List.getElem?_of_mem hy
 have hil := (List.getElem?_eq_some_iff.1 hi).1
 rw [turnTo_len] at hil
 have hx := List.getElem?_eq_getElem hil
 rw [turnTo_get f k xs i _ hx] at hi
 injection hi with hi
 rw [← hi]
 have hp := h _ (List.mem_of_getElem? hx)
 split
 · exact hf i _ hil hp
 · exact hp
def plF (i : Nat) (l : LeafT) : LeafT := { l with pl := (i : Int) }
def spF (r : Nd) (_ : Nat) (l : LeafT) : LeafT := { l with sp := r }
theorem plF_ok {l : LeafT} (h : l.ok) (i : Nat) (hi : i ≤ 256) : (plF i l).ok := ⟨h.id, h.am, h.ow, by show -9223372036854775808 ≤ (i : Int); omega, by show (i : Int) ≤ 9223372036854775807; omega, h.sp, h.ss⟩
theorem spF_ok {l : LeafT} (h : l.ok) (r : Nd) (hr : IsHash r.h) (hs : r.s < 18446744073709551616) (i : Nat) : (spF r i l).ok := ⟨h.id, h.am, h.ow, h.lo, h.hi, hr, hs⟩
theorem plF_cells {l : LeafT} (h : l.ok) (i : Nat) (hi : i ≤ 256) : ∀ j, j < 99 → (plF i l).cells[j]? = if 65 ≤ j ∧ j < 65 + [Value.int .i64 (i : Int)].length then [Value.int .i64 (i : Int)][j - 65]? else l.cells[j]? := by
 intro j hj
 have h' := plF_ok h i hi
 by_cases e : j = 65
 · subst e
   rw [if_pos (by simp), LeafT.at_pl h']; rfl
 · rw [if_neg (by simp; omega)]
   rcases Nat.lt_or_ge j 65 with q | q
   · rcases Nat.lt_or_ge j 33 with q2 | q2
     · rcases Nat.lt_or_ge j 32 with q3 | q3
       · rw [LeafT.at_id h j q3, LeafT.at_id h' j q3]; rfl
       · obtain rfl : j = 32 := by omega
         rw [LeafT.at_am h, LeafT.at_am h']; rfl
     · obtain ⟨d, rfl⟩ : ∃ d, j = 33 + d := ⟨j - 33, by omega⟩
       rw [LeafT.at_ow h d (by omega), LeafT.at_ow h' d (by omega)]; rfl
   · obtain ⟨d, rfl⟩ : ∃ d, j = 66 + d := ⟨j - 66, by omega⟩
     rw [LeafT.at_sp h, LeafT.at_sp h']; rfl
theorem spF_cells {l : LeafT} (h : l.ok) (r : Nd) (hr : IsHash r.h) (hs : r.s < 18446744073709551616) (i : Nat) : ∀ j, j < 99 → (spF r i l).cells[j]? = if 66 ≤ j ∧ j < 66 + (ndV r).length then (ndV r)[j - 66]? else l.cells[j]? := by
 intro j hj
 have h' := spF_ok h r hr hs i
 rw [ndV_len hr]
 by_cases e : 66 ≤ j
 · obtain ⟨d, rfl⟩ : ∃ d, j = 66 + d := ⟨j - 66, by omega⟩
   rw [if_pos (by omega), LeafT.at_sp h', Nat.add_sub_cancel_left]; rfl
 · rw [if_neg (by omega)]
   rcases Nat.lt_or_ge j 65 with q | q
   · rcases Nat.lt_or_ge j 33 with q2 | q2
     · rcases Nat.lt_or_ge j 32 with q3 | q3
       · rw [LeafT.at_id h j q3, LeafT.at_id h' j q3]; rfl
       · obtain rfl : j = 32 := by omega
         rw [LeafT.at_am h, LeafT.at_am h']; rfl
     · obtain ⟨d, rfl⟩ : ∃ d, j = 33 + d := ⟨j - 33, by omega⟩
       rw [LeafT.at_ow h d (by omega), LeafT.at_ow h' d (by omega)]; rfl
   · obtain rfl : j = 65 := by omega
     rw [LeafT.at_pl h, LeafT.at_pl h']; rfl
theorem info_leafT : ∃ Z : Array Value, (Tryz.prog.info? 32).map (fun i => (i.zero, i.size, i.bytes)) = some (some (.agg Z), 99, 120) ∧ Z.size = 99 :=
 ⟨(LeafT.cells ⟨List.replicate 32 0, 0, List.replicate 32 0, 0, zNd⟩).toArray, by kernel_rfl, by kernel_rfl⟩
theorem len_cells {ls : List LeafT} (h : ∀ l ∈ ls, l.ok) : ∀ l ∈ ls, l.cells.length = 99 := fun l hl => LeafT.len (h l hl)
def placed (ls : List LeafT) : List LeafT := turnTo plF ls.length ls
def splitL (r : Nd) (ls : List LeafT) : List LeafT := turnTo (spF r) ls.length ls
theorem tlAt_nz {K s0 : List Wd} {ls : List LeafT} : ∀ {k : Nat}, ¬ tlAt K s0 ls k = .error 0
 | 0 => fun e => by cases e
 | k + 1 => fun e => by
  cases h : tlAt K s0 ls k with
  | error x =>
   rw [tlAt_err h (k + 1) (Nat.le_succ k)] at e
   injection e with e
   subst e
   exact tlAt_nz h
  | ok T =>
   cases hl : ls[k]? with
   | none =>
    have e2 : tlAt K s0 ls (k + 1) = .ok T := by
      unfold tlAt
      rw [h]
      simp only [hl]
    rw [e2] at e; cases e
   | some l =>
    rw [tlAt_succ h hl, tlStep] at e
    split at e
    · cases e
    · split at e
      · cases e
      · rename_i h3
        injection e with e
        exact h3 e
def PartsP (K s0 : List Wd) (w : World) (ls : List LeafT) (n : Nat) (R : Except Int (List Lf)) (e : Ending) (w' : World) : Prop :=
 Below w.heap.size w w' ∧ match R with
  | .ok T => ∃ a c, e = .returned (.tuple #[.slice a n c, .int .i64 0]) ∧ w'.ownsRow w.heap.size 32 99 (.slice a n c) n ((splitL (partNd K s0 256 T) (placed ls)).flatMap LeafT.cells)
  | .error x => e = .returned (.tuple #[.slice none 0 0, .int .i64 x])
theorem at_leaf0 (b n c k : Nat) (hk : k < n) (w : World) : (Instr.indexAt 22 (.slice (some ⟨b, 0, none⟩) n c) (.int .i64 (k : Int))).run Tryz.prog w = .ok (.pointer (some ⟨b, k * 99, none⟩)) w := by
 have := at_leaf b 0 n c k hk w
 rwa [Nat.zero_add] at this
theorem parts_fits {K s0 : List Wd} {S : Nat → Prop} {w : World} {g : Nat} {T : List Lf} (h : Tr K s0 S w g T) : (partNd K s0 256 T).s < 18446744073709551616 := by rw [root_sum h]; exact h.sum
set_option maxRecDepth 100000 in
set_option maxHeartbeats 4000000 in
theorem lfParts_is (K s0 : List Wd) (w : World) (hT : Tabs K s0 w) (A : Option Addr) (n c : Nat) (ls : List LeafT) (hls : RowsAt LeafT.cells 99 w A n ls) (hok : ∀ l ∈ ls, l.ok) (hn : n ≤ 256) :
  Calls Tryz.prog 40 #[.slice A n c] w (PartsP K s0 w ls n (tlAt K s0 (placed ls) n)) := by
 obtain ⟨Z, Ai, hzs⟩ := info_leafT
 obtain ⟨Zn, hzn, As, hznn, -⟩ := zero_node
 have Ar := hT.low
 have Af := hls.len
 have HT := Hh hT
 have Bc := Hh hls
 have A5 := Hh hok
 have A2 := Hh at_leaf0
 have Aq := Hh Ai
 have Bj := Hh hzs
 have H1 := Hh (show ∀ x ∈ ls, ∀ u ∈ x.cells, u.oneCell' = true from fun x _ u hu => by
  have := LeafT.one x
  rw [Array.all_eq_true'] at this
  exact this u (by simpa using hu))
 clear hls hok hT Ai hzs
 go_enter Tryz.func40, Tryz.ntmps40
 go_wp2_with (refine wpList_append_rows rfl _ _ 22 rfl w.heap.size 32 (.agg Z) 120 Tryz.underlying22 Aq.o Bj.o (by decide) _ 0 [] rfl (World.ownsRow_nil _ _ _ _) A n c ls rfl Bc.o H1.o (by unfold maxLen; omega) (by omega) (Nat.le_refl _) ?_)
 intro oa oc w2 Aa hgr
 have hb2 : Below w.heap.size w w2 := (Below.refl _ _).grown hgr (Nat.le_refl _) (by simp [Value.ownBlock])
 have Be := Hh Aa
 have A9 := Hh hb2
 clear Aa hgr hb2
 go_wp2_with fail
 go_loopw [14] (fun i wr => ∃ k : Nat, i = .int .i64 (k : Int) ∧ k ≤ n ∧ wr.ownsRow w.heap.size 32 99 (.slice oa n oc) n ((turnTo plF k ls).flatMap LeafT.cells) ∧ Below w.heap.size w wr) (fun i _ => n - (intOf i).toNat)
 case atStart => exact ⟨0, rfl, Nat.zero_le _, by rw [turnTo_zero]; simpa using Be.o, A9.o⟩
 case round =>
  obtain ⟨k, rfl, hk, Aa, Ab⟩ := hrel
  have Ad := Hh (show ∀ x ∈ turnTo plF k ls, x.ok from turnTo_ok plF k ls LeafT.ok A5.o (fun i x hi hx => plF_ok hx i (by omega)))
  by_cases hlt : k < n
  · have hlt' : (k : Int) < (n : Int) := by omega
    obtain ⟨x, hx⟩ : ∃ x, ls[k]? = some x := ⟨_, List.getElem?_eq_getElem (by omega)⟩
    have hx2 := turnTo_get plF k ls k x hx
    rw [if_neg (Nat.lt_irrefl k)] at hx2
    have Ae := A5.o x (List.mem_of_getElem? hx)
    obtain ⟨b, hA, hbb, hth, Ac, hk2⟩ := own_set Aa (by rw [turnTo_len]; exact Af) (len_cells Ad.o) hlt x (plF k x) hx2 (LeafT.len (plF_ok Ae k (by omega))) 65 [.int .i64 (k : Int)] (by simp) (plF_cells Ae k (by omega))
    subst hA
    rw [turnTo_succ plF k ls x hx] at Ac
    obtain ⟨t1, t2⟩ := hth 0 (by simp)
    rw [Nat.add_zero] at t1 t2
    obtain ⟨v65, t1⟩ := Option.isSome_iff_exists.1 t1
    have hat := A2.o b n oc k hlt
    have Am := Hh Ac
    have Al := Hh (Ab.trans (hk2.below Ab.size (fun j e => by rw [show j = b from e]; exact hbb)))
    clear Ac hk2 Aa hx hx2 Ae hth
    go_wp2_with fail
    go_roundw
    case rel => exact ⟨k + 1, by go_num, by omega, Am.o, Al.o⟩
    case measure => simp [intOf]; omega
  · obtain rfl : k = n := by omega
    have hlt' : ¬ (k : Int) < (k : Int) := by omega
    have hpl : turnTo plF k ls = placed ls := by rw [placed, Af]
    rw [hpl] at Aa Ad
    have hr0 := (own_rows Aa (by rw [placed, turnTo_len]; exact Af) (len_cells Ad.o)).1
    have Ag := lfTree_is K s0 wr (HT.o.below Ab Ar) oa k oc (placed ls) hr0 Ad.o (by omega)
    obtain ⟨R, hR⟩ : ∃ R, R = tlAt K s0 (placed ls) k := ⟨_, rfl⟩
    rw [← hR] at Ag
    have A6 := Hh hR
    have Ap := Hh Ag
    have Ax := Hh Aa
    have Ao := Hh Ab
    have Ba := Hh (show ∀ j, (Value.slice oa k oc).ownBlock = some j → j < wr.heap.size from fun j e => by
     have h9 := (own_rows Aa (by rw [placed, turnTo_len]; exact Af) (len_cells Ad.o)).2
     cases oa with
     | none => cases e
     | some a => injection e with e; rw [← e]; exact (h9 a rfl).2)
    clear Ag hr0 Aa Ab hpl
    go_wp2_with fail
    refine Ap.o.mono ?_
    rintro _ w5 ⟨hb5, hm⟩
    have hb5' := Ao.o.trans (hb5.mono Ao.o.size)
    have Ah := own_kept Ax.o (Kept.of_below (S := fun _ => False) hb5) (fun _ _ e => e)
    cases R with
    | error x =>
     dsimp only at hm
     subst hm
     have Au := Hh hb5'
     have hxn : ¬ x = 0 := by
      intro e
      subst e
      exact tlAt_nz hR.symm
     have hx2 : (x != 0) = true := by rw [bne_iff_ne]; exact hxn
     clear hb5 hb5' Ah hxn hR
     go_wp2_with fail
     go_ret2
     refine ⟨Au.o, ?_⟩
     rw [← A6.o]
     exact rfl
    | ok T =>
     dsimp only at hm
     obtain ⟨g, rfl, htr, hg⟩ := hm
     have Au := Hh hb5'
     have Bg := Hh hb5.size
     have Bd := Hh Ah
     have A7 := Hh htr
     have Az := Hh (show ∀ v : World, Tr K s0 (fun j => wr.heap.size ≤ j) v g T → Tabs K s0 v → Calls Tryz.prog 46 #[.pointer (some ⟨g, 0, none⟩)] v fun e w' => e = .returned (.agg (ndV (partNd K s0 256 T)).toArray) ∧ Tr K s0 (fun j => wr.heap.size ≤ j) w' g T ∧ Kept (fun j => wr.heap.size ≤ j) v w' from fun v h1 h2 => tr_root h1 h2 (by have := Ao.o.size; have := HT.o.low; omega))
     have hrh := part_hash K s0 HT.o.len 256 T
     have hrs := parts_fits htr
     obtain ⟨r, hrr⟩ : ∃ r, r = partNd K s0 256 T := ⟨_, rfl⟩
     rw [← hrr] at hrh hrs Az
     have Bf := Hh hrr
     clear hrr
     have An := Hh hrh
     have Ay := Hh hrs
     have Bh := Hh (HT.o.below hb5' Ar)
     clear hb5 hb5' Ah htr hrh hrs hg
     go_wp2_with fail
     refine (Az.o w5 A7.o Bh.o).mono ?_
     rintro _ w6 ⟨rfl, A1, hk6⟩
     have hb6 := Au.o.trans (hk6.below (by have := Au.o.size; have := Ao.o.size; have := Bg.o; omega) (fun j e => by have e' : wr.heap.size ≤ j := e; have := Ao.o.size; omega))
     have Aj := own_kept Bd.o hk6 (fun j e e2 => by have e' : wr.heap.size ≤ j := e2; have := Ba.o j e; omega)
     obtain ⟨h7, hb7⟩ := new_row w6 30 Zn (ndV r).toArray
     have Ak := own_kept Aj (Kept.of_below (S := fun _ => False) hb7) (fun _ _ e => e)
     have A3 := Hh (hb6.trans (hb7.mono hb6.size))
     have A4 := Hh Ak
     have H7 := Hh h7
     have A0 := Hh (show (Tryz.prog.info? 30).map (·.size) = some (ndV r).toArray.size by rw [List.size_toArray, ndV_len An.o]; kernel_rfl)
     have A8 := Hh (show Zn.size = (ndV r).toArray.size by rw [As, List.size_toArray, ndV_len An.o])
     clear hb6 Aj h7 hb7 Ak A1 hk6 Az A7 As
     go_wp2_with (refine wpList_store_row rfl 30 (.tmp 8) (.tmp 32) rfl w6.heap.size (ndV r).toArray rfl rfl 30 Zn (heap_alloc_new w6 _) A0.o A8.o (ndV_one r) ?_)
     obtain ⟨W7, hW7⟩ : ∃ W, W = (w6.alloc (.cells Zn 30)).setRow w6.heap.size (ndV r).toArray := ⟨_, rfl⟩
     rw [← hW7] at A3 A4 H7 ⊢
     clear hW7 hzn A8
     generalize w6.heap.size = G at H7 ⊢
     go_loopw [35] (fun i wx => ∃ k2 : Nat, i = .int .i64 (k2 : Int) ∧ k2 ≤ k ∧ wx.ownsRow w.heap.size 32 99 (.slice oa k oc) k ((turnTo (spF r) k2 (placed ls)).flatMap LeafT.cells) ∧ Below w.heap.size w wx ∧ Has wx G 30 (ndV r).toArray) (fun i _ => k - (intOf i).toNat)
     case atStart => exact ⟨0, rfl, Nat.zero_le _, by rw [turnTo_zero]; exact A4.o, A3.o, H7.o⟩
     case round =>
      obtain ⟨k2, rfl, hk2, Aa, Ab, hbx⟩ := hrel
      have Aw := Hh (show ∀ x ∈ turnTo (spF r) k2 (placed ls), x.ok from turnTo_ok (spF r) k2 (placed ls) LeafT.ok Ad.o (fun i x hi hx => spF_ok hx r An.o Ay.o i))
      by_cases hlt2 : k2 < k
      · have hlt2' : (k2 : Int) < (k : Int) := by omega
        obtain ⟨x, hx⟩ : ∃ x, (placed ls)[k2]? = some x := ⟨_, List.getElem?_eq_getElem (by rw [placed, turnTo_len]; omega)⟩
        have hx2 := turnTo_get (spF r) k2 (placed ls) k2 x hx
        rw [if_neg (Nat.lt_irrefl k2)] at hx2
        have Ae := Ad.o x (List.mem_of_getElem? hx)
        obtain ⟨b, hA, hbb, hth, Ac, hk2'⟩ := own_set Aa (by rw [turnTo_len, placed, turnTo_len]; exact Af) (len_cells Aw.o) hlt2 x (spF r k2 x) hx2 (LeafT.len (spF_ok Ae r An.o Ay.o k2)) 66 (ndV r) (by rw [ndV_len An.o]; decide) (spF_cells Ae r An.o Ay.o k2)
        have hne : b ≠ G := own_has_ne Aa hbx (by decide) b (by rw [hA]; rfl)
        subst hA
        rw [turnTo_succ (spF r) k2 (placed ls) x hx] at Ac
        have hat := A2.o b k oc k2 hlt2
        have Am := Hh Ac
        have Bi := Hh hth
        have Al := Hh (Ab.trans (hk2'.below Ab.size (fun j e => by rw [show j = b from e]; exact hbb)))
        have Bb := Hh hbx
        have Av := Hh (hbx.kept hk2' (fun e => hne e.symm))
        clear Ac hk2' Aa hx hx2 Ae hth Ab hbx hne
        go_wp2_with (first
         | (refine wpList_load_row rfl 30 (.tmp 8) rfl G rfl 30 (ndV r).toArray (0, 0) _ Bb.o Tryz.underlying30 rfl A0.o ?_)
         | (refine wpList_store_mid rfl 30 (.tmp 42) (.tmp 40) rfl b (k2 * 99 + 66) (ndV r).toArray rfl rfl (by rw [List.size_toArray]; exact Bi.o) A0.o (ndV_one r) ?_))
        go_roundw
        case rel => exact ⟨k2 + 1, by go_num, by omega, Am.o, Al.o, Av.o⟩
        case measure => simp [intOf]; omega
      · obtain rfl : k2 = k := by omega
        have hlt2' : ¬ (k2 : Int) < (k2 : Int) := by omega
        have hsp : turnTo (spF r) k2 (placed ls) = splitL r (placed ls) := by rw [splitL, placed, turnTo_len, Af]
        rw [hsp] at Aa
        have HF := Hh (And.intro Ab Aa)
        clear Aa Ab hbx hsp
        go_wp2_with fail
        go_ret2
        refine ⟨HF.o.1, ?_⟩
        rw [← A6.o]
        exact ⟨oa, oc, rfl, by rw [← Bf.o]; exact HF.o.2⟩
end Go.Proofs.YtknfbccbdiidjaaGreatDoor
