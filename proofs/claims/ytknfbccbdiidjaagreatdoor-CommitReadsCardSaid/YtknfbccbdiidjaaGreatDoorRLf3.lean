/- The tree of all that comes of one transfer. -/
import Derived.Test.YtknfbccbdiidjaaGreatDoorWs
import Derived.Test.YtknfbccbdiidjaaGreatDoorRLf2
namespace Go.Proofs.YtknfbccbdiidjaaGreatDoor
set_option linter.unusedVariables false
set_option linter.unusedSimpArgs false
open Go.ChangeShapes Go.WideShapes Go.ChangeAt Go.RowKit Go.Maps

def partL (K s0 : List Wd) (i : Nat) (l : LeafT) : Lf := ⟨placeK K s0 i, l.id ++ l.ow, l.am⟩
def tlStep (K s0 : List Wd) (k : Nat) (l : LeafT) (T : List Lf) : Except Int (List Lf) :=
 if l.pl ≠ (k : Int) ∨ l.am = 0 then .error 22 else if putE T (partL K s0 k l) = 0 then .ok (putN T (partL K s0 k l)) else .error (putE T (partL K s0 k l))
def tlAt (K s0 : List Wd) (ls : List LeafT) : Nat → Except Int (List Lf)
 | 0 => .ok []
 | k + 1 => match tlAt K s0 ls k with
  | .error e => .error e
  | .ok T => match ls[k]? with
   | none => .ok T
   | some l => tlStep K s0 k l T
theorem tlAt_up {K s0 : List Wd} {ls : List LeafT} {k : Nat} {e : Int} (h : tlAt K s0 ls k = .error e) : tlAt K s0 ls (k + 1) = .error e := by
 unfold tlAt
 rw [h]
theorem tlAt_err {K s0 : List Wd} {ls : List LeafT} {k : Nat} {e : Int} (h : tlAt K s0 ls k = .error e) : ∀ j, k ≤ j → tlAt K s0 ls j = .error e := by
 intro j hj
 obtain ⟨d, rfl⟩ : ∃ d, j = k + d := ⟨j - k, by omega⟩
 clear hj
 induction d with
 | zero => exact h
 | succ d ih => exact tlAt_up ih
theorem tlAt_succ {K s0 : List Wd} {ls : List LeafT} {k : Nat} {T : List Lf} {l : LeafT} (h : tlAt K s0 ls k = .ok T) (hl : ls[k]? = some l) : tlAt K s0 ls (k + 1) = tlStep K s0 k l T := by
 unfold tlAt
 rw [h]
 simp only [hl]
theorem zero_leafT : ∃ Z : Array Value, (∀ w, (zeroValue 32).run Tryz.prog w = .ok (.agg Z) w) ∧ (∀ w, (Instr.build 32 #[]).run Tryz.prog w = .ok (.agg Z) w) ∧ Z.size = 99 ∧ ¬ Z = #[] ∧ Z = (LeafT.cells ⟨List.replicate 32 0, 0, List.replicate 32 0, 0, zNd⟩).toArray := by
 have hs : (LeafT.cells ⟨List.replicate 32 0, 0, List.replicate 32 0, 0, zNd⟩).toArray.size = 99 := by kernel_rfl
 exact ⟨_, fun w => by kernel_rfl, fun w => by kernel_rfl, hs, fun e => (by rw [e] at hs; cases hs), rfl⟩
theorem at_leaf (b o n c k : Nat) (hk : k < n) (w : World) : (Instr.indexAt 22 (.slice (some ⟨b, o, none⟩) n c) (.int .i64 (k : Int))).run Tryz.prog w = .ok (.pointer (some ⟨b, o + k * 99, none⟩)) w := by
 have hu : Tryz.prog.underlying 22 = some (.slice (Tryz.prog.elem 22)) := by kernel_rfl
 have he : Tryz.prog.elem 22 = 32 := by kernel_rfl
 have hz : ∀ w, (sizeOf 32).run Tryz.prog w = .ok 99 w := fun w => by kernel_rfl
 rw [run_indexAt_slice w 22 ⟨b, o, none⟩ n c .i64 (k : Int) hu, if_pos ⟨by omega, by omega⟩, he, hz]
 simp only [Result.andThen, Int.toNat_natCast, Addr.add_mid]
def TlP (K s0 : List Wd) (w : World) (R : Except Int (List Lf)) (e : Ending) (w' : World) : Prop :=
 Below w.heap.size w w' ∧ match R with
  | .ok T => ∃ g, e = .returned (.tuple #[.pointer (some ⟨g, 0, none⟩), .int .i64 0]) ∧ Tr K s0 (fun j => w.heap.size ≤ j) w' g T ∧ w.heap.size ≤ g
  | .error x => e = .returned (.tuple #[.pointer none, .int .i64 x])
set_option maxRecDepth 100000 in
set_option maxHeartbeats 4000000 in
theorem lfTree_is (K s0 : List Wd) (w : World) (hT : Tabs K s0 w) (A : Option Addr) (n c : Nat) (ls : List LeafT) (hls : RowsAt LeafT.cells 99 w A n ls) (hok : ∀ l ∈ ls, l.ok) (hn : n ≤ 256) :
  Calls Tryz.prog 71 #[.slice A n c] w (TlP K s0 w (tlAt K s0 ls n)) := by
 obtain ⟨Z, hz, -, hzs, hzn, -⟩ := zero_leafT
 have HL8 := Lib.hid hT.len
 have hlow := hT.low
 have HT := Lib.hid hT
 have HLS := Lib.hid hls
 have HOK := Lib.hid hok
 have HAT := Lib.hid at_leaf
 clear hls hok hT
 go_enter Tryz.func71, Tryz.ntmps71
 go_wp2_with fail
 refine (newT_is K s0 (fun j => w.heap.size ≤ j) w (fun _ h => h)).mono ?_
 rintro _ w2 ⟨g, rfl, htr, hb2, hg⟩
 have HTR := Lib.hid htr
 have HB2 := Lib.hid hb2
 have HG := Lib.hid hg
 clear htr hb2 hg
 go_wp2_with fail
 go_loopw [11] (fun i wr => ∃ (k : Nat) (T : List Lf), i = .int .i64 (k : Int) ∧ k ≤ n ∧ tlAt K s0 ls k = .ok T ∧ Tr K s0 (fun j => w.heap.size ≤ j) wr g T ∧ Below w.heap.size w wr) (fun i _ => n - (intOf i).toNat)
 case atStart => exact ⟨0, [], rfl, Nat.zero_le _, rfl, HTR.out, HB2.out⟩
 case round =>
  obtain ⟨k, T, rfl, hk, htl, htr, hbel⟩ := hrel
  have HTK := Lib.hid htr
  have HBK := Lib.hid hbel
  have HTL := Lib.hid htl
  clear htr hbel htl HTR
  by_cases hlt : k < n
  · have hlt' : (k : Int) < (n : Int) := by omega
    obtain ⟨x, hx⟩ : ∃ x, ls[k]? = some x := ⟨_, List.getElem?_eq_getElem (by rw [HLS.out.len]; exact hlt)⟩
    have hxok := HOK.out x (List.mem_of_getElem? hx)
    obtain ⟨sb, so, hA1, hA2, hr⟩ := HLS.out.at_ (by omega)
    subst hA1
    have hrw := rangeAt_kept (hr k x hx) (Kept.of_below (S := fun _ => False) HBK.out) (fun h => h)
    have hl99 := LeafT.len hxok
    have HRW := Lib.hid hrw
    have SZ := Lib.hid (show (Tryz.prog.info? 32).map (·.size) = some x.cells.length by rw [hl99]; kernel_rfl)
    have SZA := Lib.hid (show (Tryz.prog.info? 32).map (·.size) = some x.cells.toArray.size by rw [List.size_toArray]; exact SZ.out)
    have HZZ := Lib.hid (show Z.size = x.cells.toArray.size by rw [hzs, List.size_toArray, hl99])
    have HONE := Lib.hid (show x.cells.toArray.all (·.oneCell') = true from LeafT.one x)
    have hnw : ∀ C, Has ((wr.alloc (.cells Z 32)).setRow wr.heap.size C) wr.heap.size 32 C ∧ Kept (fun _ => False) wr ((wr.alloc (.cells Z 32)).setRow wr.heap.size C) := fun C => by
      rw [World.setRow_alloc_new]
      exact ⟨Has.new wr _ _, (Kept.refl _ _).alloc _⟩
    have HNW := Lib.hid hnw
    have HXOK := Lib.hid hxok
    have HX := Lib.hid hx
    have hat := HAT.out sb so n c k hlt
    clear hrw hl99 hnw hxok hx hr hA2
    go_upto_region 5 with (first
      | (refine wpList_load_mid rfl 32 (.tmp 14) rfl sb (so + k * 99) rfl x.cells _ HRW.out Tryz.underlying32 rfl SZ.out ?_)
      | (refine wpList_store_row rfl 32 (.tmp 6) (.tmp 15) rfl wr.heap.size x.cells.toArray rfl rfl 32 Z (heap_alloc_new wr _) SZA.out HZZ.out HONE.out ?_))
    obtain ⟨h3, hk3⟩ := HNW.out x.cells.toArray
    have hb3 : Below w.heap.size w ((wr.alloc (.cells Z 32)).setRow wr.heap.size x.cells.toArray) := HBK.out.trans (hk3.below HBK.out.size (fun _ h => h.elim))
    have htr3 : Tr K s0 (fun j => w.heap.size ≤ j ∧ j ≠ wr.heap.size) ((wr.alloc (.cells Z 32)).setRow wr.heap.size x.cells.toArray) g T := (HTK.out.zone (S' := fun j => w.heap.size ≤ j ∧ j ≠ wr.heap.size) (fun j hj hz => ⟨hz, by omega⟩)).kept hk3 (fun _ _ _ h => h)
    clear HNW HRW hk3 hat
    generalize (wr.alloc (.cells Z 32)).setRow wr.heap.size x.cells.toArray = W9 at h3 hb3 htr3 ⊢
    generalize wr.heap.size = G at h3 htr3 ⊢
    have c65 : W9.cell? ⟨G, 65, none⟩ = some (.int .i64 x.pl) := h3.cell_is (by rw [List.getElem?_toArray]; exact LeafT.at_pl HXOK.out)
    have c32 : W9.cell? ⟨G, 32, none⟩ = some (.int .u64 (x.am : Int)) := h3.cell_is (by rw [List.getElem?_toArray]; exact LeafT.at_am HXOK.out)
    have hnx := tlAt_succ HTL.out HX.out
    have hrow : W9.rangeAt G 0 x.cells := h3.row0
    obtain ⟨pl, hpl⟩ : ∃ p, p = x.pl := ⟨_, rfl⟩
    obtain ⟨am, ham⟩ : ∃ p, p = x.am := ⟨_, rfl⟩
    obtain ⟨LC, hLC⟩ : ∃ L, L = x.cells := ⟨_, rfl⟩
    obtain ⟨E, hE⟩ : ∃ E, E = putE T (partL K s0 k x) := ⟨_, rfl⟩
    rw [← hpl] at c65
    rw [← ham] at c32
    rw [← hLC] at h3 SZ
    have HH3 := Lib.hid h3
    have HPLC := Lib.hid (show ∀ v : World, Calls Tryz.prog 100 #[.agg LC.toArray] v fun e w' => ∃ a c, e = .returned (leafV (.slice a 64 c) am) ∧ Bytes w' w'.heap.size (.slice a 64 c) (x.id ++ x.ow) ∧ Below v.heap.size v w' from fun v => by rw [hLC, ham]; exact lfPart_is v x HXOK.out)
    have HNX := Lib.hid (show tlAt K s0 ls (k + 1) = if pl ≠ (k : Int) ∨ am = 0 then .error 22 else if E = 0 then .ok (putN T (partL K s0 k x)) else .error E by rw [hnx, tlStep, ← hpl, ← ham, ← hE])
    have HB3 := Lib.hid hb3
    have HTR3 := Lib.hid htr3
    have HAM := Lib.hid (show am < 18446744073709551616 by rw [ham]; exact HXOK.out.am)
    have HPT := Lib.hid (show ∀ (v : World) (a : Option Addr) (c : Nat), Bytes v v.heap.size (.slice a 64 c) (x.id ++ x.ow) → Tr K s0 (fun j => w.heap.size ≤ j ∧ j ≠ G) v g T → w.heap.size ≤ v.heap.size → G < v.heap.size → Calls Tryz.prog 43 #[.pointer (some ⟨g, 0, none⟩), .agg (bcells (placeK K s0 k)).toArray, .agg #[.slice a 64 c, .int .u64 (am : Int)]] v fun e w' => e = .returned (.int .i64 E) ∧ Tr K s0 (fun j => w.heap.size ≤ j ∧ j ≠ G) w' g (putN T (partL K s0 k x)) ∧ Kept (fun j => w.heap.size ≤ j ∧ j ≠ G) v w' from fun v a c hb htr hsz hg => by
      have := tr_put htr HL8.out (fun j h => ⟨by omega, by omega⟩) (partL K s0 k x) (tagD_hash K s0 HL8.out plS [k]) (.slice a 64 c) hb HXOK.out.am (by show (x.id ++ x.ow).length ≤ _; rw [List.length_append, HXOK.out.id.1, HXOK.out.ow.1]; decide)
      rw [hE, ham]
      exact this)
    have HLCE := Lib.hid hLC
    clear hnx hb3 htr3 hpl ham hE hrow HXOK hLC HTK SZA HZZ HONE
    by_cases hpk : pl = (k : Int)
    · have hp2 : (pl != (k : Int)) = false := by rw [bne_eq_false_iff_eq]; exact hpk
      by_cases ha0 : am = 0
      · have ha2 : ((am : Int) == 0) = true := by rw [beq_iff_eq]; omega
        have hfin := HNX.out
        rw [if_pos (.inr ha0)] at hfin
        have HFE := Lib.hid (tlAt_err hfin n (by omega))
        clear hfin hpk ha0
        go_wp2_with fail
        go_ret2
        refine ⟨HB3.out, ?_⟩
        rw [HFE.out]; exact rfl
      · have ha2 : ((am : Int) == 0) = false := by rw [beq_eq_false_iff_ne]; omega
        have HST := Lib.hid (show tlAt K s0 ls (k + 1) = if E = 0 then .ok (putN T (partL K s0 k x)) else .error E by rw [HNX.out, if_neg (by rintro (h | h) <;> contradiction)])
        clear ha0 hpk
        go_upto_region 7 with (fail)
        have hS0 := HH3.out
        have hq0 : Below w.heap.size w W9 := HB3.out
        have ht0 : Tr K s0 (fun j => w.heap.size ≤ j ∧ j ≠ G) W9 g T := HTR3.out
        refine wp_region_noPanic ?_
        refine wp_region_held_drew (S := (fun v => Has v G 32 LC.toArray)) (by kernel_rfl) hS0 (fun hH0 => ?_)
        refine tk 0 (v := ((.pointer (some ⟨g, 0, none⟩)))) rfl (Or.inl ⟨by kernel_rfl, by intro w' hS; go_simp⟩) hH0 ?_
        simp only [Act.put, qa]
        refine tk 1 (v := ((.int .i64 (k : Int)))) rfl (Or.inl ⟨by kernel_rfl, by intro w' hS; go_simp⟩) hH0 ?_
        simp only [Act.put, qa]
        refine tk 3 (v := (.agg LC.toArray)) rfl (yieldsIf_load_mid (by kernel_rfl) 32 (.tmp 6) rfl G 0 rfl LC _ (fun w' h => h.row0) Tryz.underlying32 rfl SZ.out) hH0 ?_
        simp only [Act.put, qa]
        refine wpAnyH_ready (rs := [2]) (by kernel_rfl) (by simp) ?_
        refine AllReadyH.cons rfl (fun KK hKK => ?_) AllReadyH.nil
        go_simp
        refine (place_is K s0 _ (HT.out.below (below_drew hq0) hlow) k (by omega)).mono ?_
        rintro _ x2 ⟨rfl, hx2⟩
        replace hx2 := below_undrew hx2
        unfold arr
        have hs2 := hS0.below hx2 hS0.lt
        have hq2 := hq0.trans (hx2.mono hq0.size)
        have ht2 := ht0.quiet hx2
        clear hx2
        refine Shut.out hKK _ _ hs2 (fun hH1 => ?_)
        clear hKK KK
        try simp only [Act.put, qa]
        refine wpAnyH_ready (rs := [4]) (by kernel_rfl) (by simp) ?_
        refine AllReadyH.cons rfl (fun KK hKK => ?_) AllReadyH.nil
        go_simp
        refine (HPLC.out _).mono ?_
        rintro _ x4 ⟨a4, c4, rfl, hy4, hx4⟩
        unfold leafV
        have hs4 := hs2.below hx4 hs2.lt
        have hq4 := hq2.trans (hx4.mono hq2.size)
        have ht4 := ht2.quiet hx4
        clear hx4
        refine Shut.out hKK _ _ hs4 (fun hH2 => ?_)
        clear hKK KK
        try simp only [Act.put, qa]
        refine wpAnyH_ready (rs := [5]) (by kernel_rfl) (by simp) ?_
        refine AllReadyH.cons rfl (fun KK hKK => ?_) AllReadyH.nil
        go_simp
        refine (HPT.out x4 a4 c4 hy4 ht4 hq4.size hs4.lt).mono ?_
        rintro _ x5 ⟨rfl, htr5, hk5⟩
        have hs5 := hs4.kept hk5 (fun e => e.2 rfl)
        have HFN := Lib.hid (show Tr K s0 (fun j => w.heap.size ≤ j) x5 g (putN T (partL K s0 k x)) ∧ Below w.heap.size w x5 from ⟨htr5.zone (fun j _ h => h.1), hq4.trans (hk5.below hq4.size (fun j e => e.1))⟩)
        clear hy4 htr5 hk5
        refine Shut.out hKK _ _ hs5 (fun hH3 => ?_)
        clear hKK KK
        try simp only [Act.put, qa]
        refine tk 6 (v := ((.int .i64 E))) rfl (Or.inl ⟨by kernel_rfl, by intro w' hS; go_simp⟩) hH3 ?_
        simp only [Act.put, qa]
        refine wpAnyH_done (by kernel_rfl) ?_ _
        refine NoPanic.normal ?_
        clear hS0 hs2 hs4 hs5 hq0 hq2 hq4 ht0 ht2 ht4
        by_cases hE0 : E = 0
        · have HN := Lib.hid (show tlAt K s0 ls (k + 1) = .ok (putN T (partL K s0 k x)) by rw [HST.out, if_pos hE0])
          have hE2 : (E != 0) = false := by rw [bne_eq_false_iff_eq]; exact hE0
          clear hE0
          go_wp2_with fail
          go_roundw
          case rel => exact ⟨k + 1, _, by go_num, by omega, HN.out, HFN.out.1, HFN.out.2⟩
          case measure => simp [intOf]; omega
        · have HN := Lib.hid (show tlAt K s0 ls n = .error E from tlAt_err (by rw [HST.out, if_neg hE0]) n (by omega))
          have hE2 : (E != 0) = true := by rw [bne_iff_ne]; exact hE0
          clear hE0
          go_wp2_with fail
          go_ret2
          refine ⟨HFN.out.2, ?_⟩
          rw [HN.out]; exact rfl
    · have hp2 : (pl != (k : Int)) = true := by rw [bne_iff_ne]; exact hpk
      have hfin := HNX.out
      rw [if_pos (.inl hpk)] at hfin
      have HFE := Lib.hid (tlAt_err hfin n (by omega))
      clear hfin hpk
      go_wp2_with fail
      go_ret2
      refine ⟨HB3.out, ?_⟩
      rw [HFE.out]; exact rfl
  · obtain rfl : k = n := by omega
    have hlt' : ¬ (k : Int) < (k : Int) := by omega
    go_wp2
    go_ret2
    refine ⟨HBK.out, ?_⟩
    rw [HTL.out]
    exact ⟨g, rfl, HTK.out, HG.out⟩
end Go.Proofs.YtknfbccbdiidjaaGreatDoor

