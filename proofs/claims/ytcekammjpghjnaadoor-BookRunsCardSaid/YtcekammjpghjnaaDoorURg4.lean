/- The reference's book: all there is of an asset; an offer's place. -/
import Derived.Test.YtcekammjpghjnaaDoorWs
import Derived.Test.YtcekammjpghjnaaDoorURg2
import Derived.Test.YtcekammjpghjnaaDoorURg3
namespace Go.Proofs.YtcekammjpghjnaaDoor
set_option linter.unusedVariables false
set_option linter.unusedSimpArgs false
open Go.ChangeShapes Go.WideShapes Go.ChangeAt Go.RowKit Go.Maps

theorem step_buildN' {P : Program} {ops : Array Oper} {o : Oper} {a : Act} {w : World} {K : Act → World → Prop} {Q : Exit → Act → World → Prop} {E : Prop} (hgd : o.guard = none) (t e : TypeId) (n : Nat) (parts : Array (Nat × Operand)) (hop : o.op = .buildSlice t n parts)
  (z : Value) (k by_ : Nat) (hu : P.underlying t = some (.slice e)) (hinfo : (P.info? e).map (fun i => (i.zero, i.size, i.bytes)) = some (some z, k, by_))
  (xs : List Operand) (hparts : parts.toList = (xs.zipIdx 0).map fun x => (x.2, x.1)) (vs : List Value) (hvs : xs.map a.eval = vs) (hk : ∀ v ∈ vs, v.cells.size = k) (hz : z.cells.size = k) (hn : vs.length = n) (h0 : 0 < n) (hk0 : 0 < k) (h24 : n * k ≤ 16777216)
  (h : K (a.put o.dst (.slice (some ⟨w.heap.size, 0, none⟩) n n)) (w.alloc (.cells (vs.flatMap fun v => v.cells.toList).toArray e))) :
  if Region.wanted o (yielded ops a.tmps) = true then Oper.wp P o a w K Q else E := by
 have hw : Region.wanted o (yielded ops a.tmps) = true := by simp [Region.wanted, hgd]
 rw [if_pos hw]
 obtain ⟨ie, hie, hz0, hsz, -⟩ := info_parts hinfo
 have hp : 0 < n * k := Nat.mul_pos h0 hk0
 refine wp_buildSlice t e n parts hop (vs.flatMap fun v => v.cells.toList).toArray ie z hu hie hz0 (by rw [hsz]; omega) (by rw [hsz]; omega) ?_ h
 have hv : (parts.map fun (i, x) => (i, a.eval x)).toList = (vs.zipIdx 0).map fun x => (x.2, x.1) := by
  rw [Array.toList_map, hparts, ← hvs, List.zipIdx_map, List.map_map, List.map_map]
  rfl
 rw [hv]
 exact Great.fill_whole (s := ie.size) (by omega) vs _ (by rw [hsz]; exact hk) (by simp [hn])
theorem zero_ro : ∃ Z : Array Value, (∀ w, (zeroValue 52).run Tryd.prog w = .ok (.agg Z) w) ∧ Z.size = 68 ∧ ¬ Z = #[] := by
 have hs : (Off.cells ⟨0, 0, List.replicate 32 0, 0, List.replicate 32 0, 0⟩).toArray.size = 68 := by kernel_rfl
 exact ⟨_, fun w => by kernel_rfl, hs, fun e => (by rw [e] at hs; cases hs)⟩
theorem info_ro : ∃ Z : Array Value, (Tryd.prog.info? 52).map (fun i => (i.zero, i.size, i.bytes)) = some (some (.agg Z), 68, 96) ∧ Z.size = 68 :=
 ⟨(Off.cells ⟨0, 0, List.replicate 32 0, 0, List.replicate 32 0, 0⟩).toArray, by kernel_rfl, by kernel_rfl⟩
theorem at_ro (b o n c k : Nat) (hk : k < n) (w : World) : (Instr.indexAt 29 (.slice (some ⟨b, o, none⟩) n c) (.int .i64 (k : Int))).run Tryd.prog w = .ok (.pointer (some ⟨b, o + k * 68, none⟩)) w := by
 have hu : Tryd.prog.underlying 29 = some (.slice (Tryd.prog.elem 29)) := by kernel_rfl
 have he : Tryd.prog.elem 29 = 52 := by kernel_rfl
 have hz : ∀ w, (sizeOf 52).run Tryd.prog w = .ok 68 w := fun w => by kernel_rfl
 rw [run_indexAt_slice w 29 ⟨b, o, none⟩ n c .i64 (k : Int) hu, if_pos ⟨by omega, by omega⟩, he, hz]
 simp only [Result.andThen, Int.toNat_natCast, Addr.add_mid]
theorem ro_id {w : World} {G : Nat} {o : Off} (k : o.ok) (hh : Has w G 52 o.cells.toArray) : w.rangeAt G 2 (bcells o.id) := fun j u hu => by
 have hj := (List.getElem?_eq_some_iff.1 hu).1
 refine hh.cell_is ?_
 rw [List.getElem?_toArray, Off.cells, List.getElem?_append_right (by simp), List.getElem?_append_left (by simp; omega)]
 simpa using hu
def listR (r : RB) (id : List Nat) : List Nat := amtTo (getR r.has 0 id) (getR r.has 1 id) r.offers id r.offers.length
theorem getR_lt {hs : List HsT} (h : ∀ x ∈ hs, x.ok) (s : Int) (id : List Nat) : getR hs s id < 18446744073709551616 := by
 induction hs with
 | nil => show 0 < _; decide
 | cons x xs ih =>
  unfold getR
  split
  · exact (h x List.mem_cons_self).am
  · exact ih (fun y hy => h y (List.mem_cons_of_mem _ hy))
theorem amtTo_lt {x0 x1 : Nat} {os : List Off} (h0 : x0 < 18446744073709551616) (h1 : x1 < 18446744073709551616) (h : ∀ o ∈ os, o.ok) (id : List Nat) (k : Nat) : ∀ x ∈ amtTo x0 x1 os id k, x < 18446744073709551616 := fun x hx => by
 unfold amtTo at hx
 rcases List.mem_append.1 hx with hx | hx
 · simp only [List.mem_cons, List.not_mem_nil, or_false] at hx
   rcases hx with rfl | rfl <;> assumption
 · obtain ⟨o, ho, rfl⟩ := List.mem_map.1 hx
   exact (h o (List.mem_of_mem_take (List.mem_filter.1 ho).1)).2.2
def totV (xs : List Nat) : Value := if xs.sum < 18446744073709551616 then .tuple #[.int .u64 (xs.sum : Int), .bool true] else .tuple #[.int .u64 0, .bool false]
set_option maxRecDepth 100000 in
set_option maxHeartbeats 4000000 in
theorem rbTotal_is (w : World) (L : List Value) (r : RB) (hr : RbAt w L r) (hcap : r.offers.length ≤ 200) (id : List Nat) (hid : IsHash id) :
  Calls Tryd.prog 25 #[.agg L.toArray, arr id] w fun e w' => e = .returned (totV (listR r id)) ∧ Below w.heap.size w w' := by
 obtain ⟨i0, hi, hz0, hz1, hz2⟩ := info_parts info_u64
 obtain ⟨Z, hz, hzs, hzn⟩ := zero_ro
 obtain ⟨LI, hLI⟩ : ∃ X, X = bcells id := ⟨_, rfl⟩
 have hr0 := hr
 unfold arr
 rw [← hLI]
 obtain ⟨A, n, c, B, m, d, hL, -, hoffs, -, -, -⟩ := hr.ex
 obtain ⟨W1, hW1, h1, h2, hb1⟩ := boxes_get w L LI
 have HR := Lib.hid hr0
 have HOF1 := Lib.hid (hoffs.rows.below hb1)
 have HLEN := Lib.hid hoffs.rows.len
 have HOFF := Lib.hid hr.off
 have HB1 := Lib.hid hb1
 have EW := Lib.hid hW1
 have HLI := Lib.hid hLI
 have HID := Lib.hid hid
 have HZS := Lib.hid hzs
 have H1 := Lib.hid h1
 have H2 := Lib.hid h2
 have HAT := Lib.hid at_ro
 have HLL := Lib.hid hL
 have HCAP := Lib.hid (show m ≤ 200 by rw [← hoffs.rows.len]; exact hcap)
 have SZI := Lib.hid (show (Tryd.prog.info? 38).map (·.size) = some LI.length by rw [hLI, bcells_length, hid.1]; kernel_rfl)
 have SZB := Lib.hid (size_rb hr.len)
 have HG := Lib.hid (show ∀ (v : World) (s : Int), Below w.heap.size w v → Calls Tryd.prog 28 #[.agg L.toArray, .int .i64 s, .agg LI.toArray] v fun e w' => e = .returned (.int .u64 (getR r.has s id : Int)) ∧ Below v.heap.size v w' from fun v s hv => by
  have := rbGet_is v L r (hr0.below hv) s id hid
  unfold arr at this
  rw [← hLI] at this
  exact this)
 have HX01 := Lib.hid (And.intro (getR_lt hr.ok 0 id) (getR_lt hr.ok 1 id))
 clear hr hr0 hL hoffs hb1 hW1 hLI hid hzs h1 h2 hcap
 go_enter Tryd.func25, Tryd.ntmps25
 go_upto_region 1 with (fail)
 rw [← EW.out]
 obtain ⟨b0, hb0⟩ : ∃ y, y = w.heap.size := ⟨_, rfl⟩
 rw [← hb0] at H1 H2 ⊢
 have HBQ := Lib.hid hb0
 clear hb0 EW
 obtain ⟨x0, hx0⟩ : ∃ x, x = getR r.has 0 id := ⟨_, rfl⟩
 obtain ⟨x1, hx1⟩ : ∃ x, x = getR r.has 1 id := ⟨_, rfl⟩
 have EX := Lib.hid (And.intro hx0 hx1)
 have HG0 := Lib.hid (show ∀ v, Below W1.heap.size W1 v → Calls Tryd.prog 28 #[.agg L.toArray, .int .i64 0, .agg LI.toArray] v fun e w' => e = .returned (.int .u64 (x0 : Int)) ∧ Below v.heap.size v w' from fun v hv => by rw [hx0]; exact HG.out v 0 (HB1.out.trans (hv.mono HB1.out.size)))
 have HG1 := Lib.hid (show ∀ v, Below W1.heap.size W1 v → Calls Tryd.prog 28 #[.agg L.toArray, .int .i64 1, .agg LI.toArray] v fun e w' => e = .returned (.int .u64 (x1 : Int)) ∧ Below v.heap.size v w' from fun v hv => by rw [hx1]; exact HG.out v 1 (HB1.out.trans (hv.mono HB1.out.size)))
 have HX := Lib.hid (show ∀ v, Below W1.heap.size W1 v → v.rangeAt b0 0 L ∧ v.rangeAt (b0 + 1) 0 LI from fun v hv => ⟨(H1.out.below hv H1.out.lt).row0, (H2.out.below hv H2.out.lt).row0⟩)
 clear hx0 hx1
 go_cut [6] from 11 (fun lv wx => ∃ G, lv = .slice (some ⟨G, 0, none⟩) 2 2 ∧ Has wx G 22 #[.int .u64 (x0 : Int), .int .u64 (x1 : Int)] ∧ W1.heap.size ≤ G ∧ Below W1.heap.size W1 wx)
 case first =>
  have hS0 : Below W1.heap.size W1 W1.drew := (Below.refl _ _).drew
  refine wp_region_noPanic ?_
  refine wp_region_held_drew (S := (fun v => Below W1.heap.size W1 v)) (by kernel_rfl) hS0 (fun hH0 => ?_)
  refine tk 0 (v := (.agg L.toArray)) rfl (yieldsIf_load_mid (by kernel_rfl) 31 (.tmp 2) rfl b0 0 rfl L _ (fun w' h => (HX.out _ h).1) Tryd.underlying31 rfl SZB.out) hH0 ?_
  simp only [Act.put, qa]
  refine tk 1 (v := (.agg LI.toArray)) rfl (yieldsIf_load_mid (by kernel_rfl) 38 (.tmp 3) rfl (b0 + 1) 0 rfl LI _ (fun w' h => (HX.out _ h).2) Tryd.underlying38 rfl SZI.out) hH0 ?_
  simp only [Act.put, qa]
  refine tk 3 (v := (.agg L.toArray)) rfl (yieldsIf_load_mid (by kernel_rfl) 31 (.tmp 2) rfl b0 0 rfl L _ (fun w' h => (HX.out _ h).1) Tryd.underlying31 rfl SZB.out) hH0 ?_
  simp only [Act.put, qa]
  refine tk 4 (v := (.agg LI.toArray)) rfl (yieldsIf_load_mid (by kernel_rfl) 38 (.tmp 3) rfl (b0 + 1) 0 rfl LI _ (fun w' h => (HX.out _ h).2) Tryd.underlying38 rfl SZI.out) hH0 ?_
  simp only [Act.put, qa]
  refine wpAnyH_ready (rs := [2]) (by kernel_rfl) (by simp) ?_
  refine AllReadyH.cons rfl (fun KK hKK => ?_) AllReadyH.nil
  go_simp
  refine (HG0.out _ hH0).mono ?_
  rintro _ x2 ⟨rfl, hx2⟩
  have hs2 := hH0.trans (hx2.mono hH0.size)
  clear hx2
  refine Shut.out hKK _ _ hs2 (fun hH1 => ?_)
  clear hKK KK
  try simp only [Act.put, qa]
  refine wpAnyH_ready (rs := [5]) (by kernel_rfl) (by simp) ?_
  refine AllReadyH.cons rfl (fun KK hKK => ?_) AllReadyH.nil
  go_simp
  refine (HG1.out _ hH1).mono ?_
  rintro _ x5 ⟨rfl, hx5⟩
  have hs5 := hH1.trans (hx5.mono hH1.size)
  clear hx5
  refine Shut.out hKK _ _ hs5 (fun hH2 => ?_)
  clear hKK KK
  try simp only [Act.put, qa]
  refine wpAnyH_ready (rs := [6]) (by kernel_rfl) (by simp) ?_
  refine AllReadyH.cons rfl (fun KK hKK => ?_) AllReadyH.nil
  refine step_buildN' rfl 79 22 2 _ rfl _ 1 8 Tryd.underlying79 info_u64 [.tmp 13, .tmp 16] rfl [.int .u64 (x0 : Int), .int .u64 (x1 : Int)] rfl (by simp [Value.cells]) rfl rfl (by decide) (by decide) (by decide) ?_
  obtain ⟨x6, hx6⟩ : ∃ y, y = x5.alloc (.cells #[.int .u64 (x0 : Int), .int .u64 (x1 : Int)] 22) := ⟨_, rfl⟩
  change KK _ (x5.alloc (.cells #[.int .u64 (x0 : Int), .int .u64 (x1 : Int)] 22))
  rw [← hx6]
  have hn6 : Below x5.heap.size x5 x6 := by rw [hx6]; exact (Below.refl _ _).alloc (Nat.le_refl _) _
  have hg6 : Has x6 x5.heap.size 22 #[.int .u64 (x0 : Int), .int .u64 (x1 : Int)] := by rw [hx6]; exact Has.new _ _ _
  have hge : W1.heap.size ≤ x5.heap.size := hH2.size
  have hs6 := hH2.trans (hn6.mono hH2.size)
  clear hx6 hn6
  refine Shut.out hKK _ _ hs6 (fun hH3 => ?_)
  clear hKK KK
  try simp only [Act.put, qa]
  apply tk 7 (v := _) rfl (Or.inl ⟨by kernel_rfl, ?hv⟩) hH3 ?_
  case hv => intro w' hS; go_simp; try exact rfl
  simp only [Act.put, qa]
  refine wpAnyH_done (by kernel_rfl) ?_ _
  refine NoPanic.normal ?_
  have HF := Lib.hid hg6
  have HGE := Lib.hid hge
  have HS := Lib.hid hs6
  clear hg6 hge hs6
  go_wp2_with fail
  go_meet
  case rel => exact ⟨_, rfl, HF.out, HGE.out, HS.out⟩
 case rest =>
 obtain ⟨W2, hW2⟩ : ∃ y, y = wc := ⟨_, rfl⟩
 subst hW2
 obtain ⟨G, rfl, hg, hge, hb2⟩ := hcut
 have HOW2 := Lib.hid (show W2.ownsRow W1.heap.size 22 1 (.slice (some ⟨G, 0, none⟩) 2 2) 2 (ucellB [x0, x1]) from ⟨rfl, .inr ⟨G, 2, #[.int .u64 (x0 : Int), .int .u64 (x1 : Int)], rfl, hge, hg, by decide, by decide, rfl, rfl⟩⟩)
 have HB2 := Lib.hid hb2
 have h12 := H1.out.below hb2 H1.out.lt
 have hc1 : W2.cell? ⟨b0, 1, none⟩ = some (.slice B m d) := h12.cell_is (by rw [HLL.out]; rfl)
 have hm2 : m ≤ 200 := HCAP.out
 clear hg hge hb2 h12
 go_wp2_with fail
 clear hc1
 go_loopw [6, 21] (fun lv iv wr => ∃ k : Nat, k ≤ m ∧ iv = .int .i64 (k : Int) ∧ (∃ lg lc, lv = .slice (some ⟨lg, 0, none⟩) (amtTo x0 x1 r.offers id k).length lc) ∧ wr.ownsRow W1.heap.size 22 1 lv (amtTo x0 x1 r.offers id k).length (ucellB (amtTo x0 x1 r.offers id k)) ∧ Below W1.heap.size W1 wr) (fun _ iv _ => m - (intOf iv).toNat)
 case atStart => exact ⟨0, Nat.zero_le _, rfl, ⟨_, _, rfl⟩, HOW2.out, HB2.out⟩
 case round =>
  clear HOW2 HB2
  obtain ⟨k, hk, rfl, ⟨lg, lc, rfl⟩, hown, hbel⟩ := hrel
  have HBE := Lib.hid hbel
  have HOWN := Lib.hid hown
  clear hbel hown
  by_cases hlt : k < m
  · have hlt' : (k : Int) < (m : Int) := by omega
    obtain ⟨sb, so, hA1, hA2, hrr⟩ := HOF1.out.at_ (by omega)
    subst hA1
    obtain ⟨x, hx⟩ : ∃ x, r.offers[k]? = some x := ⟨_, List.getElem?_eq_getElem (by rw [HLEN.out]; exact hlt)⟩
    have hxok := HOFF.out x (List.mem_of_getElem? hx)
    have hrw := rangeAt_kept (hrr k x hx) (Kept.of_below (S := fun _ => False) HBE.out) (fun h => h)
    obtain ⟨XC, hXC⟩ : ∃ L, L = x.cells := ⟨_, rfl⟩
    rw [← hXC] at hrw
    have LXC := Lib.hid (show XC.length = 68 by rw [hXC]; exact Off.length x hxok)
    have HRW := Lib.hid hrw
    have SZ1 := Lib.hid (show (Tryd.prog.info? 52).map (·.size) = some XC.length by rw [LXC.out]; kernel_rfl)
    have SZA := Lib.hid (show (Tryd.prog.info? 52).map (·.size) = some XC.toArray.size by rw [List.size_toArray]; exact SZ1.out)
    have HZZ := Lib.hid (show Z.size = XC.toArray.size by rw [HZS.out, List.size_toArray, LXC.out])
    have HONE := Lib.hid (show XC.toArray.all (·.oneCell') = true by rw [hXC]; exact all_oneCell_toArray (off_one x))
    have HNW := Lib.hid (show ∀ C, Has ((wr.alloc (.cells Z 52)).setRow wr.heap.size C) wr.heap.size 52 C ∧ Below wr.heap.size wr ((wr.alloc (.cells Z 52)).setRow wr.heap.size C) from fun C => by
      rw [World.setRow_alloc_new]
      exact ⟨Has.new wr _ _, (Below.refl _ _).alloc (Nat.le_refl _) _⟩)
    have HXOK := Lib.hid hxok
    have EXC := Lib.hid hXC
    have hat := HAT.out sb so m d k hlt
    have HLTK := Lib.hid hlt
    have HST := Lib.hid (amtTo_step x0 x1 r.offers id k x hx)
    have HAL := Lib.hid (amtTo_len x0 x1 r.offers id k)
    clear hrw hxok hx hXC hrr hA2 hlt
    go_upto_region 5 with (first
      | (refine wpList_load_mid rfl 52 (.tmp 23) rfl sb (so + k * 68) rfl XC _ HRW.out Tryd.underlying52 rfl SZ1.out ?_)
      | (refine wpList_store_row rfl 52 (.tmp 8) (.tmp 24) rfl wr.heap.size XC.toArray rfl rfl 52 Z (heap_alloc_new wr _) SZA.out HZZ.out HONE.out ?_))
    obtain ⟨h4, hk4⟩ := HNW.out XC.toArray
    have hb4 := HBE.out.trans (hk4.mono HBE.out.size)
    have ho4 := own_kept HOWN.out (Kept.of_below (S := fun _ => False) hk4) (fun _ _ e => e)
    clear HNW hk4 hat
    generalize (wr.alloc (.cells Z 52)).setRow wr.heap.size XC.toArray = W9 at h4 hb4 ho4 ⊢
    generalize wr.heap.size = G8 at h4 ⊢
    rw [EXC.out] at h4
    have HB4 := Lib.hid hb4
    have HO4 := Lib.hid ho4
    have HRI := Lib.hid (ro_id HXOK.out h4)
    have HI9 := Lib.hid (H2.out.below hb4 H2.out.lt).row0
    have c34 : W9.cell? ⟨G8, 34, none⟩ = some (.int .u64 (x.am : Int)) := h4.cell_is (by rw [List.getElem?_toArray]; exact (off_cells x HXOK.out).2.2.1)
    have SZX := Lib.hid (show (Tryd.prog.info? 38).map (·.size) = some (bcells x.id).length by rw [bcells_length, HXOK.out.1.1]; kernel_rfl)
    obtain ⟨qi, hqi⟩ : ∃ q, q = decide (x.id = id) := ⟨_, rfl⟩
    have heqi : ∀ v, (Op.equalIn 10000 38 (.agg (bcells x.id).toArray) (.agg LI.toArray)).run Tryd.prog v = .ok qi v := fun v => by rw [HLI.out, hqi]; exact rhash_eq _ _ HXOK.out.1 HID.out v
    have HQI := Lib.hid hqi
    have hbase : W1.heap.size ≤ W9.heap.size := hb4.size
    clear h4 hb4 ho4 hqi
    cases qi with
    | false =>
      have HS2 := Lib.hid (show amtTo x0 x1 r.offers id (k + 1) = amtTo x0 x1 r.offers id k by rw [HST.out, if_neg (of_decide_eq_false HQI.out.symm)])
      clear c34
      go_wp2_with (first
       | (refine wpList_load_mid rfl 38 (.tmp 25) rfl G8 2 rfl (bcells x.id) _ HRI.out Tryd.underlying38 rfl SZX.out ?_)
       | (refine wpList_load_mid rfl 38 (.tmp 3) rfl (b0 + 1) 0 rfl LI _ HI9.out Tryd.underlying38 rfl SZI.out ?_))
      go_roundw
      case rel => exact ⟨k + 1, HLTK.out, by go_num, ⟨lg, lc, by rw [HS2.out]⟩, by rw [HS2.out]; exact HO4.out, HB4.out⟩
      case measure => have := HLTK.out; simp [intOf]; omega
    | true =>
      have HS2 := Lib.hid (show amtTo x0 x1 r.offers id (k + 1) = amtTo x0 x1 r.offers id k ++ [x.am] by rw [HST.out, if_pos (of_decide_eq_true HQI.out.symm)])
      have HLE := Lib.hid (show (amtTo x0 x1 r.offers id k).length ≤ 202 by have := HAL.out; have := HLTK.out; omega)
      go_wp2_with (first
       | (refine wpList_load_mid rfl 38 (.tmp 25) rfl G8 2 rfl (bcells x.id) _ HRI.out Tryd.underlying38 rfl SZX.out ?_)
       | (refine wpList_load_mid rfl 38 (.tmp 3) rfl (b0 + 1) 0 rfl LI _ HI9.out Tryd.underlying38 rfl SZI.out ?_)
       | (at_builtin; refine wpList_append_own _ rfl (.tmp 29) (.tmp 32) 79 rfl W1.heap.size 22 i0 (.int .u64 0) 1 8 Tryd.underlying79 hi hz0 hz1 hz2 rfl (by decide) _ (amtTo x0 x1 r.offers id k).length (ucellB (amtTo x0 x1 r.offers id k)) rfl (own_kept HO4.out (Kept.of_below (S := fun _ => False) ((Below.refl W9.heap.size W9).alloc (Nat.le_refl _) _)) (fun _ _ e => e)) ⟨W9.heap.size, 0, none⟩ 1 1 [.int .u64 (x.am : Int)] rfl rfl (World.news_of_block (heap_alloc_new W9 _)) (by simp [Value.oneCell']) (by have := HLE.out; unfold maxLen; omega) (by have := HLE.out; omega) (by simp; omega) ?_; intro v6 w6 hown6 hgr _))
      have hl2 : (amtTo x0 x1 r.offers id (k + 1)).length = (amtTo x0 x1 r.offers id k).length + 1 := by rw [HS2.out]; simp
      have hu2 : ucellB (amtTo x0 x1 r.offers id (k + 1)) = ucellB (amtTo x0 x1 r.offers id k) ++ [.int .u64 (x.am : Int)] := by rw [HS2.out]; simp [ucellB]
      rw [← hu2, ← hl2] at hown6
      obtain ⟨g', cap, cur, rfl, hr4⟩ := own_open hown6 (by omega)
      have hb6 : Below W1.heap.size W1 w6 := (HB4.out.alloc HB4.out.size _).grown hgr (by simp; omega) (own_blk HO4.out)
      have HFIN := Lib.hid (And.intro hown6 hb6)
      clear hown6 hgr hb6 hr4 hl2 hu2
      go_wp2_with fail
      go_roundw
      case rel => exact ⟨k + 1, HLTK.out, by go_num, ⟨g', cap, rfl⟩, HFIN.out⟩
      case measure => have := HLTK.out; simp [intOf]; omega
  · obtain rfl : k = m := by omega
    have hno : ¬ (k : Int) < (k : Int) := by omega
    obtain ⟨lst, hlst⟩ : ∃ l, l = listR r id := ⟨_, rfl⟩
    have hq : amtTo x0 x1 r.offers id k = lst := by rw [hlst, listR, ← EX.out.1, ← EX.out.2, HLEN.out]
    have hown := HOWN.out
    rw [hq, ← uC_flat] at hown
    rw [hq]
    have hll : lst.length ≤ 202 := by rw [← hq]; have := amtTo_len x0 x1 r.offers id k; omega
    have hlt64 : ∀ x ∈ lst, x < 18446744073709551616 := by
      rw [← hq]
      exact amtTo_lt (by rw [EX.out.1]; exact HX01.out.1) (by rw [EX.out.2]; exact HX01.out.2) HOFF.out id k
    obtain ⟨hrow, -⟩ := own_rows hown rfl (fun x _ => rfl)
    have HTOT := Lib.hid (rtotal_is wr (some ⟨lg, 0, none⟩) lst.length lc lst hrow hlt64 (by omega))
    have EL := Lib.hid hlst
    clear hq hown hll hlt64 hrow hlst hlt hk
    go_wp2_with fail
    refine HTOT.out.mono ?_
    rintro _ w8 ⟨rfl, hb8⟩
    have HBF := Lib.hid (show Below w.heap.size w w8 from HB1.out.trans ((HBE.out.trans (hb8.mono HBE.out.size)).mono HB1.out.size))
    clear hb8 HTOT
    by_cases hfit : lst.sum < 18446744073709551616
    · have ht : totalV lst = .tuple #[.int .u64 (lst.sum : Int), .int .i64 0] := by unfold totalV; rw [if_pos hfit]
      have HT := Lib.hid (show totV lst = .tuple #[.int .u64 (lst.sum : Int), .bool true] by unfold totV; rw [if_pos hfit])
      rw [ht]
      clear hfit ht
      go_wp2_with fail
      go_ret2
      exact ⟨by rw [← EL.out, HT.out]; rfl, HBF.out⟩
    · have ht : totalV lst = .tuple #[.int .u64 0, .int .i64 10] := by unfold totalV; rw [if_neg hfit]
      have HT := Lib.hid (show totV lst = .tuple #[.int .u64 0, .bool false] by unfold totV; rw [if_neg hfit])
      rw [ht]
      clear hfit ht
      go_wp2_with fail
      go_ret2
      exact ⟨by rw [← EL.out, HT.out]; rfl, HBF.out⟩
end Go.Proofs.YtcekammjpghjnaaDoor

