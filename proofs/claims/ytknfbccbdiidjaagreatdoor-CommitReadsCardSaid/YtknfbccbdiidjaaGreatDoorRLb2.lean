/- A slice literal of n elements as a step; the walk of a leaf's Key. -/
import Derived.Test.YtknfbccbdiidjaaGreatDoorWs
import Derived.Test.YtknfbccbdiidjaaGreatDoorRLb1
import Derived.Test.YtknfbccbdiidjaaGreatDoorRLf2
namespace Go.Proofs.YtknfbccbdiidjaaGreatDoor
set_option linter.unusedVariables false
set_option linter.unusedSimpArgs false
open Go.ChangeShapes Go.WideShapes Go.ChangeAt Go.RowKit Go.Maps

theorem step_buildN {P : Program} {ops : Array Oper} {o : Oper} {a : Act} {w : World} {K : Act → World → Prop} {Q : Exit → Act → World → Prop} {E : Prop} (hgd : o.guard = none) (t e : TypeId) (n : Nat) (parts : Array (Nat × Operand)) (hop : o.op = .buildSlice t n parts)
  (z : Value) (k by_ : Nat) (hu : P.underlying t = some (.slice e)) (hinfo : (P.info? e).map (fun i => (i.zero, i.size, i.bytes)) = some (some z, k, by_))
  (xs : List Operand) (hparts : parts.toList = (xs.zipIdx 0).map fun x => (x.2, x.1)) (vs : List Value) (hvs : xs.map a.eval = vs) (hk : ∀ v ∈ vs, v.cells.size = k) (hz : z.cells.size = k) (hn : vs.length = n) (h0 : 0 < n) (hk0 : 0 < k) (h24 : n * k ≤ 16777216)
  (h : K (a.put o.dst (.slice (some ⟨w.heap.size, 0, none⟩) n n)) (w.alloc (.cells (vs.flatMap fun v => v.cells.toList).toArray e))) :
  if Region.wanted o (yielded ops a.tmps) = true then Oper.wp P o a w K Q else E := by
 have hw : Region.wanted o (yielded ops a.tmps) = true := by simp [Region.wanted, hgd]
 rw [if_pos hw]
 obtain ⟨ie, hie, hz0, hsz, -⟩ := info_parts hinfo
 have hp : 0 < n * k := Nat.mul_pos h0 hk0
 refine wp_buildSlice t e n parts hop (vs.flatMap fun v => v.cells.toList).toArray ie z hu hie hz0 (by rw [hsz]; omega) (by rw [hsz]; omega) ?_ h
 have hv : (parts.map fun (i, x) => (i, a.eval x)).toList = (vs.zipIdx 0).map fun x => (x.2, x.1) := by
  rw [Array.toList_map, hparts, ← hvs, List.zipIdx_map, List.map_map, List.map_map]
  rfl
 rw [hv]
 exact Great.fill_whole (s := ie.size) (by omega) vs _ (by rw [hsz]; exact hk) (by simp [hn])
theorem info_slice : (Tryz.prog.info? 48).map (fun i => (i.zero, i.size, i.bytes)) = some (some (.slice none 0 0), 1, 24) := by kernel_rfl
theorem info_u8 : (Tryz.prog.info? 5).map (fun i => (i.zero, i.size, i.bytes)) = some (some (.int .u8 0), 1, 1) := by kernel_rfl
theorem one_by {w : World} {g : Nat} {q : Nat} (h : Has w g 5 #[.int .u8 (q : Int)]) (hq : q < 256) (g' : Nat) (hg : g ≠ g') : Bytes w g' (.slice (some ⟨g, 0, none⟩) 1 1) [q] :=
 ⟨_, _, rfl, Nat.le_refl _, (fun z hz => by rw [List.mem_singleton.1 hz]; exact hq), fun _ => ⟨g, 0, rfl, hg, fun i hi => by
  obtain rfl : i = 0 := Nat.lt_one_iff.1 hi
  exact h.cell_is rfl⟩⟩
theorem partsN_three {w : World} {g pg : Nat} {v0 v1 v2 : Value} {p0 p1 p2 : List Nat} (h : Has w pg 48 #[v0, v1, v2]) (h0 : Bytes w g v0 p0) (h1 : Bytes w g v1 p1) (h2 : Bytes w g v2 p2) (hne : pg ≠ g) : PartsN w g (.slice (some ⟨pg, 0, none⟩) 3 3) [p0, p1, p2] := by
 refine ⟨_, _, rfl, fun _ => ⟨pg, 0, rfl, hne, fun i hi => ?_⟩⟩
 match i, hi with
 | 0, _ => exact ⟨v0, h.cell_is rfl, h0⟩
 | 1, _ => exact ⟨v1, h.cell_is rfl, h1⟩
 | 2, _ => exact ⟨v2, h.cell_is rfl, h2⟩
def keyS : ByteArray := { data := #[109, 111, 110, 101, 121, 101, 114, 47, 107, 101, 121] }
def keyK (K s0 : List Wd) (l : LeafT) : List Nat := tagD K s0 keyS (l.id ++ (l.ow ++ [plB l]))
theorem boxes_key (w : World) (LC : List Value) (Z : Array Value) : ∃ W1, W1 = (((w.alloc (.cells LC.toArray 32))).alloc (.cells Z 27)) ∧
  Has W1 (w.heap.size) 32 LC.toArray ∧ Has W1 (w.heap.size + 1) 27 Z ∧ Below w.heap.size w W1 := by
 refine ⟨_, rfl, (Has.new w _ _).alloc _, ?_, ((Below.refl _ _).alloc (Nat.le_refl _) _).alloc (by simp) _⟩
 have := Has.new (w.alloc (.cells LC.toArray 32)) 27 Z
 simpa using this
theorem set_box {W V : World} {B G : Nat} {t : TypeId} {Z : Array Value} {L : List Value} (h : Below B W V) (hz : Has V G t Z) (hG : B ≤ G) (hBW : B ≤ V.heap.size) (hl : Z.size = L.length) : Below B W (V.setCells G 0 L) ∧ Has (V.setCells G 0 L) G t L.toArray ∧ Kept (fun k => k = G) V (V.setCells G 0 L) := by
 obtain ⟨cur', p1, p2, p3, p4⟩ := Has.setCells L 0 V Z hz
 refine ⟨h.trans (p4.below hBW (fun j e => by have e' : j = G := e; omega)), ?_, p4⟩
 have : cur' = L.toArray := by
  apply Array.ext_getElem?
  intro i
  by_cases hi : i < Z.size
  · rw [p3 i hi, if_pos (by omega), Nat.sub_zero, List.getElem?_toArray]
  · rw [Array.getElem?_eq_none (by omega), Array.getElem?_eq_none (by simp; omega)]
 rw [← this]
 exact p1
set_option maxRecDepth 100000 in
set_option maxHeartbeats 4000000 in
theorem lfKey_is (K s0 : List Wd) (w : World) (hT : Tabs K s0 w) (l : LeafT) (h : l.ok) : Calls Tryz.prog 17 #[.agg l.cells.toArray] w fun e w' => e = .returned (arr (keyK K s0 l)) ∧ Below w.heap.size w w' := by
 obtain ⟨zk, hzk, hzs, hzn⟩ := zero_hashT
 obtain ⟨LC, hLC⟩ : ∃ L, L = l.cells := ⟨_, rfl⟩
 obtain ⟨D, hD⟩ : ∃ D, D = keyK K s0 l := ⟨_, rfl⟩
 have hph : IsHash D := by rw [hD]; exact tagD_hash K s0 hT.len _ _
 rw [← hLC, ← hD]
 have hlow := hT.low
 have HT := Lib.hid hT
 have HLC := Lib.hid hLC
 have HD := Lib.hid hD
 have HPH := Lib.hid hph
 have SZ := Lib.hid (show (Tryz.prog.info? 27).map (·.size) = some (bcells D).toArray.size by rw [List.size_toArray, bcells_length, hph.1]; kernel_rfl)
 have SZ2 := Lib.hid (show zk.size = (bcells D).length by rw [hzs, bcells_length, hph.1])
 have HOK := Lib.hid h
 clear hT hLC hD hph hzs
 go_enter Tryz.func17, Tryz.ntmps17
 go_upto_region 1 with (fail)
 obtain ⟨W1, hW1, h1, h2, hb1⟩ := boxes_key w LC zk
 rw [← hW1]
 clear hW1
 obtain ⟨B, hB⟩ : ∃ b, b = w.heap.size := ⟨_, rfl⟩
 rw [← hB] at h1 h2 hb1 hlow ⊢
 have hBS : B + 1 < W1.heap.size := h2.lt
 have HBQ := Lib.hid hB
 clear hB
 have HTB := Lib.hid (show ∀ v : World, Below B w v → Tabs K s0 v from fun v hv => by
   have hl2 := hlow
   rw [HBQ.out] at hv hl2
   exact HT.out.below hv hl2)
 have hwr : IntKind.u8.wrap l.pl = (plB l : Int) := by rw [IntKind.wrap_u8]; unfold plB; omega
 obtain ⟨q, hq⟩ : ∃ q, q = plB l := ⟨_, rfl⟩
 obtain ⟨pl, hpl⟩ : ∃ q, q = l.pl := ⟨_, rfl⟩
 rw [← hq, ← hpl] at hwr
 have hq256 : q < 256 := by rw [hq]; exact plB_lt l
 have HC := Lib.hid (show ∀ v : World, Has v B 32 LC.toArray → v.cell? ⟨B, 65, none⟩ = some (.int .i64 pl) from fun v hv => hv.cell_is (by rw [List.getElem?_toArray, HLC.out, hpl]; exact LeafT.at_pl HOK.out))
 have HBY := Lib.hid (show ∀ (v : World) (g : Nat), B < g → Has v B 32 LC.toArray → Bytes v g (.slice (some ⟨B, 0, none⟩) 32 32) l.id ∧ Bytes v g (.slice (some ⟨B, 33, none⟩) 32 32) l.ow from fun v g hg hv => by
   obtain ⟨p1, p2⟩ := leaf_bytes HOK.out (by rw [← HLC.out]; exact hv) v.heap.size (Nat.le_refl _)
   obtain ⟨a1, c1, e1, q1, q2, q3⟩ := p1
   obtain ⟨a2, c2, e2, r1, r2, r3⟩ := p2
   injection e1 with e11 e12 e13
   injection e2 with e21 e22 e23
   subst e11 e13 e21 e23
   refine ⟨⟨_, _, by rw [HOK.out.id.1], q1, q2, fun h0 => ?_⟩, ⟨_, _, by rw [HOK.out.ow.1], r1, r2, fun h0 => ?_⟩⟩
   · obtain ⟨bg, bo, e, _, hc⟩ := q3 h0
     injection e with e
     injection e with e3 e4
     subst e3 e4
     exact ⟨_, _, rfl, by omega, hc⟩
   · obtain ⟨bg, bo, e, _, hc⟩ := r3 h0
     injection e with e
     injection e with e3 e4
     subst e3 e4
     exact ⟨_, _, rfl, by omega, hc⟩)
 have hS0 : Has W1.drew B 32 LC.toArray ∧ Below B w W1.drew := ⟨h1, below_drew hb1⟩
 have hz : Has W1.drew (B + 1) 27 zk := h2
 have hBW : B + 1 < W1.drew.heap.size := hBS
 have HWR := Lib.hid hwr
 have EQ := Lib.hid hq
 clear hb1 h1 h2 hwr hq hpl h hBS
 have HDQ := Lib.hid (show tagD K s0 keyS [l.id, l.ow, [q]].flatten = D by rw [HD.out, EQ.out]; unfold keyK; simp)
 have HLN := Lib.hid (show [l.id, l.ow, [q]].flatten.length ≤ 100000000 by simp [HOK.out.id.1, HOK.out.ow.1])
 refine wp_region_noPanic ?_
 refine wp_region_held_drew (S := (fun v => Has v B 32 LC.toArray ∧ Below B w v)) (by kernel_rfl) hS0 (fun hH0 => ?_)
 apply tk 1 (v := _) rfl (Or.inl ⟨by kernel_rfl, ?hv⟩) hH0 ?_
 case hv => intro w' hS; have z0 := HC.out w' hS.1; have z1 := HWR.out; go_simp; try exact rfl
 simp only [Act.put, qa]
 apply tk 2 (v := _) rfl (Or.inl ⟨by kernel_rfl, ?hv⟩) hH0 ?_
 case hv => intro w' hS; have z0 := HC.out w' hS.1; have z1 := HWR.out; go_simp; try exact rfl
 simp only [Act.put, qa]
 apply tk 3 (v := _) rfl (Or.inl ⟨by kernel_rfl, ?hv⟩) hH0 ?_
 case hv => intro w' hS; have z0 := HC.out w' hS.1; have z1 := HWR.out; go_simp; try exact rfl
 simp only [Act.put, qa]
 apply tk 4 (v := _) rfl (Or.inl ⟨by kernel_rfl, ?hv⟩) hH0 ?_
 case hv => intro w' hS; have z0 := HC.out w' hS.1; have z1 := HWR.out; go_simp; try exact rfl
 simp only [Act.put, qa]
 apply tk 5 (v := _) rfl (Or.inl ⟨by kernel_rfl, ?hv⟩) hH0 ?_
 case hv => intro w' hS; have z0 := HC.out w' hS.1; have z1 := HWR.out; go_simp; try exact rfl
 simp only [Act.put, qa]
 apply tk 6 (v := _) rfl (Or.inl ⟨by kernel_rfl, ?hv⟩) hH0 ?_
 case hv => intro w' hS; have z0 := HC.out w' hS.1; have z1 := HWR.out; go_simp; try exact rfl
 simp only [Act.put, qa]
 apply tk 7 (v := _) rfl (Or.inl ⟨by kernel_rfl, ?hv⟩) hH0 ?_
 case hv => intro w' hS; have z0 := HC.out w' hS.1; have z1 := HWR.out; go_simp; try exact rfl
 simp only [Act.put, qa]
 refine wpAnyH_ready (rs := [0, 8]) (by kernel_rfl) (by simp) ?_
 refine AllReadyH.cons rfl (fun KK hKK => ?_) (AllReadyH.cons rfl (fun KK hKK => ?_) AllReadyH.nil)
 · go_simp
   refine (newTag_is keyS _).mono ?_
   rintro _ x0 ⟨rfl, hx0⟩
   have hnx0 : Below W1.drew.heap.size W1.drew x0 := by rw [hx0]; exact (Below.refl _ _).alloc (Nat.le_refl _) _
   have hg : Has x0 W1.drew.heap.size 178 (tag0 keyS).toArray := by rw [hx0]; exact Has.new _ _ _
   have hgb : B + 1 < W1.drew.heap.size := hBW
   obtain ⟨G, hG⟩ : ∃ g, g = W1.drew.heap.size := ⟨_, rfl⟩
   first | rw [← hG] | (have hG2 : W1.heap.size = G := hG.symm; rw [hG2])
   rw [← hG] at hg
   rw [← hG] at hgb
   clear hG
   have hsx0 : Has x0 B 32 LC.toArray ∧ Below B w x0 := ⟨hH0.1.below hnx0 hH0.1.lt, hH0.2.trans (hnx0.mono (Nat.le_of_lt (Nat.lt_of_succ_lt hBW)))⟩
   replace hz := hz.below hnx0 hz.lt
   try replace hq1 := hq1.below hnx0 hq1.lt
   try replace hp := hp.below hnx0 hp.lt
   replace hBW : B + 1 < x0.heap.size := Nat.lt_of_lt_of_le hBW hnx0.size
   clear hx0
   refine Shut.out hKK _ _ hsx0 (fun hH1 => ?_)
   clear hKK KK
   try simp only [Act.put, qa]
   refine wpAnyH_ready (rs := [8]) (by kernel_rfl) (by simp) ?_
   refine AllReadyH.cons rfl (fun KK hKK => ?_) AllReadyH.nil
   refine step_buildN rfl 48 5 1 _ rfl _ 1 1 Tryz.underlying48 info_u8 [.tmp 10] rfl [.int .u8 (q : Int)] rfl (by simp [Value.cells]) rfl rfl (by decide) (by decide) (by decide) ?_
   try rw [show [Value.int IntKind.u8 (q : Int)].flatMap (fun v => v.cells.toList) = [.int .u8 (q : Int)] from rfl]
   obtain ⟨x8, hx8⟩ : ∃ y, y = x0.alloc (.cells #[.int .u8 (q : Int)] 5) := ⟨_, rfl⟩
   first | rw [← hx8] | (change KK _ (x0.alloc (.cells #[.int .u8 (q : Int)] 5)); rw [← hx8])
   have hnx8 : Below x0.heap.size x0 x8 := by rw [hx8]; exact (Below.refl _ _).alloc (Nat.le_refl _) _
   have hq1 : Has x8 x0.heap.size 5 #[.int .u8 (q : Int)] := by rw [hx8]; exact Has.new _ _ _
   have hq1b : B + 1 < x0.heap.size := hBW
   obtain ⟨Q, hQ⟩ : ∃ g, g = x0.heap.size := ⟨_, rfl⟩
   first | rw [← hQ] | (have hQ2 : W1.heap.size = Q := hQ.symm; rw [hQ2])
   rw [← hQ] at hq1
   rw [← hQ] at hq1b
   clear hQ
   have hsx8 : Has x8 B 32 LC.toArray ∧ Below B w x8 := ⟨hH1.1.below hnx8 hH1.1.lt, hH1.2.trans (hnx8.mono (Nat.le_of_lt (Nat.lt_of_succ_lt hBW)))⟩
   replace hz := hz.below hnx8 hz.lt
   try replace hg := hg.below hnx8 hg.lt
   replace hBW : B + 1 < x8.heap.size := Nat.lt_of_lt_of_le hBW hnx8.size
   clear hx8
   refine Shut.out hKK _ _ hsx8 (fun hH2 => ?_)
   clear hKK KK
   try simp only [Act.put, qa]
   refine wpAnyH_ready (rs := [9]) (by kernel_rfl) (by simp) ?_
   refine AllReadyH.cons rfl (fun KK hKK => ?_) AllReadyH.nil
   refine step_buildN rfl 121 48 3 _ rfl _ 1 24 Tryz.underlying121 info_slice [.tmp 5, .tmp 7, .tmp 11] rfl [.slice (some ⟨B, 0, none⟩) 32 32, .slice (some ⟨B, 33, none⟩) 32 32, .slice (some ⟨Q, 0, none⟩) 1 1] rfl (by simp [Value.cells]) rfl rfl (by decide) (by decide) (by decide) ?_
   obtain ⟨x9, hx9⟩ : ∃ y, y = x8.alloc (.cells #[.slice (some ⟨B, 0, none⟩) 32 32, .slice (some ⟨B, 33, none⟩) 32 32, .slice (some ⟨Q, 0, none⟩) 1 1] 48) := ⟨_, rfl⟩
   first | rw [← hx9] | (change KK _ (x8.alloc (.cells #[.slice (some ⟨B, 0, none⟩) 32 32, .slice (some ⟨B, 33, none⟩) 32 32, .slice (some ⟨Q, 0, none⟩) 1 1] 48)); rw [← hx9])
   have hnx9 : Below x8.heap.size x8 x9 := by rw [hx9]; exact (Below.refl _ _).alloc (Nat.le_refl _) _
   have hp : Has x9 x8.heap.size 48 #[.slice (some ⟨B, 0, none⟩) 32 32, .slice (some ⟨B, 33, none⟩) 32 32, .slice (some ⟨Q, 0, none⟩) 1 1] := by rw [hx9]; exact Has.new _ _ _
   have hpb : B + 1 < x8.heap.size := hBW
   obtain ⟨R, hR⟩ : ∃ g, g = x8.heap.size := ⟨_, rfl⟩
   first | rw [← hR] | (have hR2 : W1.heap.size = R := hR.symm; rw [hR2])
   rw [← hR] at hp
   rw [← hR] at hpb
   clear hR
   have hsx9 : Has x9 B 32 LC.toArray ∧ Below B w x9 := ⟨hH2.1.below hnx9 hH2.1.lt, hH2.2.trans (hnx9.mono (Nat.le_of_lt (Nat.lt_of_succ_lt hBW)))⟩
   replace hz := hz.below hnx9 hz.lt
   try replace hg := hg.below hnx9 hg.lt
   try replace hq1 := hq1.below hnx9 hq1.lt
   replace hBW : B + 1 < x9.heap.size := Nat.lt_of_lt_of_le hBW hnx9.size
   clear hx9
   refine Shut.out hKK _ _ hsx9 (fun hH3 => ?_)
   clear hKK KK
   try simp only [Act.put, qa]
   refine wpAnyH_ready (rs := [10]) (by kernel_rfl) (by simp) ?_
   refine AllReadyH.cons rfl (fun KK hKK => ?_) AllReadyH.nil
   go_simp
   have hq2 := hq1.ne hg (by decide)
   have hp2 := hp.ne hg (by decide)
   have hby := HBY.out _ G (Nat.lt_of_succ_lt hgb) hH3.1
   have hsum := tagSum_is K s0 _ (HTB.out _ hH3.2) G keyS (by decide) (by omega) hg _ [l.id, l.ow, [q]] (partsN_three hp hby.1 hby.2 (one_by hq1 hq256 G hq2) hp2) HLN.out (by simp)
   rw [HDQ.out] at hsum
   unfold arr at hsum
   refine hsum.mono ?_
   rintro _ xa ⟨rfl, hka⟩
   have hsxa : Has xa B 32 LC.toArray ∧ Below B w xa := ⟨hH3.1.kept hka (by omega), hH3.2.trans (hka.below (Nat.le_of_lt (Nat.lt_of_succ_lt hBW)) (fun j e => by have e' : j = G := e; omega))⟩
   replace hz := hz.kept hka (by omega)
   replace hBW : B + 1 < xa.heap.size := Nat.lt_of_lt_of_le hBW hka.size
   clear hsum hby hka
   refine Shut.out hKK _ _ hsxa (fun hH4 => ?_)
   clear hKK KK
   try simp only [Act.put, qa]
   refine wpAnyH_ready (rs := [11]) (by kernel_rfl) (by simp) ?_
   refine AllReadyH.cons rfl (fun KK hKK => ?_) AllReadyH.nil
   refine step_store_mid rfl 27 (.tmp 2) (.tmp 13) rfl (B + 1) 0 (bcells D).toArray rfl rfl (hz.there 0 _ (by rw [List.size_toArray, SZ2.out]; exact Nat.le_of_eq (Nat.zero_add _))) SZ.out (all_oneCell_toArray (bcells_one D)) ?_
   have hset := set_box hH4.2 hz (Nat.le_succ B) (Nat.le_of_lt (Nat.lt_of_succ_lt hBW)) SZ2.out
   obtain ⟨xb, hxb⟩ : ∃ y, y = xa.setCells (B + 1) 0 (bcells D) := ⟨_, rfl⟩
   rw [← hxb] at hset
   change KK _ (xa.setCells (B + 1) 0 (bcells D))
   rw [← hxb]
   have hsxb : Has xb B 32 LC.toArray ∧ Below B w xb := ⟨hH4.1.kept hset.2.2 (by omega), hset.1⟩
   clear hxb
   refine Shut.out hKK _ _ hsxb (fun hH5 => ?_)
   clear hKK KK
   try simp only [Act.put, qa]
   refine wpAnyH_done (by kernel_rfl) ?_ _
   refine NoPanic.normal ?_
   have HF := Lib.hid hset.2.1
   have HBF := Lib.hid hset.1
   clear hset hsxb
   go_wp2_with fail
   refine bodyPost_ret (results_cell_row rfl _ _ (B + 1) 27 (bcells D).toArray (0, 0) _ rfl HF.out Tryz.underlying27 rfl SZ.out) rfl ?_
   exact ⟨rfl, by have := HBF.out; rwa [HBQ.out] at this⟩
 · refine step_buildN rfl 48 5 1 _ rfl _ 1 1 Tryz.underlying48 info_u8 [.tmp 10] rfl [.int .u8 (q : Int)] rfl (by simp [Value.cells]) rfl rfl (by decide) (by decide) (by decide) ?_
   try rw [show [Value.int IntKind.u8 (q : Int)].flatMap (fun v => v.cells.toList) = [.int .u8 (q : Int)] from rfl]
   obtain ⟨x8, hx8⟩ : ∃ y, y = W1.drew.alloc (.cells #[.int .u8 (q : Int)] 5) := ⟨_, rfl⟩
   first | rw [← hx8] | (change KK _ (W1.drew.alloc (.cells #[.int .u8 (q : Int)] 5)); rw [← hx8])
   have hnx8 : Below W1.drew.heap.size W1.drew x8 := by rw [hx8]; exact (Below.refl _ _).alloc (Nat.le_refl _) _
   have hq1 : Has x8 W1.drew.heap.size 5 #[.int .u8 (q : Int)] := by rw [hx8]; exact Has.new _ _ _
   have hq1b : B + 1 < W1.drew.heap.size := hBW
   obtain ⟨Q, hQ⟩ : ∃ g, g = W1.drew.heap.size := ⟨_, rfl⟩
   first | rw [← hQ] | (have hQ2 : W1.heap.size = Q := hQ.symm; rw [hQ2])
   rw [← hQ] at hq1
   rw [← hQ] at hq1b
   clear hQ
   have hsx8 : Has x8 B 32 LC.toArray ∧ Below B w x8 := ⟨hH0.1.below hnx8 hH0.1.lt, hH0.2.trans (hnx8.mono (Nat.le_of_lt (Nat.lt_of_succ_lt hBW)))⟩
   replace hz := hz.below hnx8 hz.lt
   try replace hg := hg.below hnx8 hg.lt
   replace hBW : B + 1 < x8.heap.size := Nat.lt_of_lt_of_le hBW hnx8.size
   clear hx8
   refine Shut.out hKK _ _ hsx8 (fun hH1 => ?_)
   clear hKK KK
   try simp only [Act.put, qa]
   refine wpAnyH_ready (rs := [0, 9]) (by kernel_rfl) (by simp) ?_
   refine AllReadyH.cons rfl (fun KK hKK => ?_) (AllReadyH.cons rfl (fun KK hKK => ?_) AllReadyH.nil)
   · go_simp
     refine (newTag_is keyS _).mono ?_
     rintro _ x0 ⟨rfl, hx0⟩
     have hnx0 : Below x8.heap.size x8 x0 := by rw [hx0]; exact (Below.refl _ _).alloc (Nat.le_refl _) _
     have hg : Has x0 x8.heap.size 178 (tag0 keyS).toArray := by rw [hx0]; exact Has.new _ _ _
     have hgb : B + 1 < x8.heap.size := hBW
     obtain ⟨G, hG⟩ : ∃ g, g = x8.heap.size := ⟨_, rfl⟩
     first | rw [← hG] | (have hG2 : W1.heap.size = G := hG.symm; rw [hG2])
     rw [← hG] at hg
     rw [← hG] at hgb
     clear hG
     have hsx0 : Has x0 B 32 LC.toArray ∧ Below B w x0 := ⟨hH1.1.below hnx0 hH1.1.lt, hH1.2.trans (hnx0.mono (Nat.le_of_lt (Nat.lt_of_succ_lt hBW)))⟩
     replace hz := hz.below hnx0 hz.lt
     try replace hq1 := hq1.below hnx0 hq1.lt
     try replace hp := hp.below hnx0 hp.lt
     replace hBW : B + 1 < x0.heap.size := Nat.lt_of_lt_of_le hBW hnx0.size
     clear hx0
     refine Shut.out hKK _ _ hsx0 (fun hH2 => ?_)
     clear hKK KK
     try simp only [Act.put, qa]
     refine wpAnyH_ready (rs := [9]) (by kernel_rfl) (by simp) ?_
     refine AllReadyH.cons rfl (fun KK hKK => ?_) AllReadyH.nil
     refine step_buildN rfl 121 48 3 _ rfl _ 1 24 Tryz.underlying121 info_slice [.tmp 5, .tmp 7, .tmp 11] rfl [.slice (some ⟨B, 0, none⟩) 32 32, .slice (some ⟨B, 33, none⟩) 32 32, .slice (some ⟨Q, 0, none⟩) 1 1] rfl (by simp [Value.cells]) rfl rfl (by decide) (by decide) (by decide) ?_
     obtain ⟨x9, hx9⟩ : ∃ y, y = x0.alloc (.cells #[.slice (some ⟨B, 0, none⟩) 32 32, .slice (some ⟨B, 33, none⟩) 32 32, .slice (some ⟨Q, 0, none⟩) 1 1] 48) := ⟨_, rfl⟩
     first | rw [← hx9] | (change KK _ (x0.alloc (.cells #[.slice (some ⟨B, 0, none⟩) 32 32, .slice (some ⟨B, 33, none⟩) 32 32, .slice (some ⟨Q, 0, none⟩) 1 1] 48)); rw [← hx9])
     have hnx9 : Below x0.heap.size x0 x9 := by rw [hx9]; exact (Below.refl _ _).alloc (Nat.le_refl _) _
     have hp : Has x9 x0.heap.size 48 #[.slice (some ⟨B, 0, none⟩) 32 32, .slice (some ⟨B, 33, none⟩) 32 32, .slice (some ⟨Q, 0, none⟩) 1 1] := by rw [hx9]; exact Has.new _ _ _
     have hpb : B + 1 < x0.heap.size := hBW
     obtain ⟨R, hR⟩ : ∃ g, g = x0.heap.size := ⟨_, rfl⟩
     first | rw [← hR] | (have hR2 : W1.heap.size = R := hR.symm; rw [hR2])
     rw [← hR] at hp
     rw [← hR] at hpb
     clear hR
     have hsx9 : Has x9 B 32 LC.toArray ∧ Below B w x9 := ⟨hH2.1.below hnx9 hH2.1.lt, hH2.2.trans (hnx9.mono (Nat.le_of_lt (Nat.lt_of_succ_lt hBW)))⟩
     replace hz := hz.below hnx9 hz.lt
     try replace hg := hg.below hnx9 hg.lt
     try replace hq1 := hq1.below hnx9 hq1.lt
     replace hBW : B + 1 < x9.heap.size := Nat.lt_of_lt_of_le hBW hnx9.size
     clear hx9
     refine Shut.out hKK _ _ hsx9 (fun hH3 => ?_)
     clear hKK KK
     try simp only [Act.put, qa]
     refine wpAnyH_ready (rs := [10]) (by kernel_rfl) (by simp) ?_
     refine AllReadyH.cons rfl (fun KK hKK => ?_) AllReadyH.nil
     go_simp
     have hq2 := hq1.ne hg (by decide)
     have hp2 := hp.ne hg (by decide)
     have hby := HBY.out _ G (Nat.lt_of_succ_lt hgb) hH3.1
     have hsum := tagSum_is K s0 _ (HTB.out _ hH3.2) G keyS (by decide) (by omega) hg _ [l.id, l.ow, [q]] (partsN_three hp hby.1 hby.2 (one_by hq1 hq256 G hq2) hp2) HLN.out (by simp)
     rw [HDQ.out] at hsum
     unfold arr at hsum
     refine hsum.mono ?_
     rintro _ xa ⟨rfl, hka⟩
     have hsxa : Has xa B 32 LC.toArray ∧ Below B w xa := ⟨hH3.1.kept hka (by omega), hH3.2.trans (hka.below (Nat.le_of_lt (Nat.lt_of_succ_lt hBW)) (fun j e => by have e' : j = G := e; omega))⟩
     replace hz := hz.kept hka (by omega)
     replace hBW : B + 1 < xa.heap.size := Nat.lt_of_lt_of_le hBW hka.size
     clear hsum hby hka
     refine Shut.out hKK _ _ hsxa (fun hH4 => ?_)
     clear hKK KK
     try simp only [Act.put, qa]
     refine wpAnyH_ready (rs := [11]) (by kernel_rfl) (by simp) ?_
     refine AllReadyH.cons rfl (fun KK hKK => ?_) AllReadyH.nil
     refine step_store_mid rfl 27 (.tmp 2) (.tmp 13) rfl (B + 1) 0 (bcells D).toArray rfl rfl (hz.there 0 _ (by rw [List.size_toArray, SZ2.out]; exact Nat.le_of_eq (Nat.zero_add _))) SZ.out (all_oneCell_toArray (bcells_one D)) ?_
     have hset := set_box hH4.2 hz (Nat.le_succ B) (Nat.le_of_lt (Nat.lt_of_succ_lt hBW)) SZ2.out
     obtain ⟨xb, hxb⟩ : ∃ y, y = xa.setCells (B + 1) 0 (bcells D) := ⟨_, rfl⟩
     rw [← hxb] at hset
     change KK _ (xa.setCells (B + 1) 0 (bcells D))
     rw [← hxb]
     have hsxb : Has xb B 32 LC.toArray ∧ Below B w xb := ⟨hH4.1.kept hset.2.2 (by omega), hset.1⟩
     clear hxb
     refine Shut.out hKK _ _ hsxb (fun hH5 => ?_)
     clear hKK KK
     try simp only [Act.put, qa]
     refine wpAnyH_done (by kernel_rfl) ?_ _
     refine NoPanic.normal ?_
     have HF := Lib.hid hset.2.1
     have HBF := Lib.hid hset.1
     clear hset hsxb
     go_wp2_with fail
     refine bodyPost_ret (results_cell_row rfl _ _ (B + 1) 27 (bcells D).toArray (0, 0) _ rfl HF.out Tryz.underlying27 rfl SZ.out) rfl ?_
     exact ⟨rfl, by have := HBF.out; rwa [HBQ.out] at this⟩
   · refine step_buildN rfl 121 48 3 _ rfl _ 1 24 Tryz.underlying121 info_slice [.tmp 5, .tmp 7, .tmp 11] rfl [.slice (some ⟨B, 0, none⟩) 32 32, .slice (some ⟨B, 33, none⟩) 32 32, .slice (some ⟨Q, 0, none⟩) 1 1] rfl (by simp [Value.cells]) rfl rfl (by decide) (by decide) (by decide) ?_
     obtain ⟨x9, hx9⟩ : ∃ y, y = x8.alloc (.cells #[.slice (some ⟨B, 0, none⟩) 32 32, .slice (some ⟨B, 33, none⟩) 32 32, .slice (some ⟨Q, 0, none⟩) 1 1] 48) := ⟨_, rfl⟩
     first | rw [← hx9] | (change KK _ (x8.alloc (.cells #[.slice (some ⟨B, 0, none⟩) 32 32, .slice (some ⟨B, 33, none⟩) 32 32, .slice (some ⟨Q, 0, none⟩) 1 1] 48)); rw [← hx9])
     have hnx9 : Below x8.heap.size x8 x9 := by rw [hx9]; exact (Below.refl _ _).alloc (Nat.le_refl _) _
     have hp : Has x9 x8.heap.size 48 #[.slice (some ⟨B, 0, none⟩) 32 32, .slice (some ⟨B, 33, none⟩) 32 32, .slice (some ⟨Q, 0, none⟩) 1 1] := by rw [hx9]; exact Has.new _ _ _
     have hpb : B + 1 < x8.heap.size := hBW
     obtain ⟨R, hR⟩ : ∃ g, g = x8.heap.size := ⟨_, rfl⟩
     first | rw [← hR] | (have hR2 : W1.heap.size = R := hR.symm; rw [hR2])
     rw [← hR] at hp
     rw [← hR] at hpb
     clear hR
     have hsx9 : Has x9 B 32 LC.toArray ∧ Below B w x9 := ⟨hH1.1.below hnx9 hH1.1.lt, hH1.2.trans (hnx9.mono (Nat.le_of_lt (Nat.lt_of_succ_lt hBW)))⟩
     replace hz := hz.below hnx9 hz.lt
     try replace hg := hg.below hnx9 hg.lt
     try replace hq1 := hq1.below hnx9 hq1.lt
     replace hBW : B + 1 < x9.heap.size := Nat.lt_of_lt_of_le hBW hnx9.size
     clear hx9
     refine Shut.out hKK _ _ hsx9 (fun hH2 => ?_)
     clear hKK KK
     try simp only [Act.put, qa]
     refine wpAnyH_ready (rs := [0]) (by kernel_rfl) (by simp) ?_
     refine AllReadyH.cons rfl (fun KK hKK => ?_) AllReadyH.nil
     go_simp
     refine (newTag_is keyS _).mono ?_
     rintro _ x0 ⟨rfl, hx0⟩
     have hnx0 : Below x9.heap.size x9 x0 := by rw [hx0]; exact (Below.refl _ _).alloc (Nat.le_refl _) _
     have hg : Has x0 x9.heap.size 178 (tag0 keyS).toArray := by rw [hx0]; exact Has.new _ _ _
     have hgb : B + 1 < x9.heap.size := hBW
     obtain ⟨G, hG⟩ : ∃ g, g = x9.heap.size := ⟨_, rfl⟩
     first | rw [← hG] | (have hG2 : W1.heap.size = G := hG.symm; rw [hG2])
     rw [← hG] at hg
     rw [← hG] at hgb
     clear hG
     have hsx0 : Has x0 B 32 LC.toArray ∧ Below B w x0 := ⟨hH2.1.below hnx0 hH2.1.lt, hH2.2.trans (hnx0.mono (Nat.le_of_lt (Nat.lt_of_succ_lt hBW)))⟩
     replace hz := hz.below hnx0 hz.lt
     try replace hq1 := hq1.below hnx0 hq1.lt
     try replace hp := hp.below hnx0 hp.lt
     replace hBW : B + 1 < x0.heap.size := Nat.lt_of_lt_of_le hBW hnx0.size
     clear hx0
     refine Shut.out hKK _ _ hsx0 (fun hH3 => ?_)
     clear hKK KK
     try simp only [Act.put, qa]
     refine wpAnyH_ready (rs := [10]) (by kernel_rfl) (by simp) ?_
     refine AllReadyH.cons rfl (fun KK hKK => ?_) AllReadyH.nil
     go_simp
     have hq2 := hq1.ne hg (by decide)
     have hp2 := hp.ne hg (by decide)
     have hby := HBY.out _ G (Nat.lt_of_succ_lt hgb) hH3.1
     have hsum := tagSum_is K s0 _ (HTB.out _ hH3.2) G keyS (by decide) (by omega) hg _ [l.id, l.ow, [q]] (partsN_three hp hby.1 hby.2 (one_by hq1 hq256 G hq2) hp2) HLN.out (by simp)
     rw [HDQ.out] at hsum
     unfold arr at hsum
     refine hsum.mono ?_
     rintro _ xa ⟨rfl, hka⟩
     have hsxa : Has xa B 32 LC.toArray ∧ Below B w xa := ⟨hH3.1.kept hka (by omega), hH3.2.trans (hka.below (Nat.le_of_lt (Nat.lt_of_succ_lt hBW)) (fun j e => by have e' : j = G := e; omega))⟩
     replace hz := hz.kept hka (by omega)
     replace hBW : B + 1 < xa.heap.size := Nat.lt_of_lt_of_le hBW hka.size
     clear hsum hby hka
     refine Shut.out hKK _ _ hsxa (fun hH4 => ?_)
     clear hKK KK
     try simp only [Act.put, qa]
     refine wpAnyH_ready (rs := [11]) (by kernel_rfl) (by simp) ?_
     refine AllReadyH.cons rfl (fun KK hKK => ?_) AllReadyH.nil
     refine step_store_mid rfl 27 (.tmp 2) (.tmp 13) rfl (B + 1) 0 (bcells D).toArray rfl rfl (hz.there 0 _ (by rw [List.size_toArray, SZ2.out]; exact Nat.le_of_eq (Nat.zero_add _))) SZ.out (all_oneCell_toArray (bcells_one D)) ?_
     have hset := set_box hH4.2 hz (Nat.le_succ B) (Nat.le_of_lt (Nat.lt_of_succ_lt hBW)) SZ2.out
     obtain ⟨xb, hxb⟩ : ∃ y, y = xa.setCells (B + 1) 0 (bcells D) := ⟨_, rfl⟩
     rw [← hxb] at hset
     change KK _ (xa.setCells (B + 1) 0 (bcells D))
     rw [← hxb]
     have hsxb : Has xb B 32 LC.toArray ∧ Below B w xb := ⟨hH4.1.kept hset.2.2 (by omega), hset.1⟩
     clear hxb
     refine Shut.out hKK _ _ hsxb (fun hH5 => ?_)
     clear hKK KK
     try simp only [Act.put, qa]
     refine wpAnyH_done (by kernel_rfl) ?_ _
     refine NoPanic.normal ?_
     have HF := Lib.hid hset.2.1
     have HBF := Lib.hid hset.1
     clear hset hsxb
     go_wp2_with fail
     refine bodyPost_ret (results_cell_row rfl _ _ (B + 1) 27 (bcells D).toArray (0, 0) _ rfl HF.out Tryz.underlying27 rfl SZ.out) rfl ?_
     exact ⟨rfl, by have := HBF.out; rwa [HBQ.out] at this⟩
end Go.Proofs.YtknfbccbdiidjaaGreatDoor

