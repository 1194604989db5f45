/- The walk of LeafWays. -/
import Derived.Test.YtngmpcmeebcdmaaDoorLw0
namespace Go.Proofs.YtngmpcmeebcdmaaDoor
set_option linter.unusedVariables false
set_option linter.unusedSimpArgs false
open Go.ChangeShapes Go.WideShapes Go.ChangeAt Go.RowKit Go.Maps

theorem and_1023 (n : Int) (h1 : -9223372036854775808 ≤ n) (h2 : n ≤ 9223372036854775807) : bits BinOp.and .i64 n 1023 = n % 1024 := by
  unfold bits
  have e : (BitVec.ofInt IntKind.i64.bits n &&& BitVec.ofInt IntKind.i64.bits 1023).toNat = (n % 1024).toNat := by
    show (BitVec.ofInt 64 n &&& BitVec.ofInt 64 1023).toNat = _
    rw [BitVec.toNat_and, BitVec.toNat_ofInt, BitVec.toNat_ofInt]
    have h31 : ((1023 : Int) % ((2 ^ 64 : Nat) : Int)).toNat = 2 ^ 10 - 1 := by decide
    rw [h31, Nat.and_two_pow_sub_one_eq_mod]
    have : ((2 ^ 64 : Nat) : Int) = 18446744073709551616 := by decide
    rw [this]
    show _ % 1024 = _
    omega
  simp only [e]
  rw [IntKind.wrap_i64]
  omega
theorem build_proof (bb : List Nat) (hb : bb.length = 32) (a : Option Addr) (n c : Nat) (w : World) : (Instr.build 56 #[(0, .agg (bcells bb).toArray), (1, .slice a n c)]).run Tryd.prog w = .ok (.agg (pcells bb a n c).toArray) w := by
  obtain ⟨d0, d1, d2, d3, d4, d5, d6, d7, d8, d9, d10, d11, d12, d13, d14, d15, d16, d17, d18, d19, d20, d21, d22, d23, d24, d25, d26, d27, d28, d29, d30, d31, rfl⟩ := thirty_two bb hb
  exact run_build w 56 _ _ (by kernel_rfl)
/-- the node that is one too many. -/
def oneNd : Nd := ⟨List.replicate 32 0, 1⟩
theorem build_one (w : World) : (Instr.build 58 #[(1, .int .u64 1)]).run Tryd.prog w = .ok (.agg (ndV oneNd).toArray) w := by kernel_rfl
theorem nodes_rows {w : World} {a : Option Addr} {n : Nat} {xs : List Nd} (h : NodesAt w a n xs) : RowsAt ndV 33 w a n xs := ⟨h.len, fun x hx => ndV_len (h.hash x hx), h.at_⟩
theorem nodes_take {w : World} {a : Option Addr} {n : Nat} {xs : List Nd} (h : NodesAt w a n xs) (k : Nat) (hk : k ≤ n) : NodesAt w a k (xs.take k) := by
  refine ⟨by rw [List.length_take, h.len]; omega, fun x hx => h.hash x (List.mem_of_mem_take hx), fun x hx => h.fits x (List.mem_of_mem_take hx), fun hp => ?_⟩
  obtain ⟨b, o, e, hb, hr⟩ := h.at_ (by omega)
  refine ⟨b, o, e, hb, fun i x hx => hr i x ?_⟩
  rw [List.getElem?_take] at hx
  split at hx
  · exact hx
  · cases hx
theorem yieldsIf_slice {P : Program} {ops : Array Oper} {S : World → Prop} {op : Oper} {a : Act} (hw : Region.wanted op (yielded ops a.tmps) = true) (t : TypeId) (x y : Operand) (ho : op.op = .slice t x none (some y) none) (ht : P.underlying t = some (.slice (P.elem t)))
    (u k : Value) (hx : a.eval x = u) (hy : a.eval y = k) (v : Value) (hrun : ∀ w, S w → (Instr.slice t u none (some k) none).run P w = .ok v w) : YieldsIf P ops S op v a :=
  .inl ⟨hw, fun w hw' => by
    unfold execOp
    simp only [ho, hx, hy, Option.map_some, Option.map_none, Sem.run_bind, run_sliceAt_slice _ t u none (some k) none ht, hrun w hw', Result.andThen_ok, Sem.run_pure]⟩
theorem mod_lt8 (k n : Nat) (h : 0 < n) : k % n < n := Nat.mod_lt k h
theorem fin16 {W V : World} {G2 : Nat} {Z : Array Value} {bb : List Nat} {xs : List Nd} {oa : Option Addr} {k oc : Nat} (hs : Below W.heap.size W V) (hown : V.ownsRow W.heap.size 58 33 (.slice oa (k + 1) oc) (k + 1) (xs.flatMap ndV ++ [oneNd].flatMap ndV)) (hz : Has V G2 56 Z) (hg : W.heap.size ≤ G2) (hZ : Z.size = (pcells bb oa (k + 1) oc).length)
    (hl : xs.length = k) (hh : ∀ x ∈ xs, IsHash x.h) (hf : ∀ x ∈ xs, x.s < 18446744073709551616) :
    Has (V.setCells G2 0 (pcells bb oa (k + 1) oc)) G2 56 (pcells bb oa (k + 1) oc).toArray ∧ NodesAt (V.setCells G2 0 (pcells bb oa (k + 1) oc)) oa (k + 1) (xs ++ [oneNd]) ∧ Below W.heap.size W (V.setCells G2 0 (pcells bb oa (k + 1) oc)) := by
  obtain ⟨p1, p2⟩ := store_new hs hz hg hZ
  have hone : ∀ x ∈ xs ++ [oneNd], IsHash x.h ∧ x.s < 18446744073709551616 := fun x hx => by
    rcases List.mem_append.1 hx with h | h
    · exact ⟨hh x h, hf x h⟩
    · rw [List.mem_singleton.1 h]; exact ⟨zNd_hash, by decide⟩
  rw [← List.flatMap_append] at hown
  have hn := (own_nodes hown (by rw [List.length_append, hl]; rfl) (fun x hx => (hone x hx).1) (fun x hx => (hone x hx).2)).1
  obtain ⟨cur', q1, q2, q3, q4⟩ := Has.setCells (pcells bb oa (k + 1) oc) 0 V Z hz
  refine ⟨p2, hn.kept q4 (fun A e => ?_), p1⟩
  have := own_has_ne hown hz (by decide) A.block (by rw [e]; rfl)
  exact this
set_option maxRecDepth 100000 in
set_option maxHeartbeats 4000000 in
theorem leafWays_walk (w : World) (hT : Tabs KS SS w) (A : Option Addr) (n c : Nat) (ls : List LeafT) (hls : RowsAt LeafT.cells 99 w A n ls) (hok : ∀ l ∈ ls, l.ok) (hnm : n ≤ 9223372036854775807) (m : Int) (hm1 : -9223372036854775808 ≤ m) (hm2 : m ≤ 9223372036854775807) (am : Nat) (ham : am < 18446744073709551616) :
    Calls Tryd.prog 10 #[.slice A n c, .int .i64 m, .int .u64 (am : Int)] w fun e w' => e = .returned (.bool true) ∧ Below w.heap.size w w' := by
  have hlow := hT.low
  have HT := Lib.hid hT
  have HLS := Lib.hid hls
  have HOK := Lib.hid hok
  have hlen := hls.len
  clear hls hok hT
  go_enter Tryd.func10, Tryd.ntmps10
  go_wp2_with fail
  refine (headL_is _ HT.out).mono ?_
  rintro _ w2 ⟨rfl, hb2⟩
  have HB2 := Lib.hid hb2
  clear hb2
  by_cases h8 : 8 < n
  · have h8' : (8 : Int) < (n : Int) := by omega
    go_wp2_with fail
    go_ret
    exact ⟨rfl, HB2.out⟩
  have h8' : ¬ (8 : Int) < (n : Int) := by omega
  have hcall := lfParts_is KS SS w2 (HT.out.below HB2.out hlow) A n c ls (HLS.out.below HB2.out) HOK.out (by omega)
  have HC := Lib.hid hcall
  clear hcall
  go_wp2_with fail
  refine HC.out.mono ?_
  rintro _ w6 ⟨hb6, hm⟩
  have HB6 := Lib.hid (HB2.out.trans (hb6.mono HB2.out.size))
  obtain ⟨R, hR⟩ : ∃ R, R = tlAt KS SS (placed ls) n := ⟨_, rfl⟩
  rw [← hR] at hm
  clear hb6 HC
  cases R with
  | error x =>
    dsimp only at hm
    subst hm
    have hx2 : (x != 0) = true := by rw [bne_iff_ne]; exact fun e => by subst e; exact tlAt_nz hR.symm
    clear hR
    go_wp2_with fail
    go_ret
    exact ⟨rfl, HB6.out⟩
  | ok T =>
  dsimp only at hm
  obtain ⟨a1, cp, rfl, hown⟩ := hm
  have HTR := Lib.hid hR.symm
  clear hR
  by_cases hn0 : n = 0
  · subst hn0
    go_wp2_with fail
    go_ret
    exact ⟨rfl, HB6.out⟩
  have hn0' : ((n : Int) == 0) = false := by rw [beq_eq_false_iff_ne]; omega
  obtain ⟨b, rfl, hg, hl, hrh, hrs, hr64, hso, hrow⟩ := parts_out HOK.out hlen (by omega) (by omega) HTR.out hown
  obtain ⟨r, hr⟩ : ∃ r, r = partNd KS SS 256 T := ⟨_, rfl⟩
  rw [← hr] at hrs hrow hso hr64 hrh
  have ER := Lib.hid hr
  have HROW := Lib.hid hrow
  have HSO := Lib.hid hso
  have HPO := Lib.hid (placed_ok HOK.out (by omega))
  clear hown hg hl hr hrow hso hrs
  obtain ⟨q, hq⟩ : ∃ q : Nat, m % 1024 = (q : Int) := ⟨(m % 1024).toNat, by omega⟩
  have hq1024 : q < 1024 := by omega
  obtain ⟨i, hi⟩ : ∃ i, i = q % n := ⟨_, rfl⟩
  have hilt : i < n := by rw [hi]; exact mod_lt8 q n (by omega)
  have hand : bits BinOp.and .i64 m 1023 = (q : Int) := by rw [and_1023 m hm1 hm2, hq]
  have hrem : Int.tmod (q : Int) (n : Int) = (i : Int) := by
    rw [hi, Int.natCast_emod]
    exact Int.tmod_eq_emod_of_nonneg (by omega)
  have HI := Lib.hid hilt
  clear hq hi hn0 hq1024 hlen
  go_upto_region 9 with (fail)
  obtain ⟨ls2, hls2⟩ : ∃ L, L = splitL r (placed ls) := ⟨_, rfl⟩
  rw [← hls2] at HROW HSO
  have htl2 : ∀ k, tlAt KS SS ls2 k = tlAt KS SS (placed ls) k := fun k => by rw [hls2]; exact tl_split r (placed ls) k
  obtain ⟨l0, hl0⟩ : ∃ l, (placed ls)[i]? = some l := ⟨_, List.getElem?_eq_getElem (by rw [placed_len, ← HLS.out.len] at *; exact HI.out)⟩
  obtain ⟨x, hx⟩ : ∃ x, x = spF r i l0 := ⟨_, rfl⟩
  have hxi : ls2[i]? = some x := by rw [hls2, hx]; exact split_get hl0
  have hxok := HSO.out x (List.mem_of_getElem? hxi)
  obtain ⟨CX, hCX⟩ : ∃ L, L = x.cells := ⟨_, rfl⟩
  have HRX := Lib.hid (show ∀ v, Below w6.heap.size w6 v → v.rangeAt b (i * 99) CX from fun v hv => by rw [hCX]; exact leaf_row (HROW.out.below hv) hxi)
  have LX := Lib.hid (show CX.length = 99 by rw [hCX]; exact LeafT.len hxok)
  have SZX := Lib.hid (show (Tryd.prog.info? 103).map (·.size) = some CX.length by rw [LX.out]; kernel_rfl)
  have HWAY := Lib.hid (show ∀ (v : World) (k : Int), -9223372036854775808 ≤ k → k ≤ 9223372036854775807 → Below w6.heap.size w6 v → Calls Tryd.prog 47 #[.slice (some ⟨b, 0, none⟩) n cp, .int .i64 k] v (WayP KS SS v n k (.ok T)) from fun v k k1 k2 hv => by
    have h := lfWay_is KS SS v (HT.out.below (HB6.out.trans (hv.mono HB6.out.size)) hlow) (some ⟨b, 0, none⟩) n cp ls2 (HROW.out.below hv) HSO.out (by omega) k k1 k2
    rw [htl2, HTR.out] at h
    exact h)
  have EX := Lib.hid hx
  have EL0 := Lib.hid hl0
  have HXOK := Lib.hid hxok
  have ECX := Lib.hid hCX
  have hai := at_leaf0 b n cp i HI.out
  obtain ⟨Zp, hzp, hzb, hzps, hzpn, HZPE⟩ := zero_proofB
  obtain ⟨LZ, hLZ⟩ : ∃ L, L = pcells (List.replicate 32 0) none 0 0 := ⟨_, rfl⟩
  have hZL : Zp = LZ.toArray := by rw [HZPE, hLZ]
  subst hZL
  have ELZ := Lib.hid hLZ
  have HLZ := Lib.hid (show LZ.length = 33 by simpa using hzps)
  have HOFG := Lib.hid (show ∀ (v : World) (l : LeafT) (bb : List Nat) (a : Option Addr) (k c : Nat) (ys : List Nd), l.ok → IsHash bb → NodesAt v a k ys → k ≤ 1000000 → Below w6.heap.size w6 v → Calls Tryd.prog 48 #[.agg l.cells.toArray, .agg (pcells bb a k c).toArray] v fun e w' => e = .returned (.int .i64 (ofE KS SS l bb ys)) ∧ Below v.heap.size v w' from fun v l bb a k c ys h1 h2 h3 h4 hv =>
    lfOf_is KS SS v (HT.out.below (HB6.out.trans (hv.mono HB6.out.size)) hlow) l h1 bb h2 a k c ys h3 h4)
  clear hls2 htl2 hl0 hx hxi hxok hCX HZPE hLZ hand hrem
  go_wp2_with fail
  refine (HWAY.out w6 (i : Int) (by omega) (by have := HI.out; omega) (Below.refl _ _)).mono ?_
  rintro _ w8 ⟨hb8, hm⟩
  dsimp only at hm
  rcases hm with ⟨hm, -⟩ | ⟨-, bb, pa, pn, pc, rfl, hpf, -, hcap⟩
  · have := HI.out; omega
  obtain ⟨xs, hxs⟩ : ∃ y, y = nodesF KS SS (besF KS SS T (placeK KS SS i)) 256 := ⟨_, rfl⟩
  replace hpf : ProofOf KS SS T (placeK KS SS i) bb pa pn w8 := hpf
  have hnod : NodesAt w8 pa pn xs := by rw [hxs]; exact hpf.nodes
  have hpn : pn ≤ 256 := by rw [← hnod.len, hxs]; exact nodesF_len 256
  obtain ⟨m0, m1, m2, m3⟩ := of_more (ls := placed ls) HPO.out (by rw [placed_len, HLS.out.len]; omega) (by rw [placed_len, HLS.out.len]; exact HTR.out) EL0.out hpf r ER.out xs hxs
  rw [← EX.out] at m0 m1 m2 m3
  have hxam : x.am = l0.am := by rw [EX.out]; rfl
  rw [← hxam] at m3
  have h12 : IsHash bb := hpf.hash
  obtain ⟨LP, hLP⟩ : ∃ L, L = pcells bb pa pn pc := ⟨_, rfl⟩
  have lp : LP.length = 33 := by rw [hLP]; exact pcells_len h12 pa pn pc
  obtain ⟨h9, hb9⟩ := new_row w8 56 LZ.toArray LP.toArray
  have hq9 : Below w6.heap.size w6 ((w8.alloc (.cells LZ.toArray 56)).setRow w8.heap.size LP.toArray) := hb8.trans (hb9.mono hb8.size)
  have SZP := Lib.hid (show (Tryd.prog.info? 56).map (·.size) = some LP.toArray.size by rw [List.size_toArray, lp]; kernel_rfl)
  have SZPL := Lib.hid (show (Tryd.prog.info? 56).map (·.size) = some LP.length by rw [lp]; kernel_rfl)
  have SZPA := Lib.hid (show (Tryd.prog.info? 56).map (·.size) = some LZ.toArray.size by rw [List.size_toArray, HLZ.out]; kernel_rfl)
  have HZP := Lib.hid (show LZ.toArray.size = LP.toArray.size by rw [List.size_toArray, List.size_toArray, HLZ.out, lp])
  have HOP := Lib.hid (show LP.toArray.all (·.oneCell') = true by rw [hLP]; exact pcells_one _ _ _ _)
  have HOZ := Lib.hid (show LZ.toArray.all (·.oneCell') = true by rw [ELZ.out]; exact pcells_one _ _ _ _)
  have hno9 := hnod.below hb9
  have H9 := Lib.hid h9
  have HQ9 := Lib.hid hq9
  have HNO9 := Lib.hid hno9
  have ELP := Lib.hid hLP
  have HBB := Lib.hid h12
  have M0 := Lib.hid m0
  have M1 := Lib.hid m1
  have M2 := Lib.hid m2
  have M3 := Lib.hid m3
  have HPN := Lib.hid hpn
  have HXL := Lib.hid hnod.len
  rw [← hLP]
  have HCAP := Lib.hid hcap
  clear hLP lp h9 hb9 hq9 hno9 h12 m0 m1 m2 m3 hpf hnod hb8 hcap hxs hxam
  go_upto_region 10 with (refine wpList_store_row rfl 56 (.tmp 9) (.tmp 43) rfl w8.heap.size LP.toArray rfl rfl 56 LZ.toArray (heap_alloc_new w8 _) SZP.out HZP.out HOP.out ?_)
  obtain ⟨W9, hW9⟩ : ∃ W, W = (w8.alloc (.cells LZ.toArray 56)).setRow w8.heap.size LP.toArray := ⟨_, rfl⟩
  rw [← hW9] at H9 HQ9 HNO9 ⊢
  clear hW9
  obtain ⟨G, hG⟩ : ∃ g, g = w8.heap.size := ⟨_, rfl⟩
  rw [← hG] at H9 ⊢
  clear hG hpn
  have HB9 := Lib.hid (show ∀ v, Below W9.heap.size W9 v → Below w6.heap.size w6 v from fun v hv => HQ9.out.trans (hv.mono HQ9.out.size))
  have HG9 := Lib.hid (show ∀ v, Below W9.heap.size W9 v → Has v G 56 LP.toArray from fun v hv => H9.out.below hv H9.out.lt)
  have HOFX := Lib.hid (show ∀ v, Below W9.heap.size W9 v → Calls Tryd.prog 48 #[.agg CX.toArray, .agg LP.toArray] v fun e w' => e = .returned (.int .i64 0) ∧ Below v.heap.size v w' from fun v hv => by
    have := HOFG.out v x bb pa pn pc xs HXOK.out HBB.out (HNO9.out.below hv) (by have := HPN.out; omega) (HB9.out v hv)
    rw [M0.out] at this
    rw [ECX.out, ELP.out]
    exact this)
  have hS0 : Below W9.heap.size W9 W9.drew := below_drew (Below.refl _ _)
  refine wp_region_noPanic ?_
  refine wp_region_held_drew (S := (fun v => Below W9.heap.size W9 v)) (by kernel_rfl) hS0 (fun hH0 => ?_)
  apply wpAnyH_take (i := 0) (v := _) rfl (by kernel_rfl) (by kernel_rfl) (by kernel_rfl) (fun _ _ _ h => h) (Or.inl ⟨by kernel_rfl, ?hv⟩) hH0 ?_
  case hv => intro w' hS; have z0 := hai w'; go_simp; try exact rfl
  simp only [Act.put, List.getElem_toArray, List.getElem_cons_zero, List.getElem_cons_succ, List.setIfInBounds_toArray, List.set_cons_zero, List.set_cons_succ]
  apply wpAnyH_take (i := 1) (v := _) rfl (by kernel_rfl) (by kernel_rfl) (by kernel_rfl) (fun _ _ _ h => h) (Or.inl ⟨by kernel_rfl, ?hv⟩) hH0 ?_
  case hv => intro w' hS; have z0 := hai w'; go_simp; try exact rfl
  simp only [Act.put, List.getElem_toArray, List.getElem_cons_zero, List.getElem_cons_succ, List.setIfInBounds_toArray, List.set_cons_zero, List.set_cons_succ]
  apply wpAnyH_take (i := 2) (v := _) rfl (by kernel_rfl) (by kernel_rfl) (by kernel_rfl) (fun _ _ _ h => h) (Or.inl ⟨by kernel_rfl, ?hv⟩) hH0 ?_
  case hv => intro w' hS; have z0 := hai w'; go_simp; try exact rfl
  simp only [Act.put, List.getElem_toArray, List.getElem_cons_zero, List.getElem_cons_succ, List.setIfInBounds_toArray, List.set_cons_zero, List.set_cons_succ]
  apply wpAnyH_take (i := 3) (v := _) rfl (by kernel_rfl) (by kernel_rfl) (by kernel_rfl) (fun _ _ _ h => h) (Or.inl ⟨by kernel_rfl, ?hv⟩) hH0 ?_
  case hv => intro w' hS; have z0 := hai w'; go_simp; try exact rfl
  simp only [Act.put, List.getElem_toArray, List.getElem_cons_zero, List.getElem_cons_succ, List.setIfInBounds_toArray, List.set_cons_zero, List.set_cons_succ]
  apply wpAnyH_take (i := 4) (v := _) rfl (by kernel_rfl) (by kernel_rfl) (by kernel_rfl) (fun _ _ _ h => h) (Or.inl ⟨by kernel_rfl, ?hv⟩) hH0 ?_
  case hv => intro w' hS; have z0 := hai w'; go_simp; try exact rfl
  simp only [Act.put, List.getElem_toArray, List.getElem_cons_zero, List.getElem_cons_succ, List.setIfInBounds_toArray, List.set_cons_zero, List.set_cons_succ]
  apply wpAnyH_take (i := 5) (v := _) rfl (by kernel_rfl) (by kernel_rfl) (by kernel_rfl) (fun _ _ _ h => h) (Or.inl ⟨by kernel_rfl, ?hv⟩) hH0 ?_
  case hv => intro w' hS; have z0 := hai w'; go_simp; try exact rfl
  simp only [Act.put, List.getElem_toArray, List.getElem_cons_zero, List.getElem_cons_succ, List.setIfInBounds_toArray, List.set_cons_zero, List.set_cons_succ]
  refine wpAnyH_take (i := 6) (v := (.agg CX.toArray)) rfl (by kernel_rfl) (by kernel_rfl) (by kernel_rfl) (fun _ _ _ h => h) (yieldsIf_load_mid (by kernel_rfl) 103 (.tmp 50) rfl b (i * 99) rfl CX _ (fun w' h => (HRX.out _ (HB9.out _ h))) Tryd.underlying103 rfl SZX.out) hH0 ?_
  simp only [Act.put, List.getElem_toArray, List.getElem_cons_zero, List.getElem_cons_succ, List.setIfInBounds_toArray, List.set_cons_zero, List.set_cons_succ]
  refine wpAnyH_take (i := 7) (v := (.agg LP.toArray)) rfl (by kernel_rfl) (by kernel_rfl) (by kernel_rfl) (fun _ _ _ h => h) (yieldsIf_load_mid (by kernel_rfl) 56 (.tmp 9) rfl G 0 rfl LP _ (fun w' h => (HG9.out _ h).row0) Tryd.underlying56 rfl SZPL.out) hH0 ?_
  simp only [Act.put, List.getElem_toArray, List.getElem_cons_zero, List.getElem_cons_succ, List.setIfInBounds_toArray, List.set_cons_zero, List.set_cons_succ]
  refine wpAnyH_ready (rs := [8]) (by kernel_rfl) (by simp) ?_
  refine AllReadyH.cons rfl (fun KK hKK => ?_) AllReadyH.nil
  go_simp
  refine (HOFX.out _ hS0).mono ?_
  rintro _ x1 ⟨rfl, hx1⟩
  have hs1 := hS0.trans (hx1.mono hS0.size)
  clear hx1
  refine Shut.out hKK _ _ hs1 (fun hH1 => ?_)
  clear hKK KK
  try simp only [Act.put, List.getElem_toArray, List.getElem_cons_zero, List.getElem_cons_succ, List.setIfInBounds_toArray, List.set_cons_zero, List.set_cons_succ]
  apply wpAnyH_take (i := 9) (v := _) rfl (by kernel_rfl) (by kernel_rfl) (by kernel_rfl) (fun _ _ _ h => h) (Or.inl ⟨by kernel_rfl, ?hv⟩) hH1 ?_
  case hv => intro w' hS; have z0 := hai w'; go_simp; try exact rfl
  simp only [Act.put, List.getElem_toArray, List.getElem_cons_zero, List.getElem_cons_succ, List.setIfInBounds_toArray, List.set_cons_zero, List.set_cons_succ]
  apply wpAnyH_take (i := 10) (v := _) rfl (by kernel_rfl) (by kernel_rfl) (by kernel_rfl) (fun _ _ _ h => h) (Or.inl ⟨by kernel_rfl, ?hv⟩) hH1 ?_
  case hv => intro w' hS; have z0 := hai w'; go_simp; try exact rfl
  simp only [Act.put, List.getElem_toArray, List.getElem_cons_zero, List.getElem_cons_succ, List.setIfInBounds_toArray, List.set_cons_zero, List.set_cons_succ]
  refine wpAnyH_done (by kernel_rfl) ?_ _
  refine NoPanic.normal ?_
  have HX1 := Lib.hid hs1
  clear hS0 hs1
  go_wp2_with fail
  refine (HWAY.out x1 (n : Int) (by omega) (by omega) (HB9.out _ HX1.out)).mono ?_
  rintro _ w12 ⟨hb12, hm⟩
  dsimp only at hm
  rcases hm with ⟨-, rfl⟩ | ⟨hm, -⟩
  rotate_left
  · omega
  obtain ⟨-, hbn12⟩ := new_row w12 56 LZ.toArray LZ.toArray
  have HX12 := Lib.hid ((HX1.out.trans (hb12.mono HX1.out.size)).trans (hbn12.mono (HX1.out.trans (hb12.mono HX1.out.size)).size))
  clear hb12 hbn12
  unfold zProof
  rw [← ELZ.out]
  go_upto_region 13 with (refine wpList_store_row rfl 56 (.tmp 11) (.tmp 61) rfl w12.heap.size LZ.toArray rfl rfl 56 LZ.toArray (heap_alloc_new w12 _) SZPA.out rfl HOZ.out ?_)
  obtain ⟨W12, hW12⟩ : ∃ W, W = (w12.alloc (.cells LZ.toArray 56)).setRow w12.heap.size LZ.toArray := ⟨_, rfl⟩
  rw [← hW12] at HX12 ⊢
  clear hW12
  go_wp2_with fail
  refine (HWAY.out W12 (-1) (by omega) (by omega) (HB9.out _ HX12.out)).mono ?_
  rintro _ w13 ⟨hb13, hm⟩
  dsimp only at hm
  rcases hm with ⟨-, rfl⟩ | ⟨hm, -⟩
  rotate_left
  · omega
  obtain ⟨-, hbn13⟩ := new_row w13 56 LZ.toArray LZ.toArray
  have HX13 := Lib.hid ((HX12.out.trans (hb13.mono HX12.out.size)).trans (hbn13.mono (HX12.out.trans (hb13.mono HX12.out.size)).size))
  clear hb13 hbn13
  unfold zProof
  rw [← ELZ.out]
  go_upto_region 14 with (refine wpList_store_row rfl 56 (.tmp 13) (.tmp 66) rfl w13.heap.size LZ.toArray rfl rfl 56 LZ.toArray (heap_alloc_new w13 _) SZPA.out rfl HOZ.out ?_)
  obtain ⟨W13, hW13⟩ : ∃ W, W = (w13.alloc (.cells LZ.toArray 56)).setRow w13.heap.size LZ.toArray := ⟨_, rfl⟩
  rw [← hW13] at HX13 ⊢
  clear hW13
  go_upto_region 16 with (fail)
  have HB13 := Lib.hid (show ∀ v, Below W13.heap.size W13 v → Below W9.heap.size W9 v from fun v hv => HX13.out.trans (hv.mono HX13.out.size))
  have HNO := Lib.hid (show ∀ v, Below W13.heap.size W13 v → NodesAt v pa pn xs from fun v hv => HNO9.out.below (HB13.out v hv))
  have HC32 := Lib.hid (show ∀ v, Below W13.heap.size W13 v → v.cell? ⟨G, 32, none⟩ = some (.slice pa pn pc) from fun v hv => (HG9.out v (HB13.out v hv)).cell_is (by rw [List.getElem?_toArray, ELP.out]; exact pcells_row HBB.out pa pn pc))
  have HGB := Lib.hid (show ∀ v, Below W13.heap.size W13 v → v.rangeAt G 0 (bcells bb) from fun v hv j u hu => by
    refine (HG9.out v (HB13.out v hv)).cell_is ?_
    rw [List.getElem?_toArray, ELP.out, pcells, Nat.zero_add, List.getElem?_append_left (List.getElem?_eq_some_iff.1 hu).1]
    exact hu)
  have SZB := Lib.hid (show (Tryd.prog.info? 27).map (·.size) = some (bcells bb).length by rw [bcells_length, HBB.out.1]; kernel_rfl)
  have HBLD := Lib.hid (build_proof bb HBB.out.1)
  have SZQ := Lib.hid (show ∀ (a : Option Addr) (k c : Nat), (Tryd.prog.info? 56).map (·.size) = some (pcells bb a k c).toArray.size from fun a k c => by rw [List.size_toArray, pcells_len HBB.out]; kernel_rfl)
  have HN1 := Lib.hid (show ∀ x ∈ xs, ∀ u ∈ ndV x, u.oneCell' = true from fun x _ u hu => by
    have := ndV_one x
    rw [Array.all_eq_true'] at this
    exact this u (by simpa using hu))
  have HN2 := Lib.hid (show ∀ x ∈ [oneNd], ∀ u ∈ ndV x, u.oneCell' = true from fun x _ u hu => by
    have := ndV_one x
    rw [Array.all_eq_true'] at this
    exact this u (by simpa using hu))
  have HONL := Lib.hid (show (ndV oneNd).length = 33 from ndV_len zNd_hash)
  obtain ⟨LN1, hLN1⟩ : ∃ L, L = ndV oneNd := ⟨_, rfl⟩
  have ELN1 := Lib.hid hLN1
  have hb1b := build_one
  rw [← hLN1] at hb1b
  obtain ⟨inf, hinf, hinf0, hinf1, -⟩ := info_parts info_node
  obtain ⟨ZN, hZN⟩ : ∃ z, z = (List.replicate 32 (Value.int .u8 0) ++ [Value.int .u64 0]).toArray := ⟨_, rfl⟩
  have hinfN := info_node
  rw [← hZN] at hinf0 hinfN
  have HINFN := Lib.hid hinfN
  have HIN := Lib.hid (And.intro hinf (And.intro hinf0 hinf1))
  have HZN := Lib.hid (show (Value.agg ZN).cells.size = 33 by rw [hZN]; kernel_rfl)
  have HROW1 := Lib.hid (show ∀ (v : World) (g : Nat), Has v g 58 LN1.toArray → RowsAt ndV 33 v (some ⟨g, 0, none⟩) 1 [oneNd] from fun v g hv => by
    rw [ELN1.out] at hv
    exact rows_has (xs := [oneNd]) (by simpa using hv) (fun x hx => by rw [List.mem_singleton.1 hx]; exact ndV_len zNd_hash))
  have HB1B := Lib.hid hb1b
  clear hLN1 hinf hinf0 hinf1 hZN hinfN hb1b
  go_cut [15] from 17 (fun qv wx => ∃ G2 qa qc, qv = .pointer (some ⟨G2, 0, none⟩) ∧ Has wx G2 56 (pcells bb qa (pn + 1) qc).toArray ∧ NodesAt wx qa (pn + 1) (xs ++ [oneNd]) ∧ Below W13.heap.size W13 wx)
  case first =>
    have hS0 : Below W13.heap.size W13 W13.drew := below_drew (Below.refl _ _)
    refine wp_region_noPanic ?_
    refine wp_region_held_drew (S := (fun v => Below W13.heap.size W13 v)) (by kernel_rfl) hS0 (fun hH0 => ?_)
    apply wpAnyH_take (i := 0) (v := _) rfl (by kernel_rfl) (by kernel_rfl) (by kernel_rfl) (fun _ _ _ h => h) (Or.inl ⟨by kernel_rfl, ?hv⟩) hH0 ?_
    case hv => intro w' hS; have z0 := HC32.out w' hS; go_simp; try exact rfl
    simp only [Act.put, List.getElem_toArray, List.getElem_cons_zero, List.getElem_cons_succ, List.setIfInBounds_toArray, List.set_cons_zero, List.set_cons_succ]
    refine wpAnyH_take (i := 1) (v := (.agg (bcells bb).toArray)) rfl (by kernel_rfl) (by kernel_rfl) (by kernel_rfl) (fun _ _ _ h => h) (yieldsIf_load_mid (by kernel_rfl) 27 (.tmp 74) rfl G 0 rfl (bcells bb) _ (fun w' h => (HGB.out _ h)) Tryd.underlying27 rfl SZB.out) hH0 ?_
    simp only [Act.put, List.getElem_toArray, List.getElem_cons_zero, List.getElem_cons_succ, List.setIfInBounds_toArray, List.set_cons_zero, List.set_cons_succ]
    apply wpAnyH_take (i := 3) (v := _) rfl (by kernel_rfl) (by kernel_rfl) (by kernel_rfl) (fun _ _ _ h => h) (Or.inl ⟨by kernel_rfl, ?hv⟩) hH0 ?_
    case hv => intro w' hS; have z0 := HC32.out w' hS; go_simp; try exact rfl
    simp only [Act.put, List.getElem_toArray, List.getElem_cons_zero, List.getElem_cons_succ, List.setIfInBounds_toArray, List.set_cons_zero, List.set_cons_succ]
    apply wpAnyH_take (i := 4) (v := _) rfl (by kernel_rfl) (by kernel_rfl) (by kernel_rfl) (fun _ _ _ h => h) (Or.inl ⟨by kernel_rfl, ?hv⟩) hH0 ?_
    case hv => intro w' hS; have z0 := HC32.out w' hS; go_simp; try exact rfl
    simp only [Act.put, List.getElem_toArray, List.getElem_cons_zero, List.getElem_cons_succ, List.setIfInBounds_toArray, List.set_cons_zero, List.set_cons_succ]
    refine wpAnyH_take (i := 6) (v := (.agg LN1.toArray)) rfl (by kernel_rfl) (by kernel_rfl) (by kernel_rfl) (fun _ _ _ h => h) (yieldsIf_build (by kernel_rfl) 58 #[(1, .const (.int .u64 1))] rfl #[(1, .int .u64 1)] (by kernel_rfl) _ (fun w' _ => HB1B.out w')) hH0 ?_
    simp only [Act.put, List.getElem_toArray, List.getElem_cons_zero, List.getElem_cons_succ, List.setIfInBounds_toArray, List.set_cons_zero, List.set_cons_succ]
    refine wpAnyH_ready (rs := [2, 7, 10]) (by kernel_rfl) (by simp) ?_
    refine AllReadyH.cons rfl (fun KK hKK => ?_) (AllReadyH.cons rfl (fun KK hKK => ?_) (AllReadyH.cons rfl (fun KK hKK => ?_) AllReadyH.nil))
    · go_simp
      obtain ⟨x2, hx2⟩ : ∃ y, y = W13.drew.alloc (.cells #[] 58) := ⟨_, rfl⟩
      have hnx2 : Below W13.drew.heap.size W13.drew x2 := by rw [hx2]; exact (Below.refl _ _).alloc (Nat.le_refl _) _
      have hsx2 : Below W13.heap.size W13 x2 := hH0.trans (hnx2.mono hH0.size)
      try replace hz9 := hz9.below hnx2 hz9.lt
      try replace hb1_ := hb1
      try replace hb1 := hb1.below hnx2 hb1.lt
      have hown : x2.ownsRow W13.heap.size 58 33 (.slice (some ⟨W13.drew.heap.size, 0, none⟩) 0 0) 0 [] := by rw [hx2]; exact own_empty hH0.size _ _
      try have hne := ne_new hb1_
      try try rw [show W13.drew.heap.size = W13.heap.size from rfl] at hown
      first | rw [← hx2] | (change KK _ (W13.drew.alloc (.cells #[] 58)); rw [← hx2])
      clear hx2
      refine Shut.out hKK _ _ hsx2 (fun hH1 => ?_)
      clear hKK KK
      try simp only [Act.put, List.getElem_toArray, List.getElem_cons_zero, List.getElem_cons_succ, List.setIfInBounds_toArray, List.set_cons_zero, List.set_cons_succ]
      refine wpAnyH_ready (rs := [5, 7, 10]) (by kernel_rfl) (by simp) ?_
      refine AllReadyH.cons rfl (fun KK hKK => ?_) (AllReadyH.cons rfl (fun KK hKK => ?_) (AllReadyH.cons rfl (fun KK hKK => ?_) AllReadyH.nil))
      · refine step_append_rows (cl := ndV) rfl (.tmp 76) (.tmp 78) 54 rfl W13.heap.size 58 (.agg ZN) 40 Tryd.underlying54 HINFN.out HZN.out (by decide) _ 0 [] rfl hown pa pn pc xs rfl (nodes_rows (HNO.out _ hH1)) HN1.out (by have := HPN.out; unfold maxLen; omega) (by have := HPN.out; omega) hH1.size ?_
        intro oa5 oc5 x5 hown5 hgr5
        have hs5 := hH1.grown hgr5 hH1.size (own_blk hown)
        try replace hz9 := hz9.grown hgr5 (fun e => own_has_ne hown hz9 (by decide) _ e.symm rfl)
        try replace hb1 := hb1.grown hgr5 (fun e => hne _ e.symm rfl)
        clear hown hgr5
        rw [Nat.zero_add] at hown5
        rw [Nat.zero_add]
        rw [List.nil_append] at hown5
        have hown := hown5
        clear hown5
        refine Shut.out hKK _ _ hs5 (fun hH2 => ?_)
        clear hKK KK
        try simp only [Act.put, List.getElem_toArray, List.getElem_cons_zero, List.getElem_cons_succ, List.setIfInBounds_toArray, List.set_cons_zero, List.set_cons_succ]
        refine wpAnyH_ready (rs := [7, 10]) (by kernel_rfl) (by simp) ?_
        refine AllReadyH.cons rfl (fun KK hKK => ?_) (AllReadyH.cons rfl (fun KK hKK => ?_) AllReadyH.nil)
        · refine step_build1 rfl 54 58 (.tmp 80) rfl inf (.agg ZN) Tryd.underlying54 HIN.out.1 HIN.out.2.1 LN1 (by rw [HIN.out.2.2, ELN1.out, HONL.out]) (by rw [ELN1.out, HONL.out]; exact HZN.out) (by rw [ELN1.out, HONL.out]; decide) (by rw [ELN1.out, HONL.out]; decide) rfl ?_
          obtain ⟨x7, hx7⟩ : ∃ y, y = x5.alloc (.cells LN1.toArray 58) := ⟨_, rfl⟩
          have hnx7 : Below x5.heap.size x5 x7 := by rw [hx7]; exact (Below.refl _ _).alloc (Nat.le_refl _) _
          have hsx7 : Below W13.heap.size W13 x7 := hH2.trans (hnx7.mono hH2.size)
          try replace hz9 := hz9.below hnx7 hz9.lt
          try replace hown_ := hown
          try replace hown := own_kept hown (Kept.of_below (S := fun _ => False) hnx7) (fun _ _ e => e)
          have hb1 : Has x7 x5.heap.size 58 LN1.toArray := by rw [hx7]; exact Has.new x5 _ _
          try have hne := fun k e => Nat.ne_of_lt (own_lt hown_ k e)
          try try rw [show W13.drew.heap.size = W13.heap.size from rfl] at hb1
          first | rw [← hx7] | (change KK _ (x5.alloc (.cells LN1.toArray 58)); rw [← hx7])
          clear hx7
          refine Shut.out hKK _ _ hsx7 (fun hH3 => ?_)
          clear hKK KK
          try simp only [Act.put, List.getElem_toArray, List.getElem_cons_zero, List.getElem_cons_succ, List.setIfInBounds_toArray, List.set_cons_zero, List.set_cons_succ]
          refine wpAnyH_ready (rs := [8, 10]) (by kernel_rfl) (by simp) ?_
          refine AllReadyH.cons rfl (fun KK hKK => ?_) (AllReadyH.cons rfl (fun KK hKK => ?_) AllReadyH.nil)
          · refine step_append_rows (cl := ndV) rfl (.tmp 79) (.tmp 81) 54 rfl W13.heap.size 58 (.agg ZN) 40 Tryd.underlying54 HINFN.out HZN.out (by decide) _ pn (xs.flatMap ndV) rfl hown _ 1 1 [oneNd] rfl (HROW1.out _ _ hb1) HN2.out (by have := HPN.out; unfold maxLen; omega) (by have := HPN.out; omega) hH3.size ?_
            intro oa8 oc8 x8 hown8 hgr8
            have hs8 := hH3.grown hgr8 hH3.size (own_blk hown)
            try replace hz9 := hz9.grown hgr8 (fun e => own_has_ne hown hz9 (by decide) _ e.symm rfl)
            clear hown hgr8
            have hown := hown8
            clear hown8
            refine Shut.out hKK _ _ hs8 (fun hH4 => ?_)
            clear hKK KK
            try simp only [Act.put, List.getElem_toArray, List.getElem_cons_zero, List.getElem_cons_succ, List.setIfInBounds_toArray, List.set_cons_zero, List.set_cons_succ]
            refine wpAnyH_take (i := 9) (v := (.agg (pcells bb oa8 (pn + 1) oc8).toArray)) rfl (by kernel_rfl) (by kernel_rfl) (by kernel_rfl) (fun _ _ _ h => h) (yieldsIf_build (by kernel_rfl) 56 #[(0, .tmp 75), (1, .tmp 82)] rfl #[(0, .agg (bcells bb).toArray), (1, .slice oa8 (pn + 1) oc8)] (by kernel_rfl) _ (fun w' _ => HBLD.out oa8 (pn + 1) oc8 w')) hH4 ?_
            simp only [Act.put, List.getElem_toArray, List.getElem_cons_zero, List.getElem_cons_succ, List.setIfInBounds_toArray, List.set_cons_zero, List.set_cons_succ]
            refine wpAnyH_ready (rs := [10]) (by kernel_rfl) (by simp) ?_
            refine AllReadyH.cons rfl (fun KK hKK => ?_) AllReadyH.nil
            go_simp
            obtain ⟨xa, hxa⟩ : ∃ y, y = x8.alloc (.cells LZ.toArray 56) := ⟨_, rfl⟩
            have hnxa : Below x8.heap.size x8 xa := by rw [hxa]; exact (Below.refl _ _).alloc (Nat.le_refl _) _
            have hsxa : Below W13.heap.size W13 xa := hH4.trans (hnxa.mono hH4.size)
            try replace hown := own_kept hown (Kept.of_below (S := fun _ => False) hnxa) (fun _ _ e => e)
            try replace hb1 := hb1.below hnxa hb1.lt
            have hz9 : Has xa x8.heap.size 56 LZ.toArray := by rw [hxa]; exact Has.new x8 _ _
            have hg9 := hH4.size
            try try rw [show W13.drew.heap.size = W13.heap.size from rfl] at hz9
            first | rw [← hxa] | (change KK _ (x8.alloc (.cells LZ.toArray 56)); rw [← hxa])
            clear hxa
            refine Shut.out hKK _ _ hsxa (fun hH5 => ?_)
            clear hKK KK
            try simp only [Act.put, List.getElem_toArray, List.getElem_cons_zero, List.getElem_cons_succ, List.setIfInBounds_toArray, List.set_cons_zero, List.set_cons_succ]
            refine wpAnyH_ready (rs := [11]) (by kernel_rfl) (by simp) ?_
            refine AllReadyH.cons rfl (fun KK hKK => ?_) AllReadyH.nil
            refine step_store_mid rfl 56 (.tmp 15) (.tmp 83) rfl x8.heap.size 0 (pcells bb oa8 (pn + 1) oc8).toArray rfl rfl (hz9.there 0 _ (by rw [List.size_toArray, List.size_toArray, pcells_len HBB.out, HLZ.out]; decide)) (SZQ.out _ _ _) (pcells_one _ _ _ _) ?_
            have HFN := Lib.hid (fin16 (bb := bb) hH5 hown hz9 hg9 (by rw [List.size_toArray, pcells_len HBB.out, HLZ.out]) HXL.out (HNO9.out.hash) (HNO9.out.fits))
            refine Shut.out hKK _ _ HFN.out.2.2 (fun hH6 => ?_)
            clear hKK KK
            try simp only [Act.put, List.getElem_toArray, List.getElem_cons_zero, List.getElem_cons_succ, List.setIfInBounds_toArray, List.set_cons_zero, List.set_cons_succ]
            refine wpAnyH_done (by kernel_rfl) ?_ _
            refine NoPanic.normal ?_
            go_wp2_with fail
            go_meet
            case rel => exact ⟨_, _, _, rfl, HFN.out.1, HFN.out.2.1, HFN.out.2.2⟩
          · go_simp
            obtain ⟨xa, hxa⟩ : ∃ y, y = x7.alloc (.cells LZ.toArray 56) := ⟨_, rfl⟩
            have hnxa : Below x7.heap.size x7 xa := by rw [hxa]; exact (Below.refl _ _).alloc (Nat.le_refl _) _
            have hsxa : Below W13.heap.size W13 xa := hH3.trans (hnxa.mono hH3.size)
            try replace hown := own_kept hown (Kept.of_below (S := fun _ => False) hnxa) (fun _ _ e => e)
            try replace hb1 := hb1.below hnxa hb1.lt
            have hz9 : Has xa x7.heap.size 56 LZ.toArray := by rw [hxa]; exact Has.new x7 _ _
            have hg9 := hH3.size
            try try rw [show W13.drew.heap.size = W13.heap.size from rfl] at hz9
            first | rw [← hxa] | (change KK _ (x7.alloc (.cells LZ.toArray 56)); rw [← hxa])
            clear hxa
            refine Shut.out hKK _ _ hsxa (fun hH4 => ?_)
            clear hKK KK
            try simp only [Act.put, List.getElem_toArray, List.getElem_cons_zero, List.getElem_cons_succ, List.setIfInBounds_toArray, List.set_cons_zero, List.set_cons_succ]
            refine wpAnyH_ready (rs := [8]) (by kernel_rfl) (by simp) ?_
            refine AllReadyH.cons rfl (fun KK hKK => ?_) AllReadyH.nil
            refine step_append_rows (cl := ndV) rfl (.tmp 79) (.tmp 81) 54 rfl W13.heap.size 58 (.agg ZN) 40 Tryd.underlying54 HINFN.out HZN.out (by decide) _ pn (xs.flatMap ndV) rfl hown _ 1 1 [oneNd] rfl (HROW1.out _ _ hb1) HN2.out (by have := HPN.out; unfold maxLen; omega) (by have := HPN.out; omega) hH4.size ?_
            intro oa8 oc8 x8 hown8 hgr8
            have hs8 := hH4.grown hgr8 hH4.size (own_blk hown)
            try replace hz9 := hz9.grown hgr8 (fun e => own_has_ne hown hz9 (by decide) _ e.symm rfl)
            clear hown hgr8
            have hown := hown8
            clear hown8
            refine Shut.out hKK _ _ hs8 (fun hH5 => ?_)
            clear hKK KK
            try simp only [Act.put, List.getElem_toArray, List.getElem_cons_zero, List.getElem_cons_succ, List.setIfInBounds_toArray, List.set_cons_zero, List.set_cons_succ]
            refine wpAnyH_take (i := 9) (v := (.agg (pcells bb oa8 (pn + 1) oc8).toArray)) rfl (by kernel_rfl) (by kernel_rfl) (by kernel_rfl) (fun _ _ _ h => h) (yieldsIf_build (by kernel_rfl) 56 #[(0, .tmp 75), (1, .tmp 82)] rfl #[(0, .agg (bcells bb).toArray), (1, .slice oa8 (pn + 1) oc8)] (by kernel_rfl) _ (fun w' _ => HBLD.out oa8 (pn + 1) oc8 w')) hH5 ?_
            simp only [Act.put, List.getElem_toArray, List.getElem_cons_zero, List.getElem_cons_succ, List.setIfInBounds_toArray, List.set_cons_zero, List.set_cons_succ]
            refine wpAnyH_ready (rs := [11]) (by kernel_rfl) (by simp) ?_
            refine AllReadyH.cons rfl (fun KK hKK => ?_) AllReadyH.nil
            refine step_store_mid rfl 56 (.tmp 15) (.tmp 83) rfl x7.heap.size 0 (pcells bb oa8 (pn + 1) oc8).toArray rfl rfl (hz9.there 0 _ (by rw [List.size_toArray, List.size_toArray, pcells_len HBB.out, HLZ.out]; decide)) (SZQ.out _ _ _) (pcells_one _ _ _ _) ?_
            have HFN := Lib.hid (fin16 (bb := bb) hH5 hown hz9 hg9 (by rw [List.size_toArray, pcells_len HBB.out, HLZ.out]) HXL.out (HNO9.out.hash) (HNO9.out.fits))
            refine Shut.out hKK _ _ HFN.out.2.2 (fun hH6 => ?_)
            clear hKK KK
            try simp only [Act.put, List.getElem_toArray, List.getElem_cons_zero, List.getElem_cons_succ, List.setIfInBounds_toArray, List.set_cons_zero, List.set_cons_succ]
            refine wpAnyH_done (by kernel_rfl) ?_ _
            refine NoPanic.normal ?_
            go_wp2_with fail
            go_meet
            case rel => exact ⟨_, _, _, rfl, HFN.out.1, HFN.out.2.1, HFN.out.2.2⟩
        · go_simp
          obtain ⟨xa, hxa⟩ : ∃ y, y = x5.alloc (.cells LZ.toArray 56) := ⟨_, rfl⟩
          have hnxa : Below x5.heap.size x5 xa := by rw [hxa]; exact (Below.refl _ _).alloc (Nat.le_refl _) _
          have hsxa : Below W13.heap.size W13 xa := hH2.trans (hnxa.mono hH2.size)
          try replace hown := own_kept hown (Kept.of_below (S := fun _ => False) hnxa) (fun _ _ e => e)
          try replace hb1 := hb1.below hnxa hb1.lt
          have hz9 : Has xa x5.heap.size 56 LZ.toArray := by rw [hxa]; exact Has.new x5 _ _
          have hg9 := hH2.size
          try try rw [show W13.drew.heap.size = W13.heap.size from rfl] at hz9
          first | rw [← hxa] | (change KK _ (x5.alloc (.cells LZ.toArray 56)); rw [← hxa])
          clear hxa
          refine Shut.out hKK _ _ hsxa (fun hH3 => ?_)
          clear hKK KK
          try simp only [Act.put, List.getElem_toArray, List.getElem_cons_zero, List.getElem_cons_succ, List.setIfInBounds_toArray, List.set_cons_zero, List.set_cons_succ]
          refine wpAnyH_ready (rs := [7]) (by kernel_rfl) (by simp) ?_
          refine AllReadyH.cons rfl (fun KK hKK => ?_) AllReadyH.nil
          refine step_build1 rfl 54 58 (.tmp 80) rfl inf (.agg ZN) Tryd.underlying54 HIN.out.1 HIN.out.2.1 LN1 (by rw [HIN.out.2.2, ELN1.out, HONL.out]) (by rw [ELN1.out, HONL.out]; exact HZN.out) (by rw [ELN1.out, HONL.out]; decide) (by rw [ELN1.out, HONL.out]; decide) rfl ?_
          obtain ⟨x7, hx7⟩ : ∃ y, y = xa.alloc (.cells LN1.toArray 58) := ⟨_, rfl⟩
          have hnx7 : Below xa.heap.size xa x7 := by rw [hx7]; exact (Below.refl _ _).alloc (Nat.le_refl _) _
          have hsx7 : Below W13.heap.size W13 x7 := hH3.trans (hnx7.mono hH3.size)
          try replace hz9 := hz9.below hnx7 hz9.lt
          try replace hown_ := hown
          try replace hown := own_kept hown (Kept.of_below (S := fun _ => False) hnx7) (fun _ _ e => e)
          have hb1 : Has x7 xa.heap.size 58 LN1.toArray := by rw [hx7]; exact Has.new xa _ _
          try have hne := fun k e => Nat.ne_of_lt (own_lt hown_ k e)
          try try rw [show W13.drew.heap.size = W13.heap.size from rfl] at hb1
          first | rw [← hx7] | (change KK _ (xa.alloc (.cells LN1.toArray 58)); rw [← hx7])
          clear hx7
          refine Shut.out hKK _ _ hsx7 (fun hH4 => ?_)
          clear hKK KK
          try simp only [Act.put, List.getElem_toArray, List.getElem_cons_zero, List.getElem_cons_succ, List.setIfInBounds_toArray, List.set_cons_zero, List.set_cons_succ]
          refine wpAnyH_ready (rs := [8]) (by kernel_rfl) (by simp) ?_
          refine AllReadyH.cons rfl (fun KK hKK => ?_) AllReadyH.nil
          refine step_append_rows (cl := ndV) rfl (.tmp 79) (.tmp 81) 54 rfl W13.heap.size 58 (.agg ZN) 40 Tryd.underlying54 HINFN.out HZN.out (by decide) _ pn (xs.flatMap ndV) rfl hown _ 1 1 [oneNd] rfl (HROW1.out _ _ hb1) HN2.out (by have := HPN.out; unfold maxLen; omega) (by have := HPN.out; omega) hH4.size ?_
          intro oa8 oc8 x8 hown8 hgr8
          have hs8 := hH4.grown hgr8 hH4.size (own_blk hown)
          try replace hz9 := hz9.grown hgr8 (fun e => own_has_ne hown hz9 (by decide) _ e.symm rfl)
          clear hown hgr8
          have hown := hown8
          clear hown8
          refine Shut.out hKK _ _ hs8 (fun hH5 => ?_)
          clear hKK KK
          try simp only [Act.put, List.getElem_toArray, List.getElem_cons_zero, List.getElem_cons_succ, List.setIfInBounds_toArray, List.set_cons_zero, List.set_cons_succ]
          refine wpAnyH_take (i := 9) (v := (.agg (pcells bb oa8 (pn + 1) oc8).toArray)) rfl (by kernel_rfl) (by kernel_rfl) (by kernel_rfl) (fun _ _ _ h => h) (yieldsIf_build (by kernel_rfl) 56 #[(0, .tmp 75), (1, .tmp 82)] rfl #[(0, .agg (bcells bb).toArray), (1, .slice oa8 (pn + 1) oc8)] (by kernel_rfl) _ (fun w' _ => HBLD.out oa8 (pn + 1) oc8 w')) hH5 ?_
          simp only [Act.put, List.getElem_toArray, List.getElem_cons_zero, List.getElem_cons_succ, List.setIfInBounds_toArray, List.set_cons_zero, List.set_cons_succ]
          refine wpAnyH_ready (rs := [11]) (by kernel_rfl) (by simp) ?_
          refine AllReadyH.cons rfl (fun KK hKK => ?_) AllReadyH.nil
          refine step_store_mid rfl 56 (.tmp 15) (.tmp 83) rfl x5.heap.size 0 (pcells bb oa8 (pn + 1) oc8).toArray rfl rfl (hz9.there 0 _ (by rw [List.size_toArray, List.size_toArray, pcells_len HBB.out, HLZ.out]; decide)) (SZQ.out _ _ _) (pcells_one _ _ _ _) ?_
          have HFN := Lib.hid (fin16 (bb := bb) hH5 hown hz9 hg9 (by rw [List.size_toArray, pcells_len HBB.out, HLZ.out]) HXL.out (HNO9.out.hash) (HNO9.out.fits))
          refine Shut.out hKK _ _ HFN.out.2.2 (fun hH6 => ?_)
          clear hKK KK
          try simp only [Act.put, List.getElem_toArray, List.getElem_cons_zero, List.getElem_cons_succ, List.setIfInBounds_toArray, List.set_cons_zero, List.set_cons_succ]
          refine wpAnyH_done (by kernel_rfl) ?_ _
          refine NoPanic.normal ?_
          go_wp2_with fail
          go_meet
          case rel => exact ⟨_, _, _, rfl, HFN.out.1, HFN.out.2.1, HFN.out.2.2⟩
      · refine step_build1 rfl 54 58 (.tmp 80) rfl inf (.agg ZN) Tryd.underlying54 HIN.out.1 HIN.out.2.1 LN1 (by rw [HIN.out.2.2, ELN1.out, HONL.out]) (by rw [ELN1.out, HONL.out]; exact HZN.out) (by rw [ELN1.out, HONL.out]; decide) (by rw [ELN1.out, HONL.out]; decide) rfl ?_
        obtain ⟨x7, hx7⟩ : ∃ y, y = x2.alloc (.cells LN1.toArray 58) := ⟨_, rfl⟩
        have hnx7 : Below x2.heap.size x2 x7 := by rw [hx7]; exact (Below.refl _ _).alloc (Nat.le_refl _) _
        have hsx7 : Below W13.heap.size W13 x7 := hH1.trans (hnx7.mono hH1.size)
        try replace hz9 := hz9.below hnx7 hz9.lt
        try replace hown_ := hown
        try replace hown := own_kept hown (Kept.of_below (S := fun _ => False) hnx7) (fun _ _ e => e)
        have hb1 : Has x7 x2.heap.size 58 LN1.toArray := by rw [hx7]; exact Has.new x2 _ _
        try have hne := fun k e => Nat.ne_of_lt (own_lt hown_ k e)
        try try rw [show W13.drew.heap.size = W13.heap.size from rfl] at hb1
        first | rw [← hx7] | (change KK _ (x2.alloc (.cells LN1.toArray 58)); rw [← hx7])
        clear hx7
        refine Shut.out hKK _ _ hsx7 (fun hH2 => ?_)
        clear hKK KK
        try simp only [Act.put, List.getElem_toArray, List.getElem_cons_zero, List.getElem_cons_succ, List.setIfInBounds_toArray, List.set_cons_zero, List.set_cons_succ]
        refine wpAnyH_ready (rs := [5, 10]) (by kernel_rfl) (by simp) ?_
        refine AllReadyH.cons rfl (fun KK hKK => ?_) (AllReadyH.cons rfl (fun KK hKK => ?_) AllReadyH.nil)
        · refine step_append_rows (cl := ndV) rfl (.tmp 76) (.tmp 78) 54 rfl W13.heap.size 58 (.agg ZN) 40 Tryd.underlying54 HINFN.out HZN.out (by decide) _ 0 [] rfl hown pa pn pc xs rfl (nodes_rows (HNO.out _ hH2)) HN1.out (by have := HPN.out; unfold maxLen; omega) (by have := HPN.out; omega) hH2.size ?_
          intro oa5 oc5 x5 hown5 hgr5
          have hs5 := hH2.grown hgr5 hH2.size (own_blk hown)
          try replace hz9 := hz9.grown hgr5 (fun e => own_has_ne hown hz9 (by decide) _ e.symm rfl)
          try replace hb1 := hb1.grown hgr5 (fun e => hne _ e.symm rfl)
          clear hown hgr5
          rw [Nat.zero_add] at hown5
          rw [Nat.zero_add]
          rw [List.nil_append] at hown5
          have hown := hown5
          clear hown5
          refine Shut.out hKK _ _ hs5 (fun hH3 => ?_)
          clear hKK KK
          try simp only [Act.put, List.getElem_toArray, List.getElem_cons_zero, List.getElem_cons_succ, List.setIfInBounds_toArray, List.set_cons_zero, List.set_cons_succ]
          refine wpAnyH_ready (rs := [8, 10]) (by kernel_rfl) (by simp) ?_
          refine AllReadyH.cons rfl (fun KK hKK => ?_) (AllReadyH.cons rfl (fun KK hKK => ?_) AllReadyH.nil)
          · refine step_append_rows (cl := ndV) rfl (.tmp 79) (.tmp 81) 54 rfl W13.heap.size 58 (.agg ZN) 40 Tryd.underlying54 HINFN.out HZN.out (by decide) _ pn (xs.flatMap ndV) rfl hown _ 1 1 [oneNd] rfl (HROW1.out _ _ hb1) HN2.out (by have := HPN.out; unfold maxLen; omega) (by have := HPN.out; omega) hH3.size ?_
            intro oa8 oc8 x8 hown8 hgr8
            have hs8 := hH3.grown hgr8 hH3.size (own_blk hown)
            try replace hz9 := hz9.grown hgr8 (fun e => own_has_ne hown hz9 (by decide) _ e.symm rfl)
            clear hown hgr8
            have hown := hown8
            clear hown8
            refine Shut.out hKK _ _ hs8 (fun hH4 => ?_)
            clear hKK KK
            try simp only [Act.put, List.getElem_toArray, List.getElem_cons_zero, List.getElem_cons_succ, List.setIfInBounds_toArray, List.set_cons_zero, List.set_cons_succ]
            refine wpAnyH_take (i := 9) (v := (.agg (pcells bb oa8 (pn + 1) oc8).toArray)) rfl (by kernel_rfl) (by kernel_rfl) (by kernel_rfl) (fun _ _ _ h => h) (yieldsIf_build (by kernel_rfl) 56 #[(0, .tmp 75), (1, .tmp 82)] rfl #[(0, .agg (bcells bb).toArray), (1, .slice oa8 (pn + 1) oc8)] (by kernel_rfl) _ (fun w' _ => HBLD.out oa8 (pn + 1) oc8 w')) hH4 ?_
            simp only [Act.put, List.getElem_toArray, List.getElem_cons_zero, List.getElem_cons_succ, List.setIfInBounds_toArray, List.set_cons_zero, List.set_cons_succ]
            refine wpAnyH_ready (rs := [10]) (by kernel_rfl) (by simp) ?_
            refine AllReadyH.cons rfl (fun KK hKK => ?_) AllReadyH.nil
            go_simp
            obtain ⟨xa, hxa⟩ : ∃ y, y = x8.alloc (.cells LZ.toArray 56) := ⟨_, rfl⟩
            have hnxa : Below x8.heap.size x8 xa := by rw [hxa]; exact (Below.refl _ _).alloc (Nat.le_refl _) _
            have hsxa : Below W13.heap.size W13 xa := hH4.trans (hnxa.mono hH4.size)
            try replace hown := own_kept hown (Kept.of_below (S := fun _ => False) hnxa) (fun _ _ e => e)
            try replace hb1 := hb1.below hnxa hb1.lt
            have hz9 : Has xa x8.heap.size 56 LZ.toArray := by rw [hxa]; exact Has.new x8 _ _
            have hg9 := hH4.size
            try try rw [show W13.drew.heap.size = W13.heap.size from rfl] at hz9
            first | rw [← hxa] | (change KK _ (x8.alloc (.cells LZ.toArray 56)); rw [← hxa])
            clear hxa
            refine Shut.out hKK _ _ hsxa (fun hH5 => ?_)
            clear hKK KK
            try simp only [Act.put, List.getElem_toArray, List.getElem_cons_zero, List.getElem_cons_succ, List.setIfInBounds_toArray, List.set_cons_zero, List.set_cons_succ]
            refine wpAnyH_ready (rs := [11]) (by kernel_rfl) (by simp) ?_
            refine AllReadyH.cons rfl (fun KK hKK => ?_) AllReadyH.nil
            refine step_store_mid rfl 56 (.tmp 15) (.tmp 83) rfl x8.heap.size 0 (pcells bb oa8 (pn + 1) oc8).toArray rfl rfl (hz9.there 0 _ (by rw [List.size_toArray, List.size_toArray, pcells_len HBB.out, HLZ.out]; decide)) (SZQ.out _ _ _) (pcells_one _ _ _ _) ?_
            have HFN := Lib.hid (fin16 (bb := bb) hH5 hown hz9 hg9 (by rw [List.size_toArray, pcells_len HBB.out, HLZ.out]) HXL.out (HNO9.out.hash) (HNO9.out.fits))
            refine Shut.out hKK _ _ HFN.out.2.2 (fun hH6 => ?_)
            clear hKK KK
            try simp only [Act.put, List.getElem_toArray, List.getElem_cons_zero, List.getElem_cons_succ, List.setIfInBounds_toArray, List.set_cons_zero, List.set_cons_succ]
            refine wpAnyH_done (by kernel_rfl) ?_ _
            refine NoPanic.normal ?_
            go_wp2_with fail
            go_meet
            case rel => exact ⟨_, _, _, rfl, HFN.out.1, HFN.out.2.1, HFN.out.2.2⟩
          · go_simp
            obtain ⟨xa, hxa⟩ : ∃ y, y = x5.alloc (.cells LZ.toArray 56) := ⟨_, rfl⟩
            have hnxa : Below x5.heap.size x5 xa := by rw [hxa]; exact (Below.refl _ _).alloc (Nat.le_refl _) _
            have hsxa : Below W13.heap.size W13 xa := hH3.trans (hnxa.mono hH3.size)
            try replace hown := own_kept hown (Kept.of_below (S := fun _ => False) hnxa) (fun _ _ e => e)
            try replace hb1 := hb1.below hnxa hb1.lt
            have hz9 : Has xa x5.heap.size 56 LZ.toArray := by rw [hxa]; exact Has.new x5 _ _
            have hg9 := hH3.size
            try try rw [show W13.drew.heap.size = W13.heap.size from rfl] at hz9
            first | rw [← hxa] | (change KK _ (x5.alloc (.cells LZ.toArray 56)); rw [← hxa])
            clear hxa
            refine Shut.out hKK _ _ hsxa (fun hH4 => ?_)
            clear hKK KK
            try simp only [Act.put, List.getElem_toArray, List.getElem_cons_zero, List.getElem_cons_succ, List.setIfInBounds_toArray, List.set_cons_zero, List.set_cons_succ]
            refine wpAnyH_ready (rs := [8]) (by kernel_rfl) (by simp) ?_
            refine AllReadyH.cons rfl (fun KK hKK => ?_) AllReadyH.nil
            refine step_append_rows (cl := ndV) rfl (.tmp 79) (.tmp 81) 54 rfl W13.heap.size 58 (.agg ZN) 40 Tryd.underlying54 HINFN.out HZN.out (by decide) _ pn (xs.flatMap ndV) rfl hown _ 1 1 [oneNd] rfl (HROW1.out _ _ hb1) HN2.out (by have := HPN.out; unfold maxLen; omega) (by have := HPN.out; omega) hH4.size ?_
            intro oa8 oc8 x8 hown8 hgr8
            have hs8 := hH4.grown hgr8 hH4.size (own_blk hown)
            try replace hz9 := hz9.grown hgr8 (fun e => own_has_ne hown hz9 (by decide) _ e.symm rfl)
            clear hown hgr8
            have hown := hown8
            clear hown8
            refine Shut.out hKK _ _ hs8 (fun hH5 => ?_)
            clear hKK KK
            try simp only [Act.put, List.getElem_toArray, List.getElem_cons_zero, List.getElem_cons_succ, List.setIfInBounds_toArray, List.set_cons_zero, List.set_cons_succ]
            refine wpAnyH_take (i := 9) (v := (.agg (pcells bb oa8 (pn + 1) oc8).toArray)) rfl (by kernel_rfl) (by kernel_rfl) (by kernel_rfl) (fun _ _ _ h => h) (yieldsIf_build (by kernel_rfl) 56 #[(0, .tmp 75), (1, .tmp 82)] rfl #[(0, .agg (bcells bb).toArray), (1, .slice oa8 (pn + 1) oc8)] (by kernel_rfl) _ (fun w' _ => HBLD.out oa8 (pn + 1) oc8 w')) hH5 ?_
            simp only [Act.put, List.getElem_toArray, List.getElem_cons_zero, List.getElem_cons_succ, List.setIfInBounds_toArray, List.set_cons_zero, List.set_cons_succ]
            refine wpAnyH_ready (rs := [11]) (by kernel_rfl) (by simp) ?_
            refine AllReadyH.cons rfl (fun KK hKK => ?_) AllReadyH.nil
            refine step_store_mid rfl 56 (.tmp 15) (.tmp 83) rfl x5.heap.size 0 (pcells bb oa8 (pn + 1) oc8).toArray rfl rfl (hz9.there 0 _ (by rw [List.size_toArray, List.size_toArray, pcells_len HBB.out, HLZ.out]; decide)) (SZQ.out _ _ _) (pcells_one _ _ _ _) ?_
            have HFN := Lib.hid (fin16 (bb := bb) hH5 hown hz9 hg9 (by rw [List.size_toArray, pcells_len HBB.out, HLZ.out]) HXL.out (HNO9.out.hash) (HNO9.out.fits))
            refine Shut.out hKK _ _ HFN.out.2.2 (fun hH6 => ?_)
            clear hKK KK
            try simp only [Act.put, List.getElem_toArray, List.getElem_cons_zero, List.getElem_cons_succ, List.setIfInBounds_toArray, List.set_cons_zero, List.set_cons_succ]
            refine wpAnyH_done (by kernel_rfl) ?_ _
            refine NoPanic.normal ?_
            go_wp2_with fail
            go_meet
            case rel => exact ⟨_, _, _, rfl, HFN.out.1, HFN.out.2.1, HFN.out.2.2⟩
        · go_simp
          obtain ⟨xa, hxa⟩ : ∃ y, y = x7.alloc (.cells LZ.toArray 56) := ⟨_, rfl⟩
          have hnxa : Below x7.heap.size x7 xa := by rw [hxa]; exact (Below.refl _ _).alloc (Nat.le_refl _) _
          have hsxa : Below W13.heap.size W13 xa := hH2.trans (hnxa.mono hH2.size)
          try replace hown := own_kept hown (Kept.of_below (S := fun _ => False) hnxa) (fun _ _ e => e)
          try replace hb1 := hb1.below hnxa hb1.lt
          have hz9 : Has xa x7.heap.size 56 LZ.toArray := by rw [hxa]; exact Has.new x7 _ _
          have hg9 := hH2.size
          try try rw [show W13.drew.heap.size = W13.heap.size from rfl] at hz9
          first | rw [← hxa] | (change KK _ (x7.alloc (.cells LZ.toArray 56)); rw [← hxa])
          clear hxa
          refine Shut.out hKK _ _ hsxa (fun hH3 => ?_)
          clear hKK KK
          try simp only [Act.put, List.getElem_toArray, List.getElem_cons_zero, List.getElem_cons_succ, List.setIfInBounds_toArray, List.set_cons_zero, List.set_cons_succ]
          refine wpAnyH_ready (rs := [5]) (by kernel_rfl) (by simp) ?_
          refine AllReadyH.cons rfl (fun KK hKK => ?_) AllReadyH.nil
          refine step_append_rows (cl := ndV) rfl (.tmp 76) (.tmp 78) 54 rfl W13.heap.size 58 (.agg ZN) 40 Tryd.underlying54 HINFN.out HZN.out (by decide) _ 0 [] rfl hown pa pn pc xs rfl (nodes_rows (HNO.out _ hH3)) HN1.out (by have := HPN.out; unfold maxLen; omega) (by have := HPN.out; omega) hH3.size ?_
          intro oa5 oc5 x5 hown5 hgr5
          have hs5 := hH3.grown hgr5 hH3.size (own_blk hown)
          try replace hz9 := hz9.grown hgr5 (fun e => own_has_ne hown hz9 (by decide) _ e.symm rfl)
          try replace hb1 := hb1.grown hgr5 (fun e => hne _ e.symm rfl)
          clear hown hgr5
          rw [Nat.zero_add] at hown5
          rw [Nat.zero_add]
          rw [List.nil_append] at hown5
          have hown := hown5
          clear hown5
          refine Shut.out hKK _ _ hs5 (fun hH4 => ?_)
          clear hKK KK
          try simp only [Act.put, List.getElem_toArray, List.getElem_cons_zero, List.getElem_cons_succ, List.setIfInBounds_toArray, List.set_cons_zero, List.set_cons_succ]
          refine wpAnyH_ready (rs := [8]) (by kernel_rfl) (by simp) ?_
          refine AllReadyH.cons rfl (fun KK hKK => ?_) AllReadyH.nil
          refine step_append_rows (cl := ndV) rfl (.tmp 79) (.tmp 81) 54 rfl W13.heap.size 58 (.agg ZN) 40 Tryd.underlying54 HINFN.out HZN.out (by decide) _ pn (xs.flatMap ndV) rfl hown _ 1 1 [oneNd] rfl (HROW1.out _ _ hb1) HN2.out (by have := HPN.out; unfold maxLen; omega) (by have := HPN.out; omega) hH4.size ?_
          intro oa8 oc8 x8 hown8 hgr8
          have hs8 := hH4.grown hgr8 hH4.size (own_blk hown)
          try replace hz9 := hz9.grown hgr8 (fun e => own_has_ne hown hz9 (by decide) _ e.symm rfl)
          clear hown hgr8
          have hown := hown8
          clear hown8
          refine Shut.out hKK _ _ hs8 (fun hH5 => ?_)
          clear hKK KK
          try simp only [Act.put, List.getElem_toArray, List.getElem_cons_zero, List.getElem_cons_succ, List.setIfInBounds_toArray, List.set_cons_zero, List.set_cons_succ]
          refine wpAnyH_take (i := 9) (v := (.agg (pcells bb oa8 (pn + 1) oc8).toArray)) rfl (by kernel_rfl) (by kernel_rfl) (by kernel_rfl) (fun _ _ _ h => h) (yieldsIf_build (by kernel_rfl) 56 #[(0, .tmp 75), (1, .tmp 82)] rfl #[(0, .agg (bcells bb).toArray), (1, .slice oa8 (pn + 1) oc8)] (by kernel_rfl) _ (fun w' _ => HBLD.out oa8 (pn + 1) oc8 w')) hH5 ?_
          simp only [Act.put, List.getElem_toArray, List.getElem_cons_zero, List.getElem_cons_succ, List.setIfInBounds_toArray, List.set_cons_zero, List.set_cons_succ]
          refine wpAnyH_ready (rs := [11]) (by kernel_rfl) (by simp) ?_
          refine AllReadyH.cons rfl (fun KK hKK => ?_) AllReadyH.nil
          refine step_store_mid rfl 56 (.tmp 15) (.tmp 83) rfl x7.heap.size 0 (pcells bb oa8 (pn + 1) oc8).toArray rfl rfl (hz9.there 0 _ (by rw [List.size_toArray, List.size_toArray, pcells_len HBB.out, HLZ.out]; decide)) (SZQ.out _ _ _) (pcells_one _ _ _ _) ?_
          have HFN := Lib.hid (fin16 (bb := bb) hH5 hown hz9 hg9 (by rw [List.size_toArray, pcells_len HBB.out, HLZ.out]) HXL.out (HNO9.out.hash) (HNO9.out.fits))
          refine Shut.out hKK _ _ HFN.out.2.2 (fun hH6 => ?_)
          clear hKK KK
          try simp only [Act.put, List.getElem_toArray, List.getElem_cons_zero, List.getElem_cons_succ, List.setIfInBounds_toArray, List.set_cons_zero, List.set_cons_succ]
          refine wpAnyH_done (by kernel_rfl) ?_ _
          refine NoPanic.normal ?_
          go_wp2_with fail
          go_meet
          case rel => exact ⟨_, _, _, rfl, HFN.out.1, HFN.out.2.1, HFN.out.2.2⟩
      · go_simp
        obtain ⟨xa, hxa⟩ : ∃ y, y = x2.alloc (.cells LZ.toArray 56) := ⟨_, rfl⟩
        have hnxa : Below x2.heap.size x2 xa := by rw [hxa]; exact (Below.refl _ _).alloc (Nat.le_refl _) _
        have hsxa : Below W13.heap.size W13 xa := hH1.trans (hnxa.mono hH1.size)
        try replace hown := own_kept hown (Kept.of_below (S := fun _ => False) hnxa) (fun _ _ e => e)
        try replace hb1 := hb1.below hnxa hb1.lt
        have hz9 : Has xa x2.heap.size 56 LZ.toArray := by rw [hxa]; exact Has.new x2 _ _
        have hg9 := hH1.size
        try try rw [show W13.drew.heap.size = W13.heap.size from rfl] at hz9
        first | rw [← hxa] | (change KK _ (x2.alloc (.cells LZ.toArray 56)); rw [← hxa])
        clear hxa
        refine Shut.out hKK _ _ hsxa (fun hH2 => ?_)
        clear hKK KK
        try simp only [Act.put, List.getElem_toArray, List.getElem_cons_zero, List.getElem_cons_succ, List.setIfInBounds_toArray, List.set_cons_zero, List.set_cons_succ]
        refine wpAnyH_ready (rs := [5, 7]) (by kernel_rfl) (by simp) ?_
        refine AllReadyH.cons rfl (fun KK hKK => ?_) (AllReadyH.cons rfl (fun KK hKK => ?_) AllReadyH.nil)
        · refine step_append_rows (cl := ndV) rfl (.tmp 76) (.tmp 78) 54 rfl W13.heap.size 58 (.agg ZN) 40 Tryd.underlying54 HINFN.out HZN.out (by decide) _ 0 [] rfl hown pa pn pc xs rfl (nodes_rows (HNO.out _ hH2)) HN1.out (by have := HPN.out; unfold maxLen; omega) (by have := HPN.out; omega) hH2.size ?_
          intro oa5 oc5 x5 hown5 hgr5
          have hs5 := hH2.grown hgr5 hH2.size (own_blk hown)
          try replace hz9 := hz9.grown hgr5 (fun e => own_has_ne hown hz9 (by decide) _ e.symm rfl)
          try replace hb1 := hb1.grown hgr5 (fun e => hne _ e.symm rfl)
          clear hown hgr5
          rw [Nat.zero_add] at hown5
          rw [Nat.zero_add]
          rw [List.nil_append] at hown5
          have hown := hown5
          clear hown5
          refine Shut.out hKK _ _ hs5 (fun hH3 => ?_)
          clear hKK KK
          try simp only [Act.put, List.getElem_toArray, List.getElem_cons_zero, List.getElem_cons_succ, List.setIfInBounds_toArray, List.set_cons_zero, List.set_cons_succ]
          refine wpAnyH_ready (rs := [7]) (by kernel_rfl) (by simp) ?_
          refine AllReadyH.cons rfl (fun KK hKK => ?_) AllReadyH.nil
          refine step_build1 rfl 54 58 (.tmp 80) rfl inf (.agg ZN) Tryd.underlying54 HIN.out.1 HIN.out.2.1 LN1 (by rw [HIN.out.2.2, ELN1.out, HONL.out]) (by rw [ELN1.out, HONL.out]; exact HZN.out) (by rw [ELN1.out, HONL.out]; decide) (by rw [ELN1.out, HONL.out]; decide) rfl ?_
          obtain ⟨x7, hx7⟩ : ∃ y, y = x5.alloc (.cells LN1.toArray 58) := ⟨_, rfl⟩
          have hnx7 : Below x5.heap.size x5 x7 := by rw [hx7]; exact (Below.refl _ _).alloc (Nat.le_refl _) _
          have hsx7 : Below W13.heap.size W13 x7 := hH3.trans (hnx7.mono hH3.size)
          try replace hz9 := hz9.below hnx7 hz9.lt
          try replace hown_ := hown
          try replace hown := own_kept hown (Kept.of_below (S := fun _ => False) hnx7) (fun _ _ e => e)
          have hb1 : Has x7 x5.heap.size 58 LN1.toArray := by rw [hx7]; exact Has.new x5 _ _
          try have hne := fun k e => Nat.ne_of_lt (own_lt hown_ k e)
          try try rw [show W13.drew.heap.size = W13.heap.size from rfl] at hb1
          first | rw [← hx7] | (change KK _ (x5.alloc (.cells LN1.toArray 58)); rw [← hx7])
          clear hx7
          refine Shut.out hKK _ _ hsx7 (fun hH4 => ?_)
          clear hKK KK
          try simp only [Act.put, List.getElem_toArray, List.getElem_cons_zero, List.getElem_cons_succ, List.setIfInBounds_toArray, List.set_cons_zero, List.set_cons_succ]
          refine wpAnyH_ready (rs := [8]) (by kernel_rfl) (by simp) ?_
          refine AllReadyH.cons rfl (fun KK hKK => ?_) AllReadyH.nil
          refine step_append_rows (cl := ndV) rfl (.tmp 79) (.tmp 81) 54 rfl W13.heap.size 58 (.agg ZN) 40 Tryd.underlying54 HINFN.out HZN.out (by decide) _ pn (xs.flatMap ndV) rfl hown _ 1 1 [oneNd] rfl (HROW1.out _ _ hb1) HN2.out (by have := HPN.out; unfold maxLen; omega) (by have := HPN.out; omega) hH4.size ?_
          intro oa8 oc8 x8 hown8 hgr8
          have hs8 := hH4.grown hgr8 hH4.size (own_blk hown)
          try replace hz9 := hz9.grown hgr8 (fun e => own_has_ne hown hz9 (by decide) _ e.symm rfl)
          clear hown hgr8
          have hown := hown8
          clear hown8
          refine Shut.out hKK _ _ hs8 (fun hH5 => ?_)
          clear hKK KK
          try simp only [Act.put, List.getElem_toArray, List.getElem_cons_zero, List.getElem_cons_succ, List.setIfInBounds_toArray, List.set_cons_zero, List.set_cons_succ]
          refine wpAnyH_take (i := 9) (v := (.agg (pcells bb oa8 (pn + 1) oc8).toArray)) rfl (by kernel_rfl) (by kernel_rfl) (by kernel_rfl) (fun _ _ _ h => h) (yieldsIf_build (by kernel_rfl) 56 #[(0, .tmp 75), (1, .tmp 82)] rfl #[(0, .agg (bcells bb).toArray), (1, .slice oa8 (pn + 1) oc8)] (by kernel_rfl) _ (fun w' _ => HBLD.out oa8 (pn + 1) oc8 w')) hH5 ?_
          simp only [Act.put, List.getElem_toArray, List.getElem_cons_zero, List.getElem_cons_succ, List.setIfInBounds_toArray, List.set_cons_zero, List.set_cons_succ]
          refine wpAnyH_ready (rs := [11]) (by kernel_rfl) (by simp) ?_
          refine AllReadyH.cons rfl (fun KK hKK => ?_) AllReadyH.nil
          refine step_store_mid rfl 56 (.tmp 15) (.tmp 83) rfl x2.heap.size 0 (pcells bb oa8 (pn + 1) oc8).toArray rfl rfl (hz9.there 0 _ (by rw [List.size_toArray, List.size_toArray, pcells_len HBB.out, HLZ.out]; decide)) (SZQ.out _ _ _) (pcells_one _ _ _ _) ?_
          have HFN := Lib.hid (fin16 (bb := bb) hH5 hown hz9 hg9 (by rw [List.size_toArray, pcells_len HBB.out, HLZ.out]) HXL.out (HNO9.out.hash) (HNO9.out.fits))
          refine Shut.out hKK _ _ HFN.out.2.2 (fun hH6 => ?_)
          clear hKK KK
          try simp only [Act.put, List.getElem_toArray, List.getElem_cons_zero, List.getElem_cons_succ, List.setIfInBounds_toArray, List.set_cons_zero, List.set_cons_succ]
          refine wpAnyH_done (by kernel_rfl) ?_ _
          refine NoPanic.normal ?_
          go_wp2_with fail
          go_meet
          case rel => exact ⟨_, _, _, rfl, HFN.out.1, HFN.out.2.1, HFN.out.2.2⟩
        · refine step_build1 rfl 54 58 (.tmp 80) rfl inf (.agg ZN) Tryd.underlying54 HIN.out.1 HIN.out.2.1 LN1 (by rw [HIN.out.2.2, ELN1.out, HONL.out]) (by rw [ELN1.out, HONL.out]; exact HZN.out) (by rw [ELN1.out, HONL.out]; decide) (by rw [ELN1.out, HONL.out]; decide) rfl ?_
          obtain ⟨x7, hx7⟩ : ∃ y, y = xa.alloc (.cells LN1.toArray 58) := ⟨_, rfl⟩
          have hnx7 : Below xa.heap.size xa x7 := by rw [hx7]; exact (Below.refl _ _).alloc (Nat.le_refl _) _
          have hsx7 : Below W13.heap.size W13 x7 := hH2.trans (hnx7.mono hH2.size)
          try replace hz9 := hz9.below hnx7 hz9.lt
          try replace hown_ := hown
          try replace hown := own_kept hown (Kept.of_below (S := fun _ => False) hnx7) (fun _ _ e => e)
          have hb1 : Has x7 xa.heap.size 58 LN1.toArray := by rw [hx7]; exact Has.new xa _ _
          try have hne := fun k e => Nat.ne_of_lt (own_lt hown_ k e)
          try try rw [show W13.drew.heap.size = W13.heap.size from rfl] at hb1
          first | rw [← hx7] | (change KK _ (xa.alloc (.cells LN1.toArray 58)); rw [← hx7])
          clear hx7
          refine Shut.out hKK _ _ hsx7 (fun hH3 => ?_)
          clear hKK KK
          try simp only [Act.put, List.getElem_toArray, List.getElem_cons_zero, List.getElem_cons_succ, List.setIfInBounds_toArray, List.set_cons_zero, List.set_cons_succ]
          refine wpAnyH_ready (rs := [5]) (by kernel_rfl) (by simp) ?_
          refine AllReadyH.cons rfl (fun KK hKK => ?_) AllReadyH.nil
          refine step_append_rows (cl := ndV) rfl (.tmp 76) (.tmp 78) 54 rfl W13.heap.size 58 (.agg ZN) 40 Tryd.underlying54 HINFN.out HZN.out (by decide) _ 0 [] rfl hown pa pn pc xs rfl (nodes_rows (HNO.out _ hH3)) HN1.out (by have := HPN.out; unfold maxLen; omega) (by have := HPN.out; omega) hH3.size ?_
          intro oa5 oc5 x5 hown5 hgr5
          have hs5 := hH3.grown hgr5 hH3.size (own_blk hown)
          try replace hz9 := hz9.grown hgr5 (fun e => own_has_ne hown hz9 (by decide) _ e.symm rfl)
          try replace hb1 := hb1.grown hgr5 (fun e => hne _ e.symm rfl)
          clear hown hgr5
          rw [Nat.zero_add] at hown5
          rw [Nat.zero_add]
          rw [List.nil_append] at hown5
          have hown := hown5
          clear hown5
          refine Shut.out hKK _ _ hs5 (fun hH4 => ?_)
          clear hKK KK
          try simp only [Act.put, List.getElem_toArray, List.getElem_cons_zero, List.getElem_cons_succ, List.setIfInBounds_toArray, List.set_cons_zero, List.set_cons_succ]
          refine wpAnyH_ready (rs := [8]) (by kernel_rfl) (by simp) ?_
          refine AllReadyH.cons rfl (fun KK hKK => ?_) AllReadyH.nil
          refine step_append_rows (cl := ndV) rfl (.tmp 79) (.tmp 81) 54 rfl W13.heap.size 58 (.agg ZN) 40 Tryd.underlying54 HINFN.out HZN.out (by decide) _ pn (xs.flatMap ndV) rfl hown _ 1 1 [oneNd] rfl (HROW1.out _ _ hb1) HN2.out (by have := HPN.out; unfold maxLen; omega) (by have := HPN.out; omega) hH4.size ?_
          intro oa8 oc8 x8 hown8 hgr8
          have hs8 := hH4.grown hgr8 hH4.size (own_blk hown)
          try replace hz9 := hz9.grown hgr8 (fun e => own_has_ne hown hz9 (by decide) _ e.symm rfl)
          clear hown hgr8
          have hown := hown8
          clear hown8
          refine Shut.out hKK _ _ hs8 (fun hH5 => ?_)
          clear hKK KK
          try simp only [Act.put, List.getElem_toArray, List.getElem_cons_zero, List.getElem_cons_succ, List.setIfInBounds_toArray, List.set_cons_zero, List.set_cons_succ]
          refine wpAnyH_take (i := 9) (v := (.agg (pcells bb oa8 (pn + 1) oc8).toArray)) rfl (by kernel_rfl) (by kernel_rfl) (by kernel_rfl) (fun _ _ _ h => h) (yieldsIf_build (by kernel_rfl) 56 #[(0, .tmp 75), (1, .tmp 82)] rfl #[(0, .agg (bcells bb).toArray), (1, .slice oa8 (pn + 1) oc8)] (by kernel_rfl) _ (fun w' _ => HBLD.out oa8 (pn + 1) oc8 w')) hH5 ?_
          simp only [Act.put, List.getElem_toArray, List.getElem_cons_zero, List.getElem_cons_succ, List.setIfInBounds_toArray, List.set_cons_zero, List.set_cons_succ]
          refine wpAnyH_ready (rs := [11]) (by kernel_rfl) (by simp) ?_
          refine AllReadyH.cons rfl (fun KK hKK => ?_) AllReadyH.nil
          refine step_store_mid rfl 56 (.tmp 15) (.tmp 83) rfl x2.heap.size 0 (pcells bb oa8 (pn + 1) oc8).toArray rfl rfl (hz9.there 0 _ (by rw [List.size_toArray, List.size_toArray, pcells_len HBB.out, HLZ.out]; decide)) (SZQ.out _ _ _) (pcells_one _ _ _ _) ?_
          have HFN := Lib.hid (fin16 (bb := bb) hH5 hown hz9 hg9 (by rw [List.size_toArray, pcells_len HBB.out, HLZ.out]) HXL.out (HNO9.out.hash) (HNO9.out.fits))
          refine Shut.out hKK _ _ HFN.out.2.2 (fun hH6 => ?_)
          clear hKK KK
          try simp only [Act.put, List.getElem_toArray, List.getElem_cons_zero, List.getElem_cons_succ, List.setIfInBounds_toArray, List.set_cons_zero, List.set_cons_succ]
          refine wpAnyH_done (by kernel_rfl) ?_ _
          refine NoPanic.normal ?_
          go_wp2_with fail
          go_meet
          case rel => exact ⟨_, _, _, rfl, HFN.out.1, HFN.out.2.1, HFN.out.2.2⟩
    · refine step_build1 rfl 54 58 (.tmp 80) rfl inf (.agg ZN) Tryd.underlying54 HIN.out.1 HIN.out.2.1 LN1 (by rw [HIN.out.2.2, ELN1.out, HONL.out]) (by rw [ELN1.out, HONL.out]; exact HZN.out) (by rw [ELN1.out, HONL.out]; decide) (by rw [ELN1.out, HONL.out]; decide) rfl ?_
      obtain ⟨x7, hx7⟩ : ∃ y, y = W13.drew.alloc (.cells LN1.toArray 58) := ⟨_, rfl⟩
      have hnx7 : Below W13.drew.heap.size W13.drew x7 := by rw [hx7]; exact (Below.refl _ _).alloc (Nat.le_refl _) _
      have hsx7 : Below W13.heap.size W13 x7 := hH0.trans (hnx7.mono hH0.size)
      try replace hz9 := hz9.below hnx7 hz9.lt
      try replace hown_ := hown
      try replace hown := own_kept hown (Kept.of_below (S := fun _ => False) hnx7) (fun _ _ e => e)
      have hb1 : Has x7 W13.drew.heap.size 58 LN1.toArray := by rw [hx7]; exact Has.new W13.drew _ _
      try have hne := fun k e => Nat.ne_of_lt (own_lt hown_ k e)
      try try rw [show W13.drew.heap.size = W13.heap.size from rfl] at hb1
      first | rw [← hx7] | (change KK _ (W13.drew.alloc (.cells LN1.toArray 58)); rw [← hx7])
      clear hx7
      refine Shut.out hKK _ _ hsx7 (fun hH1 => ?_)
      clear hKK KK
      try simp only [Act.put, List.getElem_toArray, List.getElem_cons_zero, List.getElem_cons_succ, List.setIfInBounds_toArray, List.set_cons_zero, List.set_cons_succ]
      refine wpAnyH_ready (rs := [2, 10]) (by kernel_rfl) (by simp) ?_
      refine AllReadyH.cons rfl (fun KK hKK => ?_) (AllReadyH.cons rfl (fun KK hKK => ?_) AllReadyH.nil)
      · go_simp
        obtain ⟨x2, hx2⟩ : ∃ y, y = x7.alloc (.cells #[] 58) := ⟨_, rfl⟩
        have hnx2 : Below x7.heap.size x7 x2 := by rw [hx2]; exact (Below.refl _ _).alloc (Nat.le_refl _) _
        have hsx2 : Below W13.heap.size W13 x2 := hH1.trans (hnx2.mono hH1.size)
        try replace hz9 := hz9.below hnx2 hz9.lt
        try replace hb1_ := hb1
        try replace hb1 := hb1.below hnx2 hb1.lt
        have hown : x2.ownsRow W13.heap.size 58 33 (.slice (some ⟨x7.heap.size, 0, none⟩) 0 0) 0 [] := by rw [hx2]; exact own_empty hH1.size _ _
        try have hne := ne_new hb1_
        try try rw [show W13.drew.heap.size = W13.heap.size from rfl] at hown
        first | rw [← hx2] | (change KK _ (x7.alloc (.cells #[] 58)); rw [← hx2])
        clear hx2
        refine Shut.out hKK _ _ hsx2 (fun hH2 => ?_)
        clear hKK KK
        try simp only [Act.put, List.getElem_toArray, List.getElem_cons_zero, List.getElem_cons_succ, List.setIfInBounds_toArray, List.set_cons_zero, List.set_cons_succ]
        refine wpAnyH_ready (rs := [5, 10]) (by kernel_rfl) (by simp) ?_
        refine AllReadyH.cons rfl (fun KK hKK => ?_) (AllReadyH.cons rfl (fun KK hKK => ?_) AllReadyH.nil)
        · refine step_append_rows (cl := ndV) rfl (.tmp 76) (.tmp 78) 54 rfl W13.heap.size 58 (.agg ZN) 40 Tryd.underlying54 HINFN.out HZN.out (by decide) _ 0 [] rfl hown pa pn pc xs rfl (nodes_rows (HNO.out _ hH2)) HN1.out (by have := HPN.out; unfold maxLen; omega) (by have := HPN.out; omega) hH2.size ?_
          intro oa5 oc5 x5 hown5 hgr5
          have hs5 := hH2.grown hgr5 hH2.size (own_blk hown)
          try replace hz9 := hz9.grown hgr5 (fun e => own_has_ne hown hz9 (by decide) _ e.symm rfl)
          try replace hb1 := hb1.grown hgr5 (fun e => hne _ e.symm rfl)
          clear hown hgr5
          rw [Nat.zero_add] at hown5
          rw [Nat.zero_add]
          rw [List.nil_append] at hown5
          have hown := hown5
          clear hown5
          refine Shut.out hKK _ _ hs5 (fun hH3 => ?_)
          clear hKK KK
          try simp only [Act.put, List.getElem_toArray, List.getElem_cons_zero, List.getElem_cons_succ, List.setIfInBounds_toArray, List.set_cons_zero, List.set_cons_succ]
          refine wpAnyH_ready (rs := [8, 10]) (by kernel_rfl) (by simp) ?_
          refine AllReadyH.cons rfl (fun KK hKK => ?_) (AllReadyH.cons rfl (fun KK hKK => ?_) AllReadyH.nil)
          · refine step_append_rows (cl := ndV) rfl (.tmp 79) (.tmp 81) 54 rfl W13.heap.size 58 (.agg ZN) 40 Tryd.underlying54 HINFN.out HZN.out (by decide) _ pn (xs.flatMap ndV) rfl hown _ 1 1 [oneNd] rfl (HROW1.out _ _ hb1) HN2.out (by have := HPN.out; unfold maxLen; omega) (by have := HPN.out; omega) hH3.size ?_
            intro oa8 oc8 x8 hown8 hgr8
            have hs8 := hH3.grown hgr8 hH3.size (own_blk hown)
            try replace hz9 := hz9.grown hgr8 (fun e => own_has_ne hown hz9 (by decide) _ e.symm rfl)
            clear hown hgr8
            have hown := hown8
            clear hown8
            refine Shut.out hKK _ _ hs8 (fun hH4 => ?_)
            clear hKK KK
            try simp only [Act.put, List.getElem_toArray, List.getElem_cons_zero, List.getElem_cons_succ, List.setIfInBounds_toArray, List.set_cons_zero, List.set_cons_succ]
            refine wpAnyH_take (i := 9) (v := (.agg (pcells bb oa8 (pn + 1) oc8).toArray)) rfl (by kernel_rfl) (by kernel_rfl) (by kernel_rfl) (fun _ _ _ h => h) (yieldsIf_build (by kernel_rfl) 56 #[(0, .tmp 75), (1, .tmp 82)] rfl #[(0, .agg (bcells bb).toArray), (1, .slice oa8 (pn + 1) oc8)] (by kernel_rfl) _ (fun w' _ => HBLD.out oa8 (pn + 1) oc8 w')) hH4 ?_
            simp only [Act.put, List.getElem_toArray, List.getElem_cons_zero, List.getElem_cons_succ, List.setIfInBounds_toArray, List.set_cons_zero, List.set_cons_succ]
            refine wpAnyH_ready (rs := [10]) (by kernel_rfl) (by simp) ?_
            refine AllReadyH.cons rfl (fun KK hKK => ?_) AllReadyH.nil
            go_simp
            obtain ⟨xa, hxa⟩ : ∃ y, y = x8.alloc (.cells LZ.toArray 56) := ⟨_, rfl⟩
            have hnxa : Below x8.heap.size x8 xa := by rw [hxa]; exact (Below.refl _ _).alloc (Nat.le_refl _) _
            have hsxa : Below W13.heap.size W13 xa := hH4.trans (hnxa.mono hH4.size)
            try replace hown := own_kept hown (Kept.of_below (S := fun _ => False) hnxa) (fun _ _ e => e)
            try replace hb1 := hb1.below hnxa hb1.lt
            have hz9 : Has xa x8.heap.size 56 LZ.toArray := by rw [hxa]; exact Has.new x8 _ _
            have hg9 := hH4.size
            try try rw [show W13.drew.heap.size = W13.heap.size from rfl] at hz9
            first | rw [← hxa] | (change KK _ (x8.alloc (.cells LZ.toArray 56)); rw [← hxa])
            clear hxa
            refine Shut.out hKK _ _ hsxa (fun hH5 => ?_)
            clear hKK KK
            try simp only [Act.put, List.getElem_toArray, List.getElem_cons_zero, List.getElem_cons_succ, List.setIfInBounds_toArray, List.set_cons_zero, List.set_cons_succ]
            refine wpAnyH_ready (rs := [11]) (by kernel_rfl) (by simp) ?_
            refine AllReadyH.cons rfl (fun KK hKK => ?_) AllReadyH.nil
            refine step_store_mid rfl 56 (.tmp 15) (.tmp 83) rfl x8.heap.size 0 (pcells bb oa8 (pn + 1) oc8).toArray rfl rfl (hz9.there 0 _ (by rw [List.size_toArray, List.size_toArray, pcells_len HBB.out, HLZ.out]; decide)) (SZQ.out _ _ _) (pcells_one _ _ _ _) ?_
            have HFN := Lib.hid (fin16 (bb := bb) hH5 hown hz9 hg9 (by rw [List.size_toArray, pcells_len HBB.out, HLZ.out]) HXL.out (HNO9.out.hash) (HNO9.out.fits))
            refine Shut.out hKK _ _ HFN.out.2.2 (fun hH6 => ?_)
            clear hKK KK
            try simp only [Act.put, List.getElem_toArray, List.getElem_cons_zero, List.getElem_cons_succ, List.setIfInBounds_toArray, List.set_cons_zero, List.set_cons_succ]
            refine wpAnyH_done (by kernel_rfl) ?_ _
            refine NoPanic.normal ?_
            go_wp2_with fail
            go_meet
            case rel => exact ⟨_, _, _, rfl, HFN.out.1, HFN.out.2.1, HFN.out.2.2⟩
          · go_simp
            obtain ⟨xa, hxa⟩ : ∃ y, y = x5.alloc (.cells LZ.toArray 56) := ⟨_, rfl⟩
            have hnxa : Below x5.heap.size x5 xa := by rw [hxa]; exact (Below.refl _ _).alloc (Nat.le_refl _) _
            have hsxa : Below W13.heap.size W13 xa := hH3.trans (hnxa.mono hH3.size)
            try replace hown := own_kept hown (Kept.of_below (S := fun _ => False) hnxa) (fun _ _ e => e)
            try replace hb1 := hb1.below hnxa hb1.lt
            have hz9 : Has xa x5.heap.size 56 LZ.toArray := by rw [hxa]; exact Has.new x5 _ _
            have hg9 := hH3.size
            try try rw [show W13.drew.heap.size = W13.heap.size from rfl] at hz9
            first | rw [← hxa] | (change KK _ (x5.alloc (.cells LZ.toArray 56)); rw [← hxa])
            clear hxa
            refine Shut.out hKK _ _ hsxa (fun hH4 => ?_)
            clear hKK KK
            try simp only [Act.put, List.getElem_toArray, List.getElem_cons_zero, List.getElem_cons_succ, List.setIfInBounds_toArray, List.set_cons_zero, List.set_cons_succ]
            refine wpAnyH_ready (rs := [8]) (by kernel_rfl) (by simp) ?_
            refine AllReadyH.cons rfl (fun KK hKK => ?_) AllReadyH.nil
            refine step_append_rows (cl := ndV) rfl (.tmp 79) (.tmp 81) 54 rfl W13.heap.size 58 (.agg ZN) 40 Tryd.underlying54 HINFN.out HZN.out (by decide) _ pn (xs.flatMap ndV) rfl hown _ 1 1 [oneNd] rfl (HROW1.out _ _ hb1) HN2.out (by have := HPN.out; unfold maxLen; omega) (by have := HPN.out; omega) hH4.size ?_
            intro oa8 oc8 x8 hown8 hgr8
            have hs8 := hH4.grown hgr8 hH4.size (own_blk hown)
            try replace hz9 := hz9.grown hgr8 (fun e => own_has_ne hown hz9 (by decide) _ e.symm rfl)
            clear hown hgr8
            have hown := hown8
            clear hown8
            refine Shut.out hKK _ _ hs8 (fun hH5 => ?_)
            clear hKK KK
            try simp only [Act.put, List.getElem_toArray, List.getElem_cons_zero, List.getElem_cons_succ, List.setIfInBounds_toArray, List.set_cons_zero, List.set_cons_succ]
            refine wpAnyH_take (i := 9) (v := (.agg (pcells bb oa8 (pn + 1) oc8).toArray)) rfl (by kernel_rfl) (by kernel_rfl) (by kernel_rfl) (fun _ _ _ h => h) (yieldsIf_build (by kernel_rfl) 56 #[(0, .tmp 75), (1, .tmp 82)] rfl #[(0, .agg (bcells bb).toArray), (1, .slice oa8 (pn + 1) oc8)] (by kernel_rfl) _ (fun w' _ => HBLD.out oa8 (pn + 1) oc8 w')) hH5 ?_
            simp only [Act.put, List.getElem_toArray, List.getElem_cons_zero, List.getElem_cons_succ, List.setIfInBounds_toArray, List.set_cons_zero, List.set_cons_succ]
            refine wpAnyH_ready (rs := [11]) (by kernel_rfl) (by simp) ?_
            refine AllReadyH.cons rfl (fun KK hKK => ?_) AllReadyH.nil
            refine step_store_mid rfl 56 (.tmp 15) (.tmp 83) rfl x5.heap.size 0 (pcells bb oa8 (pn + 1) oc8).toArray rfl rfl (hz9.there 0 _ (by rw [List.size_toArray, List.size_toArray, pcells_len HBB.out, HLZ.out]; decide)) (SZQ.out _ _ _) (pcells_one _ _ _ _) ?_
            have HFN := Lib.hid (fin16 (bb := bb) hH5 hown hz9 hg9 (by rw [List.size_toArray, pcells_len HBB.out, HLZ.out]) HXL.out (HNO9.out.hash) (HNO9.out.fits))
            refine Shut.out hKK _ _ HFN.out.2.2 (fun hH6 => ?_)
            clear hKK KK
            try simp only [Act.put, List.getElem_toArray, List.getElem_cons_zero, List.getElem_cons_succ, List.setIfInBounds_toArray, List.set_cons_zero, List.set_cons_succ]
            refine wpAnyH_done (by kernel_rfl) ?_ _
            refine NoPanic.normal ?_
            go_wp2_with fail
            go_meet
            case rel => exact ⟨_, _, _, rfl, HFN.out.1, HFN.out.2.1, HFN.out.2.2⟩
        · go_simp
          obtain ⟨xa, hxa⟩ : ∃ y, y = x2.alloc (.cells LZ.toArray 56) := ⟨_, rfl⟩
          have hnxa : Below x2.heap.size x2 xa := by rw [hxa]; exact (Below.refl _ _).alloc (Nat.le_refl _) _
          have hsxa : Below W13.heap.size W13 xa := hH2.trans (hnxa.mono hH2.size)
          try replace hown := own_kept hown (Kept.of_below (S := fun _ => False) hnxa) (fun _ _ e => e)
          try replace hb1 := hb1.below hnxa hb1.lt
          have hz9 : Has xa x2.heap.size 56 LZ.toArray := by rw [hxa]; exact Has.new x2 _ _
          have hg9 := hH2.size
          try try rw [show W13.drew.heap.size = W13.heap.size from rfl] at hz9
          first | rw [← hxa] | (change KK _ (x2.alloc (.cells LZ.toArray 56)); rw [← hxa])
          clear hxa
          refine Shut.out hKK _ _ hsxa (fun hH3 => ?_)
          clear hKK KK
          try simp only [Act.put, List.getElem_toArray, List.getElem_cons_zero, List.getElem_cons_succ, List.setIfInBounds_toArray, List.set_cons_zero, List.set_cons_succ]
          refine wpAnyH_ready (rs := [5]) (by kernel_rfl) (by simp) ?_
          refine AllReadyH.cons rfl (fun KK hKK => ?_) AllReadyH.nil
          refine step_append_rows (cl := ndV) rfl (.tmp 76) (.tmp 78) 54 rfl W13.heap.size 58 (.agg ZN) 40 Tryd.underlying54 HINFN.out HZN.out (by decide) _ 0 [] rfl hown pa pn pc xs rfl (nodes_rows (HNO.out _ hH3)) HN1.out (by have := HPN.out; unfold maxLen; omega) (by have := HPN.out; omega) hH3.size ?_
          intro oa5 oc5 x5 hown5 hgr5
          have hs5 := hH3.grown hgr5 hH3.size (own_blk hown)
          try replace hz9 := hz9.grown hgr5 (fun e => own_has_ne hown hz9 (by decide) _ e.symm rfl)
          try replace hb1 := hb1.grown hgr5 (fun e => hne _ e.symm rfl)
          clear hown hgr5
          rw [Nat.zero_add] at hown5
          rw [Nat.zero_add]
          rw [List.nil_append] at hown5
          have hown := hown5
          clear hown5
          refine Shut.out hKK _ _ hs5 (fun hH4 => ?_)
          clear hKK KK
          try simp only [Act.put, List.getElem_toArray, List.getElem_cons_zero, List.getElem_cons_succ, List.setIfInBounds_toArray, List.set_cons_zero, List.set_cons_succ]
          refine wpAnyH_ready (rs := [8]) (by kernel_rfl) (by simp) ?_
          refine AllReadyH.cons rfl (fun KK hKK => ?_) AllReadyH.nil
          refine step_append_rows (cl := ndV) rfl (.tmp 79) (.tmp 81) 54 rfl W13.heap.size 58 (.agg ZN) 40 Tryd.underlying54 HINFN.out HZN.out (by decide) _ pn (xs.flatMap ndV) rfl hown _ 1 1 [oneNd] rfl (HROW1.out _ _ hb1) HN2.out (by have := HPN.out; unfold maxLen; omega) (by have := HPN.out; omega) hH4.size ?_
          intro oa8 oc8 x8 hown8 hgr8
          have hs8 := hH4.grown hgr8 hH4.size (own_blk hown)
          try replace hz9 := hz9.grown hgr8 (fun e => own_has_ne hown hz9 (by decide) _ e.symm rfl)
          clear hown hgr8
          have hown := hown8
          clear hown8
          refine Shut.out hKK _ _ hs8 (fun hH5 => ?_)
          clear hKK KK
          try simp only [Act.put, List.getElem_toArray, List.getElem_cons_zero, List.getElem_cons_succ, List.setIfInBounds_toArray, List.set_cons_zero, List.set_cons_succ]
          refine wpAnyH_take (i := 9) (v := (.agg (pcells bb oa8 (pn + 1) oc8).toArray)) rfl (by kernel_rfl) (by kernel_rfl) (by kernel_rfl) (fun _ _ _ h => h) (yieldsIf_build (by kernel_rfl) 56 #[(0, .tmp 75), (1, .tmp 82)] rfl #[(0, .agg (bcells bb).toArray), (1, .slice oa8 (pn + 1) oc8)] (by kernel_rfl) _ (fun w' _ => HBLD.out oa8 (pn + 1) oc8 w')) hH5 ?_
          simp only [Act.put, List.getElem_toArray, List.getElem_cons_zero, List.getElem_cons_succ, List.setIfInBounds_toArray, List.set_cons_zero, List.set_cons_succ]
          refine wpAnyH_ready (rs := [11]) (by kernel_rfl) (by simp) ?_
          refine AllReadyH.cons rfl (fun KK hKK => ?_) AllReadyH.nil
          refine step_store_mid rfl 56 (.tmp 15) (.tmp 83) rfl x2.heap.size 0 (pcells bb oa8 (pn + 1) oc8).toArray rfl rfl (hz9.there 0 _ (by rw [List.size_toArray, List.size_toArray, pcells_len HBB.out, HLZ.out]; decide)) (SZQ.out _ _ _) (pcells_one _ _ _ _) ?_
          have HFN := Lib.hid (fin16 (bb := bb) hH5 hown hz9 hg9 (by rw [List.size_toArray, pcells_len HBB.out, HLZ.out]) HXL.out (HNO9.out.hash) (HNO9.out.fits))
          refine Shut.out hKK _ _ HFN.out.2.2 (fun hH6 => ?_)
          clear hKK KK
          try simp only [Act.put, List.getElem_toArray, List.getElem_cons_zero, List.getElem_cons_succ, List.setIfInBounds_toArray, List.set_cons_zero, List.set_cons_succ]
          refine wpAnyH_done (by kernel_rfl) ?_ _
          refine NoPanic.normal ?_
          go_wp2_with fail
          go_meet
          case rel => exact ⟨_, _, _, rfl, HFN.out.1, HFN.out.2.1, HFN.out.2.2⟩
      · go_simp
        obtain ⟨xa, hxa⟩ : ∃ y, y = x7.alloc (.cells LZ.toArray 56) := ⟨_, rfl⟩
        have hnxa : Below x7.heap.size x7 xa := by rw [hxa]; exact (Below.refl _ _).alloc (Nat.le_refl _) _
        have hsxa : Below W13.heap.size W13 xa := hH1.trans (hnxa.mono hH1.size)
        try replace hown := own_kept hown (Kept.of_below (S := fun _ => False) hnxa) (fun _ _ e => e)
        try replace hb1 := hb1.below hnxa hb1.lt
        have hz9 : Has xa x7.heap.size 56 LZ.toArray := by rw [hxa]; exact Has.new x7 _ _
        have hg9 := hH1.size
        try try rw [show W13.drew.heap.size = W13.heap.size from rfl] at hz9
        first | rw [← hxa] | (change KK _ (x7.alloc (.cells LZ.toArray 56)); rw [← hxa])
        clear hxa
        refine Shut.out hKK _ _ hsxa (fun hH2 => ?_)
        clear hKK KK
        try simp only [Act.put, List.getElem_toArray, List.getElem_cons_zero, List.getElem_cons_succ, List.setIfInBounds_toArray, List.set_cons_zero, List.set_cons_succ]
        refine wpAnyH_ready (rs := [2]) (by kernel_rfl) (by simp) ?_
        refine AllReadyH.cons rfl (fun KK hKK => ?_) AllReadyH.nil
        go_simp
        obtain ⟨x2, hx2⟩ : ∃ y, y = xa.alloc (.cells #[] 58) := ⟨_, rfl⟩
        have hnx2 : Below xa.heap.size xa x2 := by rw [hx2]; exact (Below.refl _ _).alloc (Nat.le_refl _) _
        have hsx2 : Below W13.heap.size W13 x2 := hH2.trans (hnx2.mono hH2.size)
        try replace hz9 := hz9.below hnx2 hz9.lt
        try replace hb1_ := hb1
        try replace hb1 := hb1.below hnx2 hb1.lt
        have hown : x2.ownsRow W13.heap.size 58 33 (.slice (some ⟨xa.heap.size, 0, none⟩) 0 0) 0 [] := by rw [hx2]; exact own_empty hH2.size _ _
        try have hne := ne_new hb1_
        try try rw [show W13.drew.heap.size = W13.heap.size from rfl] at hown
        first | rw [← hx2] | (change KK _ (xa.alloc (.cells #[] 58)); rw [← hx2])
        clear hx2
        refine Shut.out hKK _ _ hsx2 (fun hH3 => ?_)
        clear hKK KK
        try simp only [Act.put, List.getElem_toArray, List.getElem_cons_zero, List.getElem_cons_succ, List.setIfInBounds_toArray, List.set_cons_zero, List.set_cons_succ]
        refine wpAnyH_ready (rs := [5]) (by kernel_rfl) (by simp) ?_
        refine AllReadyH.cons rfl (fun KK hKK => ?_) AllReadyH.nil
        refine step_append_rows (cl := ndV) rfl (.tmp 76) (.tmp 78) 54 rfl W13.heap.size 58 (.agg ZN) 40 Tryd.underlying54 HINFN.out HZN.out (by decide) _ 0 [] rfl hown pa pn pc xs rfl (nodes_rows (HNO.out _ hH3)) HN1.out (by have := HPN.out; unfold maxLen; omega) (by have := HPN.out; omega) hH3.size ?_
        intro oa5 oc5 x5 hown5 hgr5
        have hs5 := hH3.grown hgr5 hH3.size (own_blk hown)
        try replace hz9 := hz9.grown hgr5 (fun e => own_has_ne hown hz9 (by decide) _ e.symm rfl)
        try replace hb1 := hb1.grown hgr5 (fun e => hne _ e.symm rfl)
        clear hown hgr5
        rw [Nat.zero_add] at hown5
        rw [Nat.zero_add]
        rw [List.nil_append] at hown5
        have hown := hown5
        clear hown5
        refine Shut.out hKK _ _ hs5 (fun hH4 => ?_)
        clear hKK KK
        try simp only [Act.put, List.getElem_toArray, List.getElem_cons_zero, List.getElem_cons_succ, List.setIfInBounds_toArray, List.set_cons_zero, List.set_cons_succ]
        refine wpAnyH_ready (rs := [8]) (by kernel_rfl) (by simp) ?_
        refine AllReadyH.cons rfl (fun KK hKK => ?_) AllReadyH.nil
        refine step_append_rows (cl := ndV) rfl (.tmp 79) (.tmp 81) 54 rfl W13.heap.size 58 (.agg ZN) 40 Tryd.underlying54 HINFN.out HZN.out (by decide) _ pn (xs.flatMap ndV) rfl hown _ 1 1 [oneNd] rfl (HROW1.out _ _ hb1) HN2.out (by have := HPN.out; unfold maxLen; omega) (by have := HPN.out; omega) hH4.size ?_
        intro oa8 oc8 x8 hown8 hgr8
        have hs8 := hH4.grown hgr8 hH4.size (own_blk hown)
        try replace hz9 := hz9.grown hgr8 (fun e => own_has_ne hown hz9 (by decide) _ e.symm rfl)
        clear hown hgr8
        have hown := hown8
        clear hown8
        refine Shut.out hKK _ _ hs8 (fun hH5 => ?_)
        clear hKK KK
        try simp only [Act.put, List.getElem_toArray, List.getElem_cons_zero, List.getElem_cons_succ, List.setIfInBounds_toArray, List.set_cons_zero, List.set_cons_succ]
        refine wpAnyH_take (i := 9) (v := (.agg (pcells bb oa8 (pn + 1) oc8).toArray)) rfl (by kernel_rfl) (by kernel_rfl) (by kernel_rfl) (fun _ _ _ h => h) (yieldsIf_build (by kernel_rfl) 56 #[(0, .tmp 75), (1, .tmp 82)] rfl #[(0, .agg (bcells bb).toArray), (1, .slice oa8 (pn + 1) oc8)] (by kernel_rfl) _ (fun w' _ => HBLD.out oa8 (pn + 1) oc8 w')) hH5 ?_
        simp only [Act.put, List.getElem_toArray, List.getElem_cons_zero, List.getElem_cons_succ, List.setIfInBounds_toArray, List.set_cons_zero, List.set_cons_succ]
        refine wpAnyH_ready (rs := [11]) (by kernel_rfl) (by simp) ?_
        refine AllReadyH.cons rfl (fun KK hKK => ?_) AllReadyH.nil
        refine step_store_mid rfl 56 (.tmp 15) (.tmp 83) rfl x7.heap.size 0 (pcells bb oa8 (pn + 1) oc8).toArray rfl rfl (hz9.there 0 _ (by rw [List.size_toArray, List.size_toArray, pcells_len HBB.out, HLZ.out]; decide)) (SZQ.out _ _ _) (pcells_one _ _ _ _) ?_
        have HFN := Lib.hid (fin16 (bb := bb) hH5 hown hz9 hg9 (by rw [List.size_toArray, pcells_len HBB.out, HLZ.out]) HXL.out (HNO9.out.hash) (HNO9.out.fits))
        refine Shut.out hKK _ _ HFN.out.2.2 (fun hH6 => ?_)
        clear hKK KK
        try simp only [Act.put, List.getElem_toArray, List.getElem_cons_zero, List.getElem_cons_succ, List.setIfInBounds_toArray, List.set_cons_zero, List.set_cons_succ]
        refine wpAnyH_done (by kernel_rfl) ?_ _
        refine NoPanic.normal ?_
        go_wp2_with fail
        go_meet
        case rel => exact ⟨_, _, _, rfl, HFN.out.1, HFN.out.2.1, HFN.out.2.2⟩
    · go_simp
      obtain ⟨xa, hxa⟩ : ∃ y, y = W13.drew.alloc (.cells LZ.toArray 56) := ⟨_, rfl⟩
      have hnxa : Below W13.drew.heap.size W13.drew xa := by rw [hxa]; exact (Below.refl _ _).alloc (Nat.le_refl _) _
      have hsxa : Below W13.heap.size W13 xa := hH0.trans (hnxa.mono hH0.size)
      try replace hown := own_kept hown (Kept.of_below (S := fun _ => False) hnxa) (fun _ _ e => e)
      try replace hb1 := hb1.below hnxa hb1.lt
      have hz9 : Has xa W13.drew.heap.size 56 LZ.toArray := by rw [hxa]; exact Has.new W13.drew _ _
      have hg9 := hH0.size
      try try rw [show W13.drew.heap.size = W13.heap.size from rfl] at hz9
      first | rw [← hxa] | (change KK _ (W13.drew.alloc (.cells LZ.toArray 56)); rw [← hxa])
      clear hxa
      refine Shut.out hKK _ _ hsxa (fun hH1 => ?_)
      clear hKK KK
      try simp only [Act.put, List.getElem_toArray, List.getElem_cons_zero, List.getElem_cons_succ, List.setIfInBounds_toArray, List.set_cons_zero, List.set_cons_succ]
      refine wpAnyH_ready (rs := [2, 7]) (by kernel_rfl) (by simp) ?_
      refine AllReadyH.cons rfl (fun KK hKK => ?_) (AllReadyH.cons rfl (fun KK hKK => ?_) AllReadyH.nil)
      · go_simp
        obtain ⟨x2, hx2⟩ : ∃ y, y = xa.alloc (.cells #[] 58) := ⟨_, rfl⟩
        have hnx2 : Below xa.heap.size xa x2 := by rw [hx2]; exact (Below.refl _ _).alloc (Nat.le_refl _) _
        have hsx2 : Below W13.heap.size W13 x2 := hH1.trans (hnx2.mono hH1.size)
        try replace hz9 := hz9.below hnx2 hz9.lt
        try replace hb1_ := hb1
        try replace hb1 := hb1.below hnx2 hb1.lt
        have hown : x2.ownsRow W13.heap.size 58 33 (.slice (some ⟨xa.heap.size, 0, none⟩) 0 0) 0 [] := by rw [hx2]; exact own_empty hH1.size _ _
        try have hne := ne_new hb1_
        try try rw [show W13.drew.heap.size = W13.heap.size from rfl] at hown
        first | rw [← hx2] | (change KK _ (xa.alloc (.cells #[] 58)); rw [← hx2])
        clear hx2
        refine Shut.out hKK _ _ hsx2 (fun hH2 => ?_)
        clear hKK KK
        try simp only [Act.put, List.getElem_toArray, List.getElem_cons_zero, List.getElem_cons_succ, List.setIfInBounds_toArray, List.set_cons_zero, List.set_cons_succ]
        refine wpAnyH_ready (rs := [5, 7]) (by kernel_rfl) (by simp) ?_
        refine AllReadyH.cons rfl (fun KK hKK => ?_) (AllReadyH.cons rfl (fun KK hKK => ?_) AllReadyH.nil)
        · refine step_append_rows (cl := ndV) rfl (.tmp 76) (.tmp 78) 54 rfl W13.heap.size 58 (.agg ZN) 40 Tryd.underlying54 HINFN.out HZN.out (by decide) _ 0 [] rfl hown pa pn pc xs rfl (nodes_rows (HNO.out _ hH2)) HN1.out (by have := HPN.out; unfold maxLen; omega) (by have := HPN.out; omega) hH2.size ?_
          intro oa5 oc5 x5 hown5 hgr5
          have hs5 := hH2.grown hgr5 hH2.size (own_blk hown)
          try replace hz9 := hz9.grown hgr5 (fun e => own_has_ne hown hz9 (by decide) _ e.symm rfl)
          try replace hb1 := hb1.grown hgr5 (fun e => hne _ e.symm rfl)
          clear hown hgr5
          rw [Nat.zero_add] at hown5
          rw [Nat.zero_add]
          rw [List.nil_append] at hown5
          have hown := hown5
          clear hown5
          refine Shut.out hKK _ _ hs5 (fun hH3 => ?_)
          clear hKK KK
          try simp only [Act.put, List.getElem_toArray, List.getElem_cons_zero, List.getElem_cons_succ, List.setIfInBounds_toArray, List.set_cons_zero, List.set_cons_succ]
          refine wpAnyH_ready (rs := [7]) (by kernel_rfl) (by simp) ?_
          refine AllReadyH.cons rfl (fun KK hKK => ?_) AllReadyH.nil
          refine step_build1 rfl 54 58 (.tmp 80) rfl inf (.agg ZN) Tryd.underlying54 HIN.out.1 HIN.out.2.1 LN1 (by rw [HIN.out.2.2, ELN1.out, HONL.out]) (by rw [ELN1.out, HONL.out]; exact HZN.out) (by rw [ELN1.out, HONL.out]; decide) (by rw [ELN1.out, HONL.out]; decide) rfl ?_
          obtain ⟨x7, hx7⟩ : ∃ y, y = x5.alloc (.cells LN1.toArray 58) := ⟨_, rfl⟩
          have hnx7 : Below x5.heap.size x5 x7 := by rw [hx7]; exact (Below.refl _ _).alloc (Nat.le_refl _) _
          have hsx7 : Below W13.heap.size W13 x7 := hH3.trans (hnx7.mono hH3.size)
          try replace hz9 := hz9.below hnx7 hz9.lt
          try replace hown_ := hown
          try replace hown := own_kept hown (Kept.of_below (S := fun _ => False) hnx7) (fun _ _ e => e)
          have hb1 : Has x7 x5.heap.size 58 LN1.toArray := by rw [hx7]; exact Has.new x5 _ _
          try have hne := fun k e => Nat.ne_of_lt (own_lt hown_ k e)
          try try rw [show W13.drew.heap.size = W13.heap.size from rfl] at hb1
          first | rw [← hx7] | (change KK _ (x5.alloc (.cells LN1.toArray 58)); rw [← hx7])
          clear hx7
          refine Shut.out hKK _ _ hsx7 (fun hH4 => ?_)
          clear hKK KK
          try simp only [Act.put, List.getElem_toArray, List.getElem_cons_zero, List.getElem_cons_succ, List.setIfInBounds_toArray, List.set_cons_zero, List.set_cons_succ]
          refine wpAnyH_ready (rs := [8]) (by kernel_rfl) (by simp) ?_
          refine AllReadyH.cons rfl (fun KK hKK => ?_) AllReadyH.nil
          refine step_append_rows (cl := ndV) rfl (.tmp 79) (.tmp 81) 54 rfl W13.heap.size 58 (.agg ZN) 40 Tryd.underlying54 HINFN.out HZN.out (by decide) _ pn (xs.flatMap ndV) rfl hown _ 1 1 [oneNd] rfl (HROW1.out _ _ hb1) HN2.out (by have := HPN.out; unfold maxLen; omega) (by have := HPN.out; omega) hH4.size ?_
          intro oa8 oc8 x8 hown8 hgr8
          have hs8 := hH4.grown hgr8 hH4.size (own_blk hown)
          try replace hz9 := hz9.grown hgr8 (fun e => own_has_ne hown hz9 (by decide) _ e.symm rfl)
          clear hown hgr8
          have hown := hown8
          clear hown8
          refine Shut.out hKK _ _ hs8 (fun hH5 => ?_)
          clear hKK KK
          try simp only [Act.put, List.getElem_toArray, List.getElem_cons_zero, List.getElem_cons_succ, List.setIfInBounds_toArray, List.set_cons_zero, List.set_cons_succ]
          refine wpAnyH_take (i := 9) (v := (.agg (pcells bb oa8 (pn + 1) oc8).toArray)) rfl (by kernel_rfl) (by kernel_rfl) (by kernel_rfl) (fun _ _ _ h => h) (yieldsIf_build (by kernel_rfl) 56 #[(0, .tmp 75), (1, .tmp 82)] rfl #[(0, .agg (bcells bb).toArray), (1, .slice oa8 (pn + 1) oc8)] (by kernel_rfl) _ (fun w' _ => HBLD.out oa8 (pn + 1) oc8 w')) hH5 ?_
          simp only [Act.put, List.getElem_toArray, List.getElem_cons_zero, List.getElem_cons_succ, List.setIfInBounds_toArray, List.set_cons_zero, List.set_cons_succ]
          refine wpAnyH_ready (rs := [11]) (by kernel_rfl) (by simp) ?_
          refine AllReadyH.cons rfl (fun KK hKK => ?_) AllReadyH.nil
          refine step_store_mid rfl 56 (.tmp 15) (.tmp 83) rfl W13.drew.heap.size 0 (pcells bb oa8 (pn + 1) oc8).toArray rfl rfl (hz9.there 0 _ (by rw [List.size_toArray, List.size_toArray, pcells_len HBB.out, HLZ.out]; decide)) (SZQ.out _ _ _) (pcells_one _ _ _ _) ?_
          have HFN := Lib.hid (fin16 (bb := bb) hH5 hown hz9 hg9 (by rw [List.size_toArray, pcells_len HBB.out, HLZ.out]) HXL.out (HNO9.out.hash) (HNO9.out.fits))
          refine Shut.out hKK _ _ HFN.out.2.2 (fun hH6 => ?_)
          clear hKK KK
          try simp only [Act.put, List.getElem_toArray, List.getElem_cons_zero, List.getElem_cons_succ, List.setIfInBounds_toArray, List.set_cons_zero, List.set_cons_succ]
          refine wpAnyH_done (by kernel_rfl) ?_ _
          refine NoPanic.normal ?_
          go_wp2_with fail
          go_meet
          case rel => exact ⟨_, _, _, rfl, HFN.out.1, HFN.out.2.1, HFN.out.2.2⟩
        · refine step_build1 rfl 54 58 (.tmp 80) rfl inf (.agg ZN) Tryd.underlying54 HIN.out.1 HIN.out.2.1 LN1 (by rw [HIN.out.2.2, ELN1.out, HONL.out]) (by rw [ELN1.out, HONL.out]; exact HZN.out) (by rw [ELN1.out, HONL.out]; decide) (by rw [ELN1.out, HONL.out]; decide) rfl ?_
          obtain ⟨x7, hx7⟩ : ∃ y, y = x2.alloc (.cells LN1.toArray 58) := ⟨_, rfl⟩
          have hnx7 : Below x2.heap.size x2 x7 := by rw [hx7]; exact (Below.refl _ _).alloc (Nat.le_refl _) _
          have hsx7 : Below W13.heap.size W13 x7 := hH2.trans (hnx7.mono hH2.size)
          try replace hz9 := hz9.below hnx7 hz9.lt
          try replace hown_ := hown
          try replace hown := own_kept hown (Kept.of_below (S := fun _ => False) hnx7) (fun _ _ e => e)
          have hb1 : Has x7 x2.heap.size 58 LN1.toArray := by rw [hx7]; exact Has.new x2 _ _
          try have hne := fun k e => Nat.ne_of_lt (own_lt hown_ k e)
          try try rw [show W13.drew.heap.size = W13.heap.size from rfl] at hb1
          first | rw [← hx7] | (change KK _ (x2.alloc (.cells LN1.toArray 58)); rw [← hx7])
          clear hx7
          refine Shut.out hKK _ _ hsx7 (fun hH3 => ?_)
          clear hKK KK
          try simp only [Act.put, List.getElem_toArray, List.getElem_cons_zero, List.getElem_cons_succ, List.setIfInBounds_toArray, List.set_cons_zero, List.set_cons_succ]
          refine wpAnyH_ready (rs := [5]) (by kernel_rfl) (by simp) ?_
          refine AllReadyH.cons rfl (fun KK hKK => ?_) AllReadyH.nil
          refine step_append_rows (cl := ndV) rfl (.tmp 76) (.tmp 78) 54 rfl W13.heap.size 58 (.agg ZN) 40 Tryd.underlying54 HINFN.out HZN.out (by decide) _ 0 [] rfl hown pa pn pc xs rfl (nodes_rows (HNO.out _ hH3)) HN1.out (by have := HPN.out; unfold maxLen; omega) (by have := HPN.out; omega) hH3.size ?_
          intro oa5 oc5 x5 hown5 hgr5
          have hs5 := hH3.grown hgr5 hH3.size (own_blk hown)
          try replace hz9 := hz9.grown hgr5 (fun e => own_has_ne hown hz9 (by decide) _ e.symm rfl)
          try replace hb1 := hb1.grown hgr5 (fun e => hne _ e.symm rfl)
          clear hown hgr5
          rw [Nat.zero_add] at hown5
          rw [Nat.zero_add]
          rw [List.nil_append] at hown5
          have hown := hown5
          clear hown5
          refine Shut.out hKK _ _ hs5 (fun hH4 => ?_)
          clear hKK KK
          try simp only [Act.put, List.getElem_toArray, List.getElem_cons_zero, List.getElem_cons_succ, List.setIfInBounds_toArray, List.set_cons_zero, List.set_cons_succ]
          refine wpAnyH_ready (rs := [8]) (by kernel_rfl) (by simp) ?_
          refine AllReadyH.cons rfl (fun KK hKK => ?_) AllReadyH.nil
          refine step_append_rows (cl := ndV) rfl (.tmp 79) (.tmp 81) 54 rfl W13.heap.size 58 (.agg ZN) 40 Tryd.underlying54 HINFN.out HZN.out (by decide) _ pn (xs.flatMap ndV) rfl hown _ 1 1 [oneNd] rfl (HROW1.out _ _ hb1) HN2.out (by have := HPN.out; unfold maxLen; omega) (by have := HPN.out; omega) hH4.size ?_
          intro oa8 oc8 x8 hown8 hgr8
          have hs8 := hH4.grown hgr8 hH4.size (own_blk hown)
          try replace hz9 := hz9.grown hgr8 (fun e => own_has_ne hown hz9 (by decide) _ e.symm rfl)
          clear hown hgr8
          have hown := hown8
          clear hown8
          refine Shut.out hKK _ _ hs8 (fun hH5 => ?_)
          clear hKK KK
          try simp only [Act.put, List.getElem_toArray, List.getElem_cons_zero, List.getElem_cons_succ, List.setIfInBounds_toArray, List.set_cons_zero, List.set_cons_succ]
          refine wpAnyH_take (i := 9) (v := (.agg (pcells bb oa8 (pn + 1) oc8).toArray)) rfl (by kernel_rfl) (by kernel_rfl) (by kernel_rfl) (fun _ _ _ h => h) (yieldsIf_build (by kernel_rfl) 56 #[(0, .tmp 75), (1, .tmp 82)] rfl #[(0, .agg (bcells bb).toArray), (1, .slice oa8 (pn + 1) oc8)] (by kernel_rfl) _ (fun w' _ => HBLD.out oa8 (pn + 1) oc8 w')) hH5 ?_
          simp only [Act.put, List.getElem_toArray, List.getElem_cons_zero, List.getElem_cons_succ, List.setIfInBounds_toArray, List.set_cons_zero, List.set_cons_succ]
          refine wpAnyH_ready (rs := [11]) (by kernel_rfl) (by simp) ?_
          refine AllReadyH.cons rfl (fun KK hKK => ?_) AllReadyH.nil
          refine step_store_mid rfl 56 (.tmp 15) (.tmp 83) rfl W13.drew.heap.size 0 (pcells bb oa8 (pn + 1) oc8).toArray rfl rfl (hz9.there 0 _ (by rw [List.size_toArray, List.size_toArray, pcells_len HBB.out, HLZ.out]; decide)) (SZQ.out _ _ _) (pcells_one _ _ _ _) ?_
          have HFN := Lib.hid (fin16 (bb := bb) hH5 hown hz9 hg9 (by rw [List.size_toArray, pcells_len HBB.out, HLZ.out]) HXL.out (HNO9.out.hash) (HNO9.out.fits))
          refine Shut.out hKK _ _ HFN.out.2.2 (fun hH6 => ?_)
          clear hKK KK
          try simp only [Act.put, List.getElem_toArray, List.getElem_cons_zero, List.getElem_cons_succ, List.setIfInBounds_toArray, List.set_cons_zero, List.set_cons_succ]
          refine wpAnyH_done (by kernel_rfl) ?_ _
          refine NoPanic.normal ?_
          go_wp2_with fail
          go_meet
          case rel => exact ⟨_, _, _, rfl, HFN.out.1, HFN.out.2.1, HFN.out.2.2⟩
      · refine step_build1 rfl 54 58 (.tmp 80) rfl inf (.agg ZN) Tryd.underlying54 HIN.out.1 HIN.out.2.1 LN1 (by rw [HIN.out.2.2, ELN1.out, HONL.out]) (by rw [ELN1.out, HONL.out]; exact HZN.out) (by rw [ELN1.out, HONL.out]; decide) (by rw [ELN1.out, HONL.out]; decide) rfl ?_
        obtain ⟨x7, hx7⟩ : ∃ y, y = xa.alloc (.cells LN1.toArray 58) := ⟨_, rfl⟩
        have hnx7 : Below xa.heap.size xa x7 := by rw [hx7]; exact (Below.refl _ _).alloc (Nat.le_refl _) _
        have hsx7 : Below W13.heap.size W13 x7 := hH1.trans (hnx7.mono hH1.size)
        try replace hz9 := hz9.below hnx7 hz9.lt
        try replace hown_ := hown
        try replace hown := own_kept hown (Kept.of_below (S := fun _ => False) hnx7) (fun _ _ e => e)
        have hb1 : Has x7 xa.heap.size 58 LN1.toArray := by rw [hx7]; exact Has.new xa _ _
        try have hne := fun k e => Nat.ne_of_lt (own_lt hown_ k e)
        try try rw [show W13.drew.heap.size = W13.heap.size from rfl] at hb1
        first | rw [← hx7] | (change KK _ (xa.alloc (.cells LN1.toArray 58)); rw [← hx7])
        clear hx7
        refine Shut.out hKK _ _ hsx7 (fun hH2 => ?_)
        clear hKK KK
        try simp only [Act.put, List.getElem_toArray, List.getElem_cons_zero, List.getElem_cons_succ, List.setIfInBounds_toArray, List.set_cons_zero, List.set_cons_succ]
        refine wpAnyH_ready (rs := [2]) (by kernel_rfl) (by simp) ?_
        refine AllReadyH.cons rfl (fun KK hKK => ?_) AllReadyH.nil
        go_simp
        obtain ⟨x2, hx2⟩ : ∃ y, y = x7.alloc (.cells #[] 58) := ⟨_, rfl⟩
        have hnx2 : Below x7.heap.size x7 x2 := by rw [hx2]; exact (Below.refl _ _).alloc (Nat.le_refl _) _
        have hsx2 : Below W13.heap.size W13 x2 := hH2.trans (hnx2.mono hH2.size)
        try replace hz9 := hz9.below hnx2 hz9.lt
        try replace hb1_ := hb1
        try replace hb1 := hb1.below hnx2 hb1.lt
        have hown : x2.ownsRow W13.heap.size 58 33 (.slice (some ⟨x7.heap.size, 0, none⟩) 0 0) 0 [] := by rw [hx2]; exact own_empty hH2.size _ _
        try have hne := ne_new hb1_
        try try rw [show W13.drew.heap.size = W13.heap.size from rfl] at hown
        first | rw [← hx2] | (change KK _ (x7.alloc (.cells #[] 58)); rw [← hx2])
        clear hx2
        refine Shut.out hKK _ _ hsx2 (fun hH3 => ?_)
        clear hKK KK
        try simp only [Act.put, List.getElem_toArray, List.getElem_cons_zero, List.getElem_cons_succ, List.setIfInBounds_toArray, List.set_cons_zero, List.set_cons_succ]
        refine wpAnyH_ready (rs := [5]) (by kernel_rfl) (by simp) ?_
        refine AllReadyH.cons rfl (fun KK hKK => ?_) AllReadyH.nil
        refine step_append_rows (cl := ndV) rfl (.tmp 76) (.tmp 78) 54 rfl W13.heap.size 58 (.agg ZN) 40 Tryd.underlying54 HINFN.out HZN.out (by decide) _ 0 [] rfl hown pa pn pc xs rfl (nodes_rows (HNO.out _ hH3)) HN1.out (by have := HPN.out; unfold maxLen; omega) (by have := HPN.out; omega) hH3.size ?_
        intro oa5 oc5 x5 hown5 hgr5
        have hs5 := hH3.grown hgr5 hH3.size (own_blk hown)
        try replace hz9 := hz9.grown hgr5 (fun e => own_has_ne hown hz9 (by decide) _ e.symm rfl)
        try replace hb1 := hb1.grown hgr5 (fun e => hne _ e.symm rfl)
        clear hown hgr5
        rw [Nat.zero_add] at hown5
        rw [Nat.zero_add]
        rw [List.nil_append] at hown5
        have hown := hown5
        clear hown5
        refine Shut.out hKK _ _ hs5 (fun hH4 => ?_)
        clear hKK KK
        try simp only [Act.put, List.getElem_toArray, List.getElem_cons_zero, List.getElem_cons_succ, List.setIfInBounds_toArray, List.set_cons_zero, List.set_cons_succ]
        refine wpAnyH_ready (rs := [8]) (by kernel_rfl) (by simp) ?_
        refine AllReadyH.cons rfl (fun KK hKK => ?_) AllReadyH.nil
        refine step_append_rows (cl := ndV) rfl (.tmp 79) (.tmp 81) 54 rfl W13.heap.size 58 (.agg ZN) 40 Tryd.underlying54 HINFN.out HZN.out (by decide) _ pn (xs.flatMap ndV) rfl hown _ 1 1 [oneNd] rfl (HROW1.out _ _ hb1) HN2.out (by have := HPN.out; unfold maxLen; omega) (by have := HPN.out; omega) hH4.size ?_
        intro oa8 oc8 x8 hown8 hgr8
        have hs8 := hH4.grown hgr8 hH4.size (own_blk hown)
        try replace hz9 := hz9.grown hgr8 (fun e => own_has_ne hown hz9 (by decide) _ e.symm rfl)
        clear hown hgr8
        have hown := hown8
        clear hown8
        refine Shut.out hKK _ _ hs8 (fun hH5 => ?_)
        clear hKK KK
        try simp only [Act.put, List.getElem_toArray, List.getElem_cons_zero, List.getElem_cons_succ, List.setIfInBounds_toArray, List.set_cons_zero, List.set_cons_succ]
        refine wpAnyH_take (i := 9) (v := (.agg (pcells bb oa8 (pn + 1) oc8).toArray)) rfl (by kernel_rfl) (by kernel_rfl) (by kernel_rfl) (fun _ _ _ h => h) (yieldsIf_build (by kernel_rfl) 56 #[(0, .tmp 75), (1, .tmp 82)] rfl #[(0, .agg (bcells bb).toArray), (1, .slice oa8 (pn + 1) oc8)] (by kernel_rfl) _ (fun w' _ => HBLD.out oa8 (pn + 1) oc8 w')) hH5 ?_
        simp only [Act.put, List.getElem_toArray, List.getElem_cons_zero, List.getElem_cons_succ, List.setIfInBounds_toArray, List.set_cons_zero, List.set_cons_succ]
        refine wpAnyH_ready (rs := [11]) (by kernel_rfl) (by simp) ?_
        refine AllReadyH.cons rfl (fun KK hKK => ?_) AllReadyH.nil
        refine step_store_mid rfl 56 (.tmp 15) (.tmp 83) rfl W13.drew.heap.size 0 (pcells bb oa8 (pn + 1) oc8).toArray rfl rfl (hz9.there 0 _ (by rw [List.size_toArray, List.size_toArray, pcells_len HBB.out, HLZ.out]; decide)) (SZQ.out _ _ _) (pcells_one _ _ _ _) ?_
        have HFN := Lib.hid (fin16 (bb := bb) hH5 hown hz9 hg9 (by rw [List.size_toArray, pcells_len HBB.out, HLZ.out]) HXL.out (HNO9.out.hash) (HNO9.out.fits))
        refine Shut.out hKK _ _ HFN.out.2.2 (fun hH6 => ?_)
        clear hKK KK
        try simp only [Act.put, List.getElem_toArray, List.getElem_cons_zero, List.getElem_cons_succ, List.setIfInBounds_toArray, List.set_cons_zero, List.set_cons_succ]
        refine wpAnyH_done (by kernel_rfl) ?_ _
        refine NoPanic.normal ?_
        go_wp2_with fail
        go_meet
        case rel => exact ⟨_, _, _, rfl, HFN.out.1, HFN.out.2.1, HFN.out.2.2⟩
  case rest =>
  obtain ⟨W16, hW16⟩ : ∃ y, y = wc := ⟨_, rfl⟩
  subst hW16
  obtain ⟨G2, qa, qc, rfl, h16, hn16, hb16⟩ := hcut
  have HB16 := Lib.hid (show ∀ v, Below W16.heap.size W16 v → Below W9.heap.size W9 v from fun v hv => HB13.out v (hb16.trans (hv.mono hb16.size)))
  have HOFQ := Lib.hid (show ∀ v, Below W16.heap.size W16 v → Calls Tryd.prog 48 #[.agg CX.toArray, .agg (pcells bb qa (pn + 1) qc).toArray] v fun e w' => e = .returned (.int .i64 24) ∧ Below v.heap.size v w' from fun v hv => by
    have := HOFG.out v x bb qa (pn + 1) qc (xs ++ [oneNd]) HXOK.out HBB.out (hn16.below hv) (by have := HPN.out; omega) (HB9.out v (HB16.out v hv))
    rw [M1.out oneNd] at this
    rw [ECX.out]
    exact this)
  obtain ⟨LQ, hLQ⟩ : ∃ L, L = pcells bb qa (pn + 1) qc := ⟨_, rfl⟩
  have SZQL := Lib.hid (show (Tryd.prog.info? 56).map (·.size) = some LQ.length by rw [hLQ, pcells_len HBB.out]; kernel_rfl)
  rw [← hLQ] at h16 HOFQ
  have HQG := Lib.hid (show ∀ v, Below W16.heap.size W16 v → Has v G2 56 LQ.toArray from fun v hv => h16.below hv h16.lt)
  clear h16 hn16 hb16 hLQ
  go_upto_region 17 with (fail)
  have hS0 : Below W16.heap.size W16 W16.drew := below_drew (Below.refl _ _)
  refine wp_region_noPanic ?_
  refine wp_region_held_drew (S := (fun v => Below W16.heap.size W16 v)) (by kernel_rfl) hS0 (fun hH0 => ?_)
  apply wpAnyH_take (i := 0) (v := _) rfl (by kernel_rfl) (by kernel_rfl) (by kernel_rfl) (fun _ _ _ h => h) (Or.inl ⟨by kernel_rfl, ?hv⟩) hH0 ?_
  case hv => intro w' hS; have z0 := hai w'; go_simp; try exact rfl
  simp only [Act.put, List.getElem_toArray, List.getElem_cons_zero, List.getElem_cons_succ, List.setIfInBounds_toArray, List.set_cons_zero, List.set_cons_succ]
  apply wpAnyH_take (i := 1) (v := _) rfl (by kernel_rfl) (by kernel_rfl) (by kernel_rfl) (fun _ _ _ h => h) (Or.inl ⟨by kernel_rfl, ?hv⟩) hH0 ?_
  case hv => intro w' hS; have z0 := hai w'; go_simp; try exact rfl
  simp only [Act.put, List.getElem_toArray, List.getElem_cons_zero, List.getElem_cons_succ, List.setIfInBounds_toArray, List.set_cons_zero, List.set_cons_succ]
  apply wpAnyH_take (i := 2) (v := _) rfl (by kernel_rfl) (by kernel_rfl) (by kernel_rfl) (fun _ _ _ h => h) (Or.inl ⟨by kernel_rfl, ?hv⟩) hH0 ?_
  case hv => intro w' hS; have z0 := hai w'; go_simp; try exact rfl
  simp only [Act.put, List.getElem_toArray, List.getElem_cons_zero, List.getElem_cons_succ, List.setIfInBounds_toArray, List.set_cons_zero, List.set_cons_succ]
  refine wpAnyH_take (i := 3) (v := (.agg CX.toArray)) rfl (by kernel_rfl) (by kernel_rfl) (by kernel_rfl) (fun _ _ _ h => h) (yieldsIf_load_mid (by kernel_rfl) 103 (.tmp 86) rfl b (i * 99) rfl CX _ (fun w' h => (HRX.out _ (HB9.out _ (HB16.out _ h)))) Tryd.underlying103 rfl SZX.out) hH0 ?_
  simp only [Act.put, List.getElem_toArray, List.getElem_cons_zero, List.getElem_cons_succ, List.setIfInBounds_toArray, List.set_cons_zero, List.set_cons_succ]
  refine wpAnyH_take (i := 4) (v := (.agg LQ.toArray)) rfl (by kernel_rfl) (by kernel_rfl) (by kernel_rfl) (fun _ _ _ h => h) (yieldsIf_load_mid (by kernel_rfl) 56 (.tmp 15) rfl G2 0 rfl LQ _ (fun w' h => (HQG.out _ h).row0) Tryd.underlying56 rfl SZQL.out) hH0 ?_
  simp only [Act.put, List.getElem_toArray, List.getElem_cons_zero, List.getElem_cons_succ, List.setIfInBounds_toArray, List.set_cons_zero, List.set_cons_succ]
  refine wpAnyH_ready (rs := [5]) (by kernel_rfl) (by simp) ?_
  refine AllReadyH.cons rfl (fun KK hKK => ?_) AllReadyH.nil
  go_simp
  refine (HOFQ.out _ hS0).mono ?_
  rintro _ x17 ⟨rfl, hx17⟩
  have hs1 := hS0.trans (hx17.mono hS0.size)
  clear hx17
  refine Shut.out hKK _ _ hs1 (fun hH1 => ?_)
  clear hKK KK
  try simp only [Act.put, List.getElem_toArray, List.getElem_cons_zero, List.getElem_cons_succ, List.setIfInBounds_toArray, List.set_cons_zero, List.set_cons_succ]
  apply wpAnyH_take (i := 6) (v := _) rfl (by kernel_rfl) (by kernel_rfl) (by kernel_rfl) (fun _ _ _ h => h) (Or.inl ⟨by kernel_rfl, ?hv⟩) hH1 ?_
  case hv => intro w' hS; have z0 := hai w'; go_simp; try exact rfl
  simp only [Act.put, List.getElem_toArray, List.getElem_cons_zero, List.getElem_cons_succ, List.setIfInBounds_toArray, List.set_cons_zero, List.set_cons_succ]
  refine wpAnyH_done (by kernel_rfl) ?_ _
  refine NoPanic.normal ?_
  have HX17 := Lib.hid hs1
  clear hS0 hs1
  have HB17 := Lib.hid (show ∀ v, Below x17.heap.size x17 v → Below W9.heap.size W9 v from fun v hv => HB16.out v (HX17.out.trans (hv.mono HX17.out.size)))
  have HC17 := Lib.hid (show ∀ v, Below x17.heap.size x17 v → v.cell? ⟨G, 32, none⟩ = some (.slice pa pn pc) from fun v hv => (HG9.out v (HB17.out v hv)).cell_is (by rw [List.getElem?_toArray, ELP.out]; exact pcells_row HBB.out pa pn pc))
  have HGB17 := Lib.hid (show ∀ v, Below x17.heap.size x17 v → v.rangeAt G 0 (bcells bb) from fun v hv j u hu => by
    refine (HG9.out v (HB17.out v hv)).cell_is ?_
    rw [List.getElem?_toArray, ELP.out, pcells, Nat.zero_add, List.getElem?_append_left (List.getElem?_eq_some_iff.1 hu).1]
    exact hu)
  go_upto_region 19 with (fail)
  go_cut [112] from 17 (fun cv wx => cv = .bool false ∧ Below x17.heap.size x17 wx)
  case first =>
    have hS0 : Below x17.heap.size x17 x17.drew := below_drew (Below.refl _ _)
    by_cases hp0 : 0 < pn
    · have hpd : decide (0 < pn) = true := decide_eq_true hp0
      obtain ⟨kk, hkk⟩ : ∃ kk, kk = pn - 1 := ⟨_, rfl⟩
      have hkp : kk ≤ pc := by have := HCAP.out; omega
      have hkn : kk ≤ pn := by omega
      have hwk : IntKind.i64.wrap ((pn : Int) - 1) = (kk : Int) := by rw [IntKind.wrap_i64]; have := HPN.out; omega
      obtain ⟨pb, po, hpa, -, -⟩ := HNO9.out.at_ hp0
      have hsl : ∀ v : World, (Instr.slice 54 (.slice pa pn pc) none (some (.int .i64 (kk : Int))) none).run Tryd.prog v = .ok (.slice pa kk pc) v := fun v => by
        have hu : Tryd.prog.underlying 54 = some (.slice (Tryd.prog.elem 54)) := by kernel_rfl
        have he : Tryd.prog.elem 54 = 58 := by kernel_rfl
        have hz : ∀ w, (sizeOf 58).run Tryd.prog w = .ok 33 w := fun w => by kernel_rfl
        have hc0 : 0 < pc := by have := HCAP.out; omega
        rw [hpa, run_slice_h v 54 _ pn pc hu .i64 (kk : Int) (by omega) (by omega), he, hz]
        simp only [Result.andThen, sliced, Int.toNat_natCast, Nat.zero_mul, Nat.sub_zero]
        rw [if_neg (by omega), Option.map_some, Addr.add_mid]
        rfl
      have HOFT := Lib.hid (show ∀ v, Below x17.heap.size x17 v → Calls Tryd.prog 48 #[.agg CX.toArray, .agg (pcells bb pa kk pc).toArray] v fun e w' => e = .returned (.int .i64 20) ∧ Below v.heap.size v w' from fun v hv => by
        have := HOFG.out v x bb pa kk pc (xs.take kk) HXOK.out HBB.out (nodes_take (HNO9.out.below (HB17.out v hv)) kk hkn) (by have := HPN.out; omega) (HB9.out v (HB17.out v hv))
        rw [hkk, ← HXL.out, M2.out (by rw [HXL.out]; exact hp0)] at this
        rw [ECX.out, hkk, ← HXL.out]
        exact this)
      have HSL := Lib.hid hsl
      clear hkk hpa hsl
      refine wp_region_noPanic ?_
      refine wp_region_held_drew (S := (fun v => Below x17.heap.size x17 v)) (by kernel_rfl) hS0 (fun hH0 => ?_)
      apply wpAnyH_take (i := 0) (v := _) rfl (by kernel_rfl) (by kernel_rfl) (by kernel_rfl) (fun _ _ _ h => h) (Or.inl ⟨by kernel_rfl, ?hv⟩) hH0 ?_
      case hv => intro w' hS; have z0 := hai w'; have z1 := HC17.out w' hS; go_simp; try exact rfl
      simp only [Act.put, List.getElem_toArray, List.getElem_cons_zero, List.getElem_cons_succ, List.setIfInBounds_toArray, List.set_cons_zero, List.set_cons_succ]
      apply wpAnyH_take (i := 1) (v := _) rfl (by kernel_rfl) (by kernel_rfl) (by kernel_rfl) (fun _ _ _ h => h) (Or.inl ⟨by kernel_rfl, ?hv⟩) hH0 ?_
      case hv => intro w' hS; have z0 := hai w'; have z1 := HC17.out w' hS; go_simp; try exact rfl
      simp only [Act.put, List.getElem_toArray, List.getElem_cons_zero, List.getElem_cons_succ, List.setIfInBounds_toArray, List.set_cons_zero, List.set_cons_succ]
      apply wpAnyH_take (i := 2) (v := _) rfl (by kernel_rfl) (by kernel_rfl) (by kernel_rfl) (fun _ _ _ h => h) (Or.inl ⟨by kernel_rfl, ?hv⟩) hH0 ?_
      case hv => intro w' hS; have z0 := hai w'; have z1 := HC17.out w' hS; go_simp; try exact rfl
      simp only [Act.put, List.getElem_toArray, List.getElem_cons_zero, List.getElem_cons_succ, List.setIfInBounds_toArray, List.set_cons_zero, List.set_cons_succ]
      apply wpAnyH_take (i := 3) (v := _) rfl (by kernel_rfl) (by kernel_rfl) (by kernel_rfl) (fun _ _ _ h => h) (Or.inl ⟨by kernel_rfl, ?hv⟩) hH0 ?_
      case hv => intro w' hS; have z0 := hai w'; have z1 := HC17.out w' hS; go_simp; try exact rfl
      simp only [Act.put, List.getElem_toArray, List.getElem_cons_zero, List.getElem_cons_succ, List.setIfInBounds_toArray, List.set_cons_zero, List.set_cons_succ]
      apply wpAnyH_take (i := 4) (v := _) rfl (by kernel_rfl) (by kernel_rfl) (by kernel_rfl) (fun _ _ _ h => h) (Or.inl ⟨by kernel_rfl, ?hv⟩) hH0 ?_
      case hv => intro w' hS; have z0 := hai w'; have z1 := HC17.out w' hS; go_simp; try exact rfl
      simp only [Act.put, List.getElem_toArray, List.getElem_cons_zero, List.getElem_cons_succ, List.setIfInBounds_toArray, List.set_cons_zero, List.set_cons_succ]
      apply wpAnyH_take (i := 5) (v := _) rfl (by kernel_rfl) (by kernel_rfl) (by kernel_rfl) (fun _ _ _ h => h) (Or.inl ⟨by kernel_rfl, ?hv⟩) hH0 ?_
      case hv => intro w' hS; have z0 := hai w'; have z1 := HC17.out w' hS; go_simp; try exact rfl
      simp only [Act.put, List.getElem_toArray, List.getElem_cons_zero, List.getElem_cons_succ, List.setIfInBounds_toArray, List.set_cons_zero, List.set_cons_succ]
      apply wpAnyH_take (i := 6) (v := _) rfl (by kernel_rfl) (by kernel_rfl) (by kernel_rfl) (fun _ _ _ h => h) (Or.inl ⟨by kernel_rfl, ?hv⟩) hH0 ?_
      case hv => intro w' hS; have z0 := hai w'; have z1 := HC17.out w' hS; go_simp; try exact rfl
      simp only [Act.put, List.getElem_toArray, List.getElem_cons_zero, List.getElem_cons_succ, List.setIfInBounds_toArray, List.set_cons_zero, List.set_cons_succ]
      apply wpAnyH_take (i := 7) (v := _) rfl (by kernel_rfl) (by kernel_rfl) (by kernel_rfl) (fun _ _ _ h => h) (Or.inl ⟨by kernel_rfl, ?hv⟩) hH0 ?_
      case hv => intro w' hS; have z0 := hai w'; have z1 := HC17.out w' hS; go_simp; try exact rfl
      simp only [Act.put, List.getElem_toArray, List.getElem_cons_zero, List.getElem_cons_succ, List.setIfInBounds_toArray, List.set_cons_zero, List.set_cons_succ]
      refine wpAnyH_take (i := 8) (v := (.agg CX.toArray)) rfl (by kernel_rfl) (by kernel_rfl) (by kernel_rfl) (fun _ _ _ h => h) (yieldsIf_load_mid (by kernel_rfl) 103 (.tmp 98) rfl b (i * 99) rfl CX _ (fun w' h => (HRX.out _ (HB9.out _ (HB17.out _ h)))) Tryd.underlying103 rfl SZX.out) hH0 ?_
      simp only [Act.put, List.getElem_toArray, List.getElem_cons_zero, List.getElem_cons_succ, List.setIfInBounds_toArray, List.set_cons_zero, List.set_cons_succ]
      apply wpAnyH_take (i := 9) (v := _) rfl (by kernel_rfl) (by kernel_rfl) (by kernel_rfl) (fun _ _ _ h => h) (Or.inl ⟨by kernel_rfl, ?hv⟩) hH0 ?_
      case hv => intro w' hS; have z0 := hai w'; have z1 := HC17.out w' hS; go_simp; try exact rfl
      simp only [Act.put, List.getElem_toArray, List.getElem_cons_zero, List.getElem_cons_succ, List.setIfInBounds_toArray, List.set_cons_zero, List.set_cons_succ]
      refine wpAnyH_take (i := 10) (v := (.agg (bcells bb).toArray)) rfl (by kernel_rfl) (by kernel_rfl) (by kernel_rfl) (fun _ _ _ h => h) (yieldsIf_load_mid (by kernel_rfl) 27 (.tmp 100) rfl G 0 rfl (bcells bb) _ (fun w' h => (HGB17.out _ h)) Tryd.underlying27 rfl SZB.out) hH0 ?_
      simp only [Act.put, List.getElem_toArray, List.getElem_cons_zero, List.getElem_cons_succ, List.setIfInBounds_toArray, List.set_cons_zero, List.set_cons_succ]
      apply wpAnyH_take (i := 11) (v := _) rfl (by kernel_rfl) (by kernel_rfl) (by kernel_rfl) (fun _ _ _ h => h) (Or.inl ⟨by kernel_rfl, ?hv⟩) hH0 ?_
      case hv => intro w' hS; have z0 := hai w'; have z1 := HC17.out w' hS; go_simp; try exact rfl
      simp only [Act.put, List.getElem_toArray, List.getElem_cons_zero, List.getElem_cons_succ, List.setIfInBounds_toArray, List.set_cons_zero, List.set_cons_succ]
      apply wpAnyH_take (i := 12) (v := _) rfl (by kernel_rfl) (by kernel_rfl) (by kernel_rfl) (fun _ _ _ h => h) (Or.inl ⟨by kernel_rfl, ?hv⟩) hH0 ?_
      case hv => intro w' hS; have z0 := hai w'; have z1 := HC17.out w' hS; go_simp; try exact rfl
      simp only [Act.put, List.getElem_toArray, List.getElem_cons_zero, List.getElem_cons_succ, List.setIfInBounds_toArray, List.set_cons_zero, List.set_cons_succ]
      apply wpAnyH_take (i := 13) (v := _) rfl (by kernel_rfl) (by kernel_rfl) (by kernel_rfl) (fun _ _ _ h => h) (Or.inl ⟨by kernel_rfl, ?hv⟩) hH0 ?_
      case hv => intro w' hS; have z0 := hai w'; have z1 := HC17.out w' hS; go_simp; try exact rfl
      simp only [Act.put, List.getElem_toArray, List.getElem_cons_zero, List.getElem_cons_succ, List.setIfInBounds_toArray, List.set_cons_zero, List.set_cons_succ]
      apply wpAnyH_take (i := 14) (v := _) rfl (by kernel_rfl) (by kernel_rfl) (by kernel_rfl) (fun _ _ _ h => h) (Or.inl ⟨by kernel_rfl, ?hv⟩) hH0 ?_
      case hv => intro w' hS; have z0 := hai w'; have z1 := HC17.out w' hS; go_simp; try exact rfl
      simp only [Act.put, List.getElem_toArray, List.getElem_cons_zero, List.getElem_cons_succ, List.setIfInBounds_toArray, List.set_cons_zero, List.set_cons_succ]
      apply wpAnyH_take (i := 15) (v := _) rfl (by kernel_rfl) (by kernel_rfl) (by kernel_rfl) (fun _ _ _ h => h) (Or.inl ⟨by kernel_rfl, ?hv⟩) hH0 ?_
      case hv => intro w' hS; have z0 := hai w'; have z1 := HC17.out w' hS; go_simp; try exact rfl
      simp only [Act.put, List.getElem_toArray, List.getElem_cons_zero, List.getElem_cons_succ, List.setIfInBounds_toArray, List.set_cons_zero, List.set_cons_succ]
      apply wpAnyH_take (i := 16) (v := _) rfl (by kernel_rfl) (by kernel_rfl) (by kernel_rfl) (fun _ _ _ h => h) (Or.inl ⟨by kernel_rfl, ?hv⟩) hH0 ?_
      case hv => intro w' hS; have z0 := hai w'; have z1 := HC17.out w' hS; go_simp; try exact rfl
      simp only [Act.put, List.getElem_toArray, List.getElem_cons_zero, List.getElem_cons_succ, List.setIfInBounds_toArray, List.set_cons_zero, List.set_cons_succ]
      refine wpAnyH_take (i := 17) (v := (.slice pa kk pc)) rfl (by kernel_rfl) (by kernel_rfl) (by kernel_rfl) (fun _ _ _ h => h) (yieldsIf_slice (by kernel_rfl) 54 (.tmp 103) (.tmp 107) rfl (by kernel_rfl) (.slice pa pn pc) (.int .i64 (kk : Int)) rfl rfl _ (fun w' _ => HSL.out w')) hH0 ?_
      simp only [Act.put, List.getElem_toArray, List.getElem_cons_zero, List.getElem_cons_succ, List.setIfInBounds_toArray, List.set_cons_zero, List.set_cons_succ]
      refine wpAnyH_take (i := 18) (v := (.agg (pcells bb pa kk pc).toArray)) rfl (by kernel_rfl) (by kernel_rfl) (by kernel_rfl) (fun _ _ _ h => h) (yieldsIf_build (by kernel_rfl) 56 #[(0, .tmp 101), (1, .tmp 108)] rfl #[(0, .agg (bcells bb).toArray), (1, .slice pa kk pc)] (by kernel_rfl) _ (fun w' _ => HBLD.out pa kk pc w')) hH0 ?_
      simp only [Act.put, List.getElem_toArray, List.getElem_cons_zero, List.getElem_cons_succ, List.setIfInBounds_toArray, List.set_cons_zero, List.set_cons_succ]
      refine wpAnyH_ready (rs := [19]) (by kernel_rfl) (by simp) ?_
      refine AllReadyH.cons rfl (fun KK hKK => ?_) AllReadyH.nil
      go_simp
      refine (HOFT.out _ hS0).mono ?_
      rintro _ x19 ⟨rfl, hx19⟩
      have hs1 := hS0.trans (hx19.mono hS0.size)
      clear hx19
      refine Shut.out hKK _ _ hs1 (fun hH1 => ?_)
      clear hKK KK
      try simp only [Act.put, List.getElem_toArray, List.getElem_cons_zero, List.getElem_cons_succ, List.setIfInBounds_toArray, List.set_cons_zero, List.set_cons_succ]
      apply wpAnyH_take (i := 20) (v := _) rfl (by kernel_rfl) (by kernel_rfl) (by kernel_rfl) (fun _ _ _ h => h) (Or.inl ⟨by kernel_rfl, ?hv⟩) hH1 ?_
      case hv => intro w' hS; have z0 := hai w'; have z1 := HC17.out w' hS; go_simp; try exact rfl
      simp only [Act.put, List.getElem_toArray, List.getElem_cons_zero, List.getElem_cons_succ, List.setIfInBounds_toArray, List.set_cons_zero, List.set_cons_succ]
      apply wpAnyH_take (i := 21) (v := _) rfl (by kernel_rfl) (by kernel_rfl) (by kernel_rfl) (fun _ _ _ h => h) (Or.inl ⟨by kernel_rfl, ?hv⟩) hH1 ?_
      case hv => intro w' hS; have z0 := hai w'; have z1 := HC17.out w' hS; go_simp; try exact rfl
      simp only [Act.put, List.getElem_toArray, List.getElem_cons_zero, List.getElem_cons_succ, List.setIfInBounds_toArray, List.set_cons_zero, List.set_cons_succ]
      refine wpAnyH_done (by kernel_rfl) ?_ _
      refine NoPanic.normal ?_
      have HX19 := Lib.hid hs1
      clear hS0 hs1 hwk hpd hp0
      go_wp2_with fail
      go_meet
      case rel => exact ⟨rfl, HX19.out⟩
    · have hpd : decide (0 < pn) = false := decide_eq_false hp0
      refine wp_region_noPanic ?_
      refine wp_region_held_drew (S := (fun v => Below x17.heap.size x17 v)) (by kernel_rfl) hS0 (fun hH0 => ?_)
      apply wpAnyH_take (i := 0) (v := _) rfl (by kernel_rfl) (by kernel_rfl) (by kernel_rfl) (fun _ _ _ h => h) (Or.inl ⟨by kernel_rfl, ?hv⟩) hH0 ?_
      case hv => intro w' hS; have z0 := hai w'; have z1 := HC17.out w' hS; go_simp; try exact rfl
      simp only [Act.put, List.getElem_toArray, List.getElem_cons_zero, List.getElem_cons_succ, List.setIfInBounds_toArray, List.set_cons_zero, List.set_cons_succ]
      apply wpAnyH_take (i := 1) (v := _) rfl (by kernel_rfl) (by kernel_rfl) (by kernel_rfl) (fun _ _ _ h => h) (Or.inl ⟨by kernel_rfl, ?hv⟩) hH0 ?_
      case hv => intro w' hS; have z0 := hai w'; have z1 := HC17.out w' hS; go_simp; try exact rfl
      simp only [Act.put, List.getElem_toArray, List.getElem_cons_zero, List.getElem_cons_succ, List.setIfInBounds_toArray, List.set_cons_zero, List.set_cons_succ]
      apply wpAnyH_take (i := 2) (v := _) rfl (by kernel_rfl) (by kernel_rfl) (by kernel_rfl) (fun _ _ _ h => h) (Or.inl ⟨by kernel_rfl, ?hv⟩) hH0 ?_
      case hv => intro w' hS; have z0 := hai w'; have z1 := HC17.out w' hS; go_simp; try exact rfl
      simp only [Act.put, List.getElem_toArray, List.getElem_cons_zero, List.getElem_cons_succ, List.setIfInBounds_toArray, List.set_cons_zero, List.set_cons_succ]
      apply wpAnyH_take (i := 3) (v := _) rfl (by kernel_rfl) (by kernel_rfl) (by kernel_rfl) (fun _ _ _ h => h) (Or.inl ⟨by kernel_rfl, ?hv⟩) hH0 ?_
      case hv => intro w' hS; have z0 := hai w'; have z1 := HC17.out w' hS; go_simp; try exact rfl
      simp only [Act.put, List.getElem_toArray, List.getElem_cons_zero, List.getElem_cons_succ, List.setIfInBounds_toArray, List.set_cons_zero, List.set_cons_succ]
      apply wpAnyH_take (i := 4) (v := _) rfl (by kernel_rfl) (by kernel_rfl) (by kernel_rfl) (fun _ _ _ h => h) (Or.inl ⟨by kernel_rfl, ?hv⟩) hH0 ?_
      case hv => intro w' hS; have z0 := hai w'; have z1 := HC17.out w' hS; go_simp; try exact rfl
      simp only [Act.put, List.getElem_toArray, List.getElem_cons_zero, List.getElem_cons_succ, List.setIfInBounds_toArray, List.set_cons_zero, List.set_cons_succ]
      refine wpAnyH_take (i := 5) (v := undef) rfl (by kernel_rfl) (by kernel_rfl) (by kernel_rfl) (fun _ _ _ h => h) (Or.inr ⟨by kernel_rfl, rfl⟩) hH0 ?_
      simp only [Act.put, List.getElem_toArray, List.getElem_cons_zero, List.getElem_cons_succ, List.setIfInBounds_toArray, List.set_cons_zero, List.set_cons_succ]
      refine wpAnyH_take (i := 6) (v := undef) rfl (by kernel_rfl) (by kernel_rfl) (by kernel_rfl) (fun _ _ _ h => h) (Or.inr ⟨by kernel_rfl, rfl⟩) hH0 ?_
      simp only [Act.put, List.getElem_toArray, List.getElem_cons_zero, List.getElem_cons_succ, List.setIfInBounds_toArray, List.set_cons_zero, List.set_cons_succ]
      refine wpAnyH_take (i := 7) (v := undef) rfl (by kernel_rfl) (by kernel_rfl) (by kernel_rfl) (fun _ _ _ h => h) (Or.inr ⟨by kernel_rfl, rfl⟩) hH0 ?_
      simp only [Act.put, List.getElem_toArray, List.getElem_cons_zero, List.getElem_cons_succ, List.setIfInBounds_toArray, List.set_cons_zero, List.set_cons_succ]
      refine wpAnyH_take (i := 8) (v := undef) rfl (by kernel_rfl) (by kernel_rfl) (by kernel_rfl) (fun _ _ _ h => h) (Or.inr ⟨by kernel_rfl, rfl⟩) hH0 ?_
      simp only [Act.put, List.getElem_toArray, List.getElem_cons_zero, List.getElem_cons_succ, List.setIfInBounds_toArray, List.set_cons_zero, List.set_cons_succ]
      refine wpAnyH_take (i := 9) (v := undef) rfl (by kernel_rfl) (by kernel_rfl) (by kernel_rfl) (fun _ _ _ h => h) (Or.inr ⟨by kernel_rfl, rfl⟩) hH0 ?_
      simp only [Act.put, List.getElem_toArray, List.getElem_cons_zero, List.getElem_cons_succ, List.setIfInBounds_toArray, List.set_cons_zero, List.set_cons_succ]
      refine wpAnyH_take (i := 10) (v := undef) rfl (by kernel_rfl) (by kernel_rfl) (by kernel_rfl) (fun _ _ _ h => h) (Or.inr ⟨by kernel_rfl, rfl⟩) hH0 ?_
      simp only [Act.put, List.getElem_toArray, List.getElem_cons_zero, List.getElem_cons_succ, List.setIfInBounds_toArray, List.set_cons_zero, List.set_cons_succ]
      refine wpAnyH_take (i := 11) (v := undef) rfl (by kernel_rfl) (by kernel_rfl) (by kernel_rfl) (fun _ _ _ h => h) (Or.inr ⟨by kernel_rfl, rfl⟩) hH0 ?_
      simp only [Act.put, List.getElem_toArray, List.getElem_cons_zero, List.getElem_cons_succ, List.setIfInBounds_toArray, List.set_cons_zero, List.set_cons_succ]
      refine wpAnyH_take (i := 12) (v := undef) rfl (by kernel_rfl) (by kernel_rfl) (by kernel_rfl) (fun _ _ _ h => h) (Or.inr ⟨by kernel_rfl, rfl⟩) hH0 ?_
      simp only [Act.put, List.getElem_toArray, List.getElem_cons_zero, List.getElem_cons_succ, List.setIfInBounds_toArray, List.set_cons_zero, List.set_cons_succ]
      refine wpAnyH_take (i := 13) (v := undef) rfl (by kernel_rfl) (by kernel_rfl) (by kernel_rfl) (fun _ _ _ h => h) (Or.inr ⟨by kernel_rfl, rfl⟩) hH0 ?_
      simp only [Act.put, List.getElem_toArray, List.getElem_cons_zero, List.getElem_cons_succ, List.setIfInBounds_toArray, List.set_cons_zero, List.set_cons_succ]
      refine wpAnyH_take (i := 14) (v := undef) rfl (by kernel_rfl) (by kernel_rfl) (by kernel_rfl) (fun _ _ _ h => h) (Or.inr ⟨by kernel_rfl, rfl⟩) hH0 ?_
      simp only [Act.put, List.getElem_toArray, List.getElem_cons_zero, List.getElem_cons_succ, List.setIfInBounds_toArray, List.set_cons_zero, List.set_cons_succ]
      refine wpAnyH_take (i := 15) (v := undef) rfl (by kernel_rfl) (by kernel_rfl) (by kernel_rfl) (fun _ _ _ h => h) (Or.inr ⟨by kernel_rfl, rfl⟩) hH0 ?_
      simp only [Act.put, List.getElem_toArray, List.getElem_cons_zero, List.getElem_cons_succ, List.setIfInBounds_toArray, List.set_cons_zero, List.set_cons_succ]
      refine wpAnyH_take (i := 16) (v := undef) rfl (by kernel_rfl) (by kernel_rfl) (by kernel_rfl) (fun _ _ _ h => h) (Or.inr ⟨by kernel_rfl, rfl⟩) hH0 ?_
      simp only [Act.put, List.getElem_toArray, List.getElem_cons_zero, List.getElem_cons_succ, List.setIfInBounds_toArray, List.set_cons_zero, List.set_cons_succ]
      refine wpAnyH_take (i := 17) (v := undef) rfl (by kernel_rfl) (by kernel_rfl) (by kernel_rfl) (fun _ _ _ h => h) (Or.inr ⟨by kernel_rfl, rfl⟩) hH0 ?_
      simp only [Act.put, List.getElem_toArray, List.getElem_cons_zero, List.getElem_cons_succ, List.setIfInBounds_toArray, List.set_cons_zero, List.set_cons_succ]
      refine wpAnyH_take (i := 18) (v := undef) rfl (by kernel_rfl) (by kernel_rfl) (by kernel_rfl) (fun _ _ _ h => h) (Or.inr ⟨by kernel_rfl, rfl⟩) hH0 ?_
      simp only [Act.put, List.getElem_toArray, List.getElem_cons_zero, List.getElem_cons_succ, List.setIfInBounds_toArray, List.set_cons_zero, List.set_cons_succ]
      refine wpAnyH_take (i := 19) (v := undef) rfl (by kernel_rfl) (by kernel_rfl) (by kernel_rfl) (fun _ _ _ h => h) (Or.inr ⟨by kernel_rfl, rfl⟩) hH0 ?_
      simp only [Act.put, List.getElem_toArray, List.getElem_cons_zero, List.getElem_cons_succ, List.setIfInBounds_toArray, List.set_cons_zero, List.set_cons_succ]
      refine wpAnyH_take (i := 20) (v := undef) rfl (by kernel_rfl) (by kernel_rfl) (by kernel_rfl) (fun _ _ _ h => h) (Or.inr ⟨by kernel_rfl, rfl⟩) hH0 ?_
      simp only [Act.put, List.getElem_toArray, List.getElem_cons_zero, List.getElem_cons_succ, List.setIfInBounds_toArray, List.set_cons_zero, List.set_cons_succ]
      apply wpAnyH_take (i := 21) (v := _) rfl (by kernel_rfl) (by kernel_rfl) (by kernel_rfl) (fun _ _ _ h => h) (Or.inl ⟨by kernel_rfl, ?hv⟩) hH0 ?_
      case hv => intro w' hS; have z0 := hai w'; have z1 := HC17.out w' hS; go_simp; try exact rfl
      simp only [Act.put, List.getElem_toArray, List.getElem_cons_zero, List.getElem_cons_succ, List.setIfInBounds_toArray, List.set_cons_zero, List.set_cons_succ]
      refine wpAnyH_done (by kernel_rfl) ?_ _
      refine NoPanic.normal ?_
      have HX19 := Lib.hid hS0
      clear hS0 hpd hp0
      go_wp2_with fail
      go_meet
      case rel => exact ⟨rfl, HX19.out⟩
  case rest =>
  obtain ⟨W19, hW19⟩ : ∃ y, y = wc := ⟨_, rfl⟩
  subst hW19
  obtain ⟨rfl, hcut⟩ := hcut
  have HB19 := Lib.hid (show ∀ v, Below W19.heap.size W19 v → Below W9.heap.size W9 v from fun v hv => HB17.out v (hcut.trans (hv.mono hcut.size)))
  obtain ⟨Zl, hzl, -, hzls, hzln, -⟩ := zero_leafT
  obtain ⟨h21, hb21⟩ := new_row W19 103 Zl CX.toArray
  have HRX19 := Lib.hid (HRX.out W19 (HB9.out _ (HB19.out _ (Below.refl _ _))))
  have SZXA := Lib.hid (show (Tryd.prog.info? 103).map (·.size) = some CX.toArray.size by rw [List.size_toArray]; exact SZX.out)
  have HZX := Lib.hid (show Zl.size = CX.toArray.size by rw [hzls, List.size_toArray, LX.out])
  have HOX := Lib.hid (show CX.toArray.all (·.oneCell') = true by rw [ECX.out]; exact LeafT.one x)
  clear hcut
  go_upto_region 22 with (first
    | (refine wpList_load_mid rfl 103 (.tmp 115) rfl b (i * 99) rfl CX _ HRX19.out Tryd.underlying103 rfl SZX.out ?_)
    | (refine wpList_store_row rfl 103 (.tmp 16) (.tmp 116) rfl W19.heap.size CX.toArray rfl rfl 103 Zl (heap_alloc_new W19 _) SZXA.out HZX.out HOX.out ?_))
  obtain ⟨W21, hW21⟩ : ∃ W, W = (W19.alloc (.cells Zl 103)).setRow W19.heap.size CX.toArray := ⟨_, rfl⟩
  rw [← hW21] at h21 hb21 ⊢
  clear hW21
  obtain ⟨G3, hG3⟩ : ∃ g, g = W19.heap.size := ⟨_, rfl⟩
  rw [← hG3] at h21 ⊢
  have hg3 : W19.heap.size ≤ G3 := by omega
  clear hG3
  have c32 : W21.cell? ⟨G3, 32, none⟩ = some (.int .u64 (x.am : Int)) := h21.cell_is (by rw [List.getElem?_toArray, ECX.out]; exact LeafT.at_am HXOK.out)
  have fz := h21.free 32
  have hs22 := h21.set 32 (.int .u64 (am : Int))
  have hk22 : Kept (· = G3) W21 (W21.setCell ⟨G3, 32, none⟩ (.int .u64 (am : Int))) := (Kept.refl (· = G3) W21).set (p := ⟨G3, 32, none⟩) (.inl rfl) _
  have hb22 := hb21.trans (hk22.below hb21.size (fun j e => by have e' : j = G3 := e; omega))
  rw [ECX.out, amF_set HXOK.out] at hs22
  obtain ⟨y, hy⟩ : ∃ y, y = amF am x := ⟨_, rfl⟩
  have hyok : y.ok := by rw [hy]; exact amF_ok HXOK.out am ham
  rw [← hy] at hs22
  have HS22 := Lib.hid hs22
  have HB22 := Lib.hid hb22
  have EY := Lib.hid hy
  have HYOK := Lib.hid hyok
  clear hs22 hk22 hb22 hy hyok h21 hb21 hg3
  go_upto_region 23 with (fail)
  obtain ⟨W22, hW22⟩ : ∃ W, W = W21.setCell ⟨G3, 32, none⟩ (.int .u64 (am : Int)) := ⟨_, rfl⟩
  rw [← hW22] at HS22 HB22 ⊢
  clear hW22 c32 fz
  obtain ⟨CY, hCY⟩ : ∃ L, L = y.cells := ⟨_, rfl⟩
  rw [← hCY] at HS22
  have LY := Lib.hid (show CY.length = 99 by rw [hCY]; exact LeafT.len HYOK.out)
  have SZY := Lib.hid (show (Tryd.prog.info? 103).map (·.size) = some CY.toArray.size by rw [List.size_toArray, LY.out]; kernel_rfl)
  have SZYL := Lib.hid (show (Tryd.prog.info? 103).map (·.size) = some CY.length by rw [LY.out]; kernel_rfl)
  have ECY := Lib.hid hCY
  have HCK := Lib.hid (show ∀ v, Calls Tryd.prog 49 #[.agg CY.toArray] v fun e w' => e = .returned (.int .i64 (leafE y)) ∧ w' = v.alloc (.cells CY.toArray 103) from fun v => by rw [hCY]; exact leafCheck_is v y HYOK.out)
  have HBY := Lib.hid (show ∀ v, Below W22.heap.size W22 v → Below W9.heap.size W9 v from fun v hv => HB19.out v (HB22.out.trans (hv.mono HB22.out.size)))
  have HGY := Lib.hid (show ∀ v, Below W22.heap.size W22 v → Has v G3 103 CY.toArray from fun v hv => HS22.out.below hv HS22.out.lt)
  have HOFY := Lib.hid (show ∀ v, Below W22.heap.size W22 v → Calls Tryd.prog 48 #[.agg CY.toArray, .agg LP.toArray] v fun e w' => e = .returned (.int .i64 (ofE KS SS y bb xs)) ∧ Below v.heap.size v w' from fun v hv => by
    rw [hCY, ELP.out]
    exact HOFG.out v y bb pa pn pc xs HYOK.out HBB.out (HNO9.out.below (HBY.out v hv)) (by have := HPN.out; omega) (HB9.out v (HBY.out v hv)))
  have HFIN := Lib.hid (show ∀ v, Below W22.heap.size W22 v → Below w.heap.size w v from fun v hv => HB6.out.trans ((HB9.out v (HBY.out v hv)).mono HB6.out.size))
  clear hCY
  go_wp2_with (refine wpList_load_row rfl 103 (.tmp 16) rfl G3 rfl 103 CY.toArray (0, 0) _ HS22.out Tryd.underlying103 rfl SZY.out ?_)
  refine (HCK.out _).mono ?_
  rintro _ w23 ⟨rfl, hw23⟩
  have h23 : Below W22.heap.size W22 w23 := by rw [hw23]; exact (Below.refl _ _).alloc (Nat.le_refl _) _
  have H23 := Lib.hid h23
  clear hw23 h23
  have HG23 := Lib.hid (HGY.out w23 H23.out)
  have HP23 := Lib.hid (HG9.out w23 (HBY.out w23 H23.out))
  cases hbad : leafBad y with
  | true =>
    have he1 : leafE y = 1 := by rw [leafE, if_pos hbad]
    have ho1 : ofE KS SS y bb xs = 1 := of_bad hbad
    rw [ho1] at HOFY
    rw [he1]
    clear hbad he1 ho1
    go_wp2_with (first
      | (refine wpList_load_row rfl 103 (.tmp 16) rfl G3 rfl 103 CY.toArray (0, 0) _ HG23.out Tryd.underlying103 rfl SZY.out ?_)
      | (refine wpList_load_row rfl 56 (.tmp 9) rfl G rfl 56 LP.toArray (0, 0) _ HP23.out Tryd.underlying56 rfl SZP.out ?_))
    refine (HOFY.out w23 H23.out).mono ?_
    rintro _ w24 ⟨rfl, hb24⟩
    have HFX := Lib.hid (HFIN.out w24 (H23.out.trans (hb24.mono H23.out.size)))
    clear hb24
    go_wp2_with fail
    go_ret
    exact ⟨rfl, HFX.out⟩
  | false =>
    have he1 : leafE y = 0 := by rw [leafE, hbad]; rfl
    rw [he1]
    have HM3 := Lib.hid (show am ≠ x.am → ofE KS SS y bb xs = 30 ∨ ofE KS SS y bb xs = 10 from fun h => by
      have hb := hbad
      rw [EY.out] at hb ⊢
      exact M3.out am ham hb h)
    clear hbad he1
    go_upto_region 25 with (fail)
    have hS0 : Below W22.heap.size W22 w23.drew := below_drew H23.out
    have HC25 := Lib.hid (show ∀ v, Below W22.heap.size W22 v → v.cell? ⟨G3, 32, none⟩ = some (.int .u64 (am : Int)) ∧ v.cell? ⟨b, i * 99 + 32, none⟩ = some (.int .u64 (x.am : Int)) from fun v hv => by
      refine ⟨(HGY.out v hv).cell_is ?_, row_am HXOK.out (by rw [← ECX.out]; exact HRX.out v (HB9.out _ (HBY.out v hv)))⟩
      rw [List.getElem?_toArray, ECY.out, LeafT.at_am HYOK.out, EY.out]
      rfl)
    obtain ⟨xm, hxm⟩ : ∃ z, z = x.am := ⟨_, rfl⟩
    rw [← hxm] at HC25 HM3
    clear hxm

    by_cases hma : am = xm
    · have hmb : ((am : Int) == (xm : Int)) = true := by rw [beq_iff_eq]; omega
      clear hma
      refine wp_region_noPanic ?_
      refine wp_region_held_drew (S := (fun v => Below W22.heap.size W22 v)) (by kernel_rfl) hS0 (fun hH0 => ?_)
      apply wpAnyH_take (i := 0) (v := _) rfl (by kernel_rfl) (by kernel_rfl) (by kernel_rfl) (fun _ _ _ h => h) (Or.inl ⟨by kernel_rfl, ?hv⟩) hH0 ?_
      case hv => intro w' hS; have z0 := hai w'; obtain ⟨z1, z2⟩ := HC25.out w' hS; go_simp; try exact rfl
      simp only [Act.put, List.getElem_toArray, List.getElem_cons_zero, List.getElem_cons_succ, List.setIfInBounds_toArray, List.set_cons_zero, List.set_cons_succ]
      apply wpAnyH_take (i := 1) (v := _) rfl (by kernel_rfl) (by kernel_rfl) (by kernel_rfl) (fun _ _ _ h => h) (Or.inl ⟨by kernel_rfl, ?hv⟩) hH0 ?_
      case hv => intro w' hS; have z0 := hai w'; obtain ⟨z1, z2⟩ := HC25.out w' hS; go_simp; try exact rfl
      simp only [Act.put, List.getElem_toArray, List.getElem_cons_zero, List.getElem_cons_succ, List.setIfInBounds_toArray, List.set_cons_zero, List.set_cons_succ]
      apply wpAnyH_take (i := 2) (v := _) rfl (by kernel_rfl) (by kernel_rfl) (by kernel_rfl) (fun _ _ _ h => h) (Or.inl ⟨by kernel_rfl, ?hv⟩) hH0 ?_
      case hv => intro w' hS; have z0 := hai w'; obtain ⟨z1, z2⟩ := HC25.out w' hS; go_simp; try exact rfl
      simp only [Act.put, List.getElem_toArray, List.getElem_cons_zero, List.getElem_cons_succ, List.setIfInBounds_toArray, List.set_cons_zero, List.set_cons_succ]
      apply wpAnyH_take (i := 3) (v := _) rfl (by kernel_rfl) (by kernel_rfl) (by kernel_rfl) (fun _ _ _ h => h) (Or.inl ⟨by kernel_rfl, ?hv⟩) hH0 ?_
      case hv => intro w' hS; have z0 := hai w'; obtain ⟨z1, z2⟩ := HC25.out w' hS; go_simp; try exact rfl
      simp only [Act.put, List.getElem_toArray, List.getElem_cons_zero, List.getElem_cons_succ, List.setIfInBounds_toArray, List.set_cons_zero, List.set_cons_succ]
      apply wpAnyH_take (i := 4) (v := _) rfl (by kernel_rfl) (by kernel_rfl) (by kernel_rfl) (fun _ _ _ h => h) (Or.inl ⟨by kernel_rfl, ?hv⟩) hH0 ?_
      case hv => intro w' hS; have z0 := hai w'; obtain ⟨z1, z2⟩ := HC25.out w' hS; go_simp; try exact rfl
      simp only [Act.put, List.getElem_toArray, List.getElem_cons_zero, List.getElem_cons_succ, List.setIfInBounds_toArray, List.set_cons_zero, List.set_cons_succ]
      apply wpAnyH_take (i := 5) (v := _) rfl (by kernel_rfl) (by kernel_rfl) (by kernel_rfl) (fun _ _ _ h => h) (Or.inl ⟨by kernel_rfl, ?hv⟩) hH0 ?_
      case hv => intro w' hS; have z0 := hai w'; obtain ⟨z1, z2⟩ := HC25.out w' hS; go_simp; try exact rfl
      simp only [Act.put, List.getElem_toArray, List.getElem_cons_zero, List.getElem_cons_succ, List.setIfInBounds_toArray, List.set_cons_zero, List.set_cons_succ]
      apply wpAnyH_take (i := 6) (v := _) rfl (by kernel_rfl) (by kernel_rfl) (by kernel_rfl) (fun _ _ _ h => h) (Or.inl ⟨by kernel_rfl, ?hv⟩) hH0 ?_
      case hv => intro w' hS; have z0 := hai w'; obtain ⟨z1, z2⟩ := HC25.out w' hS; go_simp; try exact rfl
      simp only [Act.put, List.getElem_toArray, List.getElem_cons_zero, List.getElem_cons_succ, List.setIfInBounds_toArray, List.set_cons_zero, List.set_cons_succ]
      apply wpAnyH_take (i := 7) (v := _) rfl (by kernel_rfl) (by kernel_rfl) (by kernel_rfl) (fun _ _ _ h => h) (Or.inl ⟨by kernel_rfl, ?hv⟩) hH0 ?_
      case hv => intro w' hS; have z0 := hai w'; obtain ⟨z1, z2⟩ := HC25.out w' hS; go_simp; try exact rfl
      simp only [Act.put, List.getElem_toArray, List.getElem_cons_zero, List.getElem_cons_succ, List.setIfInBounds_toArray, List.set_cons_zero, List.set_cons_succ]
      apply wpAnyH_take (i := 8) (v := _) rfl (by kernel_rfl) (by kernel_rfl) (by kernel_rfl) (fun _ _ _ h => h) (Or.inl ⟨by kernel_rfl, ?hv⟩) hH0 ?_
      case hv => intro w' hS; have z0 := hai w'; obtain ⟨z1, z2⟩ := HC25.out w' hS; go_simp; try exact rfl
      simp only [Act.put, List.getElem_toArray, List.getElem_cons_zero, List.getElem_cons_succ, List.setIfInBounds_toArray, List.set_cons_zero, List.set_cons_succ]
      refine wpAnyH_take (i := 9) (v := undef) rfl (by kernel_rfl) (by kernel_rfl) (by kernel_rfl) (fun _ _ _ h => h) (Or.inr ⟨by kernel_rfl, rfl⟩) hH0 ?_
      simp only [Act.put, List.getElem_toArray, List.getElem_cons_zero, List.getElem_cons_succ, List.setIfInBounds_toArray, List.set_cons_zero, List.set_cons_succ]
      refine wpAnyH_take (i := 10) (v := undef) rfl (by kernel_rfl) (by kernel_rfl) (by kernel_rfl) (fun _ _ _ h => h) (Or.inr ⟨by kernel_rfl, rfl⟩) hH0 ?_
      simp only [Act.put, List.getElem_toArray, List.getElem_cons_zero, List.getElem_cons_succ, List.setIfInBounds_toArray, List.set_cons_zero, List.set_cons_succ]
      refine wpAnyH_take (i := 11) (v := undef) rfl (by kernel_rfl) (by kernel_rfl) (by kernel_rfl) (fun _ _ _ h => h) (Or.inr ⟨by kernel_rfl, rfl⟩) hH0 ?_
      simp only [Act.put, List.getElem_toArray, List.getElem_cons_zero, List.getElem_cons_succ, List.setIfInBounds_toArray, List.set_cons_zero, List.set_cons_succ]
      refine wpAnyH_take (i := 12) (v := undef) rfl (by kernel_rfl) (by kernel_rfl) (by kernel_rfl) (fun _ _ _ h => h) (Or.inr ⟨by kernel_rfl, rfl⟩) hH0 ?_
      simp only [Act.put, List.getElem_toArray, List.getElem_cons_zero, List.getElem_cons_succ, List.setIfInBounds_toArray, List.set_cons_zero, List.set_cons_succ]
      apply wpAnyH_take (i := 13) (v := _) rfl (by kernel_rfl) (by kernel_rfl) (by kernel_rfl) (fun _ _ _ h => h) (Or.inl ⟨by kernel_rfl, ?hv⟩) hH0 ?_
      case hv => intro w' hS; have z0 := hai w'; obtain ⟨z1, z2⟩ := HC25.out w' hS; go_simp; try exact rfl
      simp only [Act.put, List.getElem_toArray, List.getElem_cons_zero, List.getElem_cons_succ, List.setIfInBounds_toArray, List.set_cons_zero, List.set_cons_succ]
      apply wpAnyH_take (i := 14) (v := _) rfl (by kernel_rfl) (by kernel_rfl) (by kernel_rfl) (fun _ _ _ h => h) (Or.inl ⟨by kernel_rfl, ?hv⟩) hH0 ?_
      case hv => intro w' hS; have z0 := hai w'; obtain ⟨z1, z2⟩ := HC25.out w' hS; go_simp; try exact rfl
      simp only [Act.put, List.getElem_toArray, List.getElem_cons_zero, List.getElem_cons_succ, List.setIfInBounds_toArray, List.set_cons_zero, List.set_cons_succ]
      refine wpAnyH_take (i := 15) (v := undef) rfl (by kernel_rfl) (by kernel_rfl) (by kernel_rfl) (fun _ _ _ h => h) (Or.inr ⟨by kernel_rfl, rfl⟩) hH0 ?_
      simp only [Act.put, List.getElem_toArray, List.getElem_cons_zero, List.getElem_cons_succ, List.setIfInBounds_toArray, List.set_cons_zero, List.set_cons_succ]
      refine wpAnyH_take (i := 16) (v := undef) rfl (by kernel_rfl) (by kernel_rfl) (by kernel_rfl) (fun _ _ _ h => h) (Or.inr ⟨by kernel_rfl, rfl⟩) hH0 ?_
      simp only [Act.put, List.getElem_toArray, List.getElem_cons_zero, List.getElem_cons_succ, List.setIfInBounds_toArray, List.set_cons_zero, List.set_cons_succ]
      refine wpAnyH_take (i := 17) (v := undef) rfl (by kernel_rfl) (by kernel_rfl) (by kernel_rfl) (fun _ _ _ h => h) (Or.inr ⟨by kernel_rfl, rfl⟩) hH0 ?_
      simp only [Act.put, List.getElem_toArray, List.getElem_cons_zero, List.getElem_cons_succ, List.setIfInBounds_toArray, List.set_cons_zero, List.set_cons_succ]
      refine wpAnyH_take (i := 18) (v := undef) rfl (by kernel_rfl) (by kernel_rfl) (by kernel_rfl) (fun _ _ _ h => h) (Or.inr ⟨by kernel_rfl, rfl⟩) hH0 ?_
      simp only [Act.put, List.getElem_toArray, List.getElem_cons_zero, List.getElem_cons_succ, List.setIfInBounds_toArray, List.set_cons_zero, List.set_cons_succ]
      apply wpAnyH_take (i := 19) (v := _) rfl (by kernel_rfl) (by kernel_rfl) (by kernel_rfl) (fun _ _ _ h => h) (Or.inl ⟨by kernel_rfl, ?hv⟩) hH0 ?_
      case hv => intro w' hS; have z0 := hai w'; obtain ⟨z1, z2⟩ := HC25.out w' hS; go_simp; try exact rfl
      simp only [Act.put, List.getElem_toArray, List.getElem_cons_zero, List.getElem_cons_succ, List.setIfInBounds_toArray, List.set_cons_zero, List.set_cons_succ]
      apply wpAnyH_take (i := 20) (v := _) rfl (by kernel_rfl) (by kernel_rfl) (by kernel_rfl) (fun _ _ _ h => h) (Or.inl ⟨by kernel_rfl, ?hv⟩) hH0 ?_
      case hv => intro w' hS; have z0 := hai w'; obtain ⟨z1, z2⟩ := HC25.out w' hS; go_simp; try exact rfl
      simp only [Act.put, List.getElem_toArray, List.getElem_cons_zero, List.getElem_cons_succ, List.setIfInBounds_toArray, List.set_cons_zero, List.set_cons_succ]
      refine wpAnyH_done (by kernel_rfl) ?_ _
      refine NoPanic.normal ?_
      have HFX := Lib.hid (HFIN.out _ hS0)
      clear hS0
      go_wp2_with fail
      go_ret
      exact ⟨rfl, HFX.out⟩
    · have hmb : ((am : Int) == (xm : Int)) = false := by rw [beq_eq_false_iff_ne]; omega
      rcases HM3.out hma with h30 | h10
      · rw [h30] at HOFY
        clear hma h30
        refine wp_region_noPanic ?_
        refine wp_region_held_drew (S := (fun v => Below W22.heap.size W22 v)) (by kernel_rfl) hS0 (fun hH0 => ?_)
        apply wpAnyH_take (i := 0) (v := _) rfl (by kernel_rfl) (by kernel_rfl) (by kernel_rfl) (fun _ _ _ h => h) (Or.inl ⟨by kernel_rfl, ?hv⟩) hH0 ?_
        case hv => intro w' hS; have z0 := hai w'; obtain ⟨z1, z2⟩ := HC25.out w' hS; go_simp; try exact rfl
        simp only [Act.put, List.getElem_toArray, List.getElem_cons_zero, List.getElem_cons_succ, List.setIfInBounds_toArray, List.set_cons_zero, List.set_cons_succ]
        apply wpAnyH_take (i := 1) (v := _) rfl (by kernel_rfl) (by kernel_rfl) (by kernel_rfl) (fun _ _ _ h => h) (Or.inl ⟨by kernel_rfl, ?hv⟩) hH0 ?_
        case hv => intro w' hS; have z0 := hai w'; obtain ⟨z1, z2⟩ := HC25.out w' hS; go_simp; try exact rfl
        simp only [Act.put, List.getElem_toArray, List.getElem_cons_zero, List.getElem_cons_succ, List.setIfInBounds_toArray, List.set_cons_zero, List.set_cons_succ]
        apply wpAnyH_take (i := 2) (v := _) rfl (by kernel_rfl) (by kernel_rfl) (by kernel_rfl) (fun _ _ _ h => h) (Or.inl ⟨by kernel_rfl, ?hv⟩) hH0 ?_
        case hv => intro w' hS; have z0 := hai w'; obtain ⟨z1, z2⟩ := HC25.out w' hS; go_simp; try exact rfl
        simp only [Act.put, List.getElem_toArray, List.getElem_cons_zero, List.getElem_cons_succ, List.setIfInBounds_toArray, List.set_cons_zero, List.set_cons_succ]
        apply wpAnyH_take (i := 3) (v := _) rfl (by kernel_rfl) (by kernel_rfl) (by kernel_rfl) (fun _ _ _ h => h) (Or.inl ⟨by kernel_rfl, ?hv⟩) hH0 ?_
        case hv => intro w' hS; have z0 := hai w'; obtain ⟨z1, z2⟩ := HC25.out w' hS; go_simp; try exact rfl
        simp only [Act.put, List.getElem_toArray, List.getElem_cons_zero, List.getElem_cons_succ, List.setIfInBounds_toArray, List.set_cons_zero, List.set_cons_succ]
        apply wpAnyH_take (i := 4) (v := _) rfl (by kernel_rfl) (by kernel_rfl) (by kernel_rfl) (fun _ _ _ h => h) (Or.inl ⟨by kernel_rfl, ?hv⟩) hH0 ?_
        case hv => intro w' hS; have z0 := hai w'; obtain ⟨z1, z2⟩ := HC25.out w' hS; go_simp; try exact rfl
        simp only [Act.put, List.getElem_toArray, List.getElem_cons_zero, List.getElem_cons_succ, List.setIfInBounds_toArray, List.set_cons_zero, List.set_cons_succ]
        apply wpAnyH_take (i := 5) (v := _) rfl (by kernel_rfl) (by kernel_rfl) (by kernel_rfl) (fun _ _ _ h => h) (Or.inl ⟨by kernel_rfl, ?hv⟩) hH0 ?_
        case hv => intro w' hS; have z0 := hai w'; obtain ⟨z1, z2⟩ := HC25.out w' hS; go_simp; try exact rfl
        simp only [Act.put, List.getElem_toArray, List.getElem_cons_zero, List.getElem_cons_succ, List.setIfInBounds_toArray, List.set_cons_zero, List.set_cons_succ]
        apply wpAnyH_take (i := 6) (v := _) rfl (by kernel_rfl) (by kernel_rfl) (by kernel_rfl) (fun _ _ _ h => h) (Or.inl ⟨by kernel_rfl, ?hv⟩) hH0 ?_
        case hv => intro w' hS; have z0 := hai w'; obtain ⟨z1, z2⟩ := HC25.out w' hS; go_simp; try exact rfl
        simp only [Act.put, List.getElem_toArray, List.getElem_cons_zero, List.getElem_cons_succ, List.setIfInBounds_toArray, List.set_cons_zero, List.set_cons_succ]
        apply wpAnyH_take (i := 7) (v := _) rfl (by kernel_rfl) (by kernel_rfl) (by kernel_rfl) (fun _ _ _ h => h) (Or.inl ⟨by kernel_rfl, ?hv⟩) hH0 ?_
        case hv => intro w' hS; have z0 := hai w'; obtain ⟨z1, z2⟩ := HC25.out w' hS; go_simp; try exact rfl
        simp only [Act.put, List.getElem_toArray, List.getElem_cons_zero, List.getElem_cons_succ, List.setIfInBounds_toArray, List.set_cons_zero, List.set_cons_succ]
        apply wpAnyH_take (i := 8) (v := _) rfl (by kernel_rfl) (by kernel_rfl) (by kernel_rfl) (fun _ _ _ h => h) (Or.inl ⟨by kernel_rfl, ?hv⟩) hH0 ?_
        case hv => intro w' hS; have z0 := hai w'; obtain ⟨z1, z2⟩ := HC25.out w' hS; go_simp; try exact rfl
        simp only [Act.put, List.getElem_toArray, List.getElem_cons_zero, List.getElem_cons_succ, List.setIfInBounds_toArray, List.set_cons_zero, List.set_cons_succ]
        refine wpAnyH_take (i := 9) (v := (.agg CY.toArray)) rfl (by kernel_rfl) (by kernel_rfl) (by kernel_rfl) (fun _ _ _ h => h) (yieldsIf_load_mid (by kernel_rfl) 103 (.tmp 16) rfl G3 0 rfl CY _ (fun w' h => (HGY.out _ h).row0) Tryd.underlying103 rfl SZYL.out) hH0 ?_
        simp only [Act.put, List.getElem_toArray, List.getElem_cons_zero, List.getElem_cons_succ, List.setIfInBounds_toArray, List.set_cons_zero, List.set_cons_succ]
        refine wpAnyH_take (i := 10) (v := (.agg LP.toArray)) rfl (by kernel_rfl) (by kernel_rfl) (by kernel_rfl) (fun _ _ _ h => h) (yieldsIf_load_mid (by kernel_rfl) 56 (.tmp 9) rfl G 0 rfl LP _ (fun w' h => (HG9.out _ (HBY.out _ h)).row0) Tryd.underlying56 rfl SZPL.out) hH0 ?_
        simp only [Act.put, List.getElem_toArray, List.getElem_cons_zero, List.getElem_cons_succ, List.setIfInBounds_toArray, List.set_cons_zero, List.set_cons_succ]
        refine wpAnyH_ready (rs := [11]) (by kernel_rfl) (by simp) ?_
        refine AllReadyH.cons rfl (fun KK hKK => ?_) AllReadyH.nil
        go_simp
        refine (HOFY.out _ hS0).mono ?_
        rintro _ y0 ⟨rfl, hy0⟩
        have hs1 := hS0.trans (hy0.mono hS0.size)
        clear hy0
        refine Shut.out hKK _ _ hs1 (fun hH1 => ?_)
        clear hKK KK
        try simp only [Act.put, List.getElem_toArray, List.getElem_cons_zero, List.getElem_cons_succ, List.setIfInBounds_toArray, List.set_cons_zero, List.set_cons_succ]
        apply wpAnyH_take (i := 12) (v := _) rfl (by kernel_rfl) (by kernel_rfl) (by kernel_rfl) (fun _ _ _ h => h) (Or.inl ⟨by kernel_rfl, ?hv⟩) hH1 ?_
        case hv => intro w' hS; have z0 := hai w'; obtain ⟨z1, z2⟩ := HC25.out w' hS; go_simp; try exact rfl
        simp only [Act.put, List.getElem_toArray, List.getElem_cons_zero, List.getElem_cons_succ, List.setIfInBounds_toArray, List.set_cons_zero, List.set_cons_succ]
        apply wpAnyH_take (i := 13) (v := _) rfl (by kernel_rfl) (by kernel_rfl) (by kernel_rfl) (fun _ _ _ h => h) (Or.inl ⟨by kernel_rfl, ?hv⟩) hH1 ?_
        case hv => intro w' hS; have z0 := hai w'; obtain ⟨z1, z2⟩ := HC25.out w' hS; go_simp; try exact rfl
        simp only [Act.put, List.getElem_toArray, List.getElem_cons_zero, List.getElem_cons_succ, List.setIfInBounds_toArray, List.set_cons_zero, List.set_cons_succ]
        apply wpAnyH_take (i := 14) (v := _) rfl (by kernel_rfl) (by kernel_rfl) (by kernel_rfl) (fun _ _ _ h => h) (Or.inl ⟨by kernel_rfl, ?hv⟩) hH1 ?_
        case hv => intro w' hS; have z0 := hai w'; obtain ⟨z1, z2⟩ := HC25.out w' hS; go_simp; try exact rfl
        simp only [Act.put, List.getElem_toArray, List.getElem_cons_zero, List.getElem_cons_succ, List.setIfInBounds_toArray, List.set_cons_zero, List.set_cons_succ]
        refine wpAnyH_take (i := 15) (v := undef) rfl (by kernel_rfl) (by kernel_rfl) (by kernel_rfl) (fun _ _ _ h => h) (Or.inr ⟨by kernel_rfl, rfl⟩) hH1 ?_
        simp only [Act.put, List.getElem_toArray, List.getElem_cons_zero, List.getElem_cons_succ, List.setIfInBounds_toArray, List.set_cons_zero, List.set_cons_succ]
        refine wpAnyH_take (i := 16) (v := undef) rfl (by kernel_rfl) (by kernel_rfl) (by kernel_rfl) (fun _ _ _ h => h) (Or.inr ⟨by kernel_rfl, rfl⟩) hH1 ?_
        simp only [Act.put, List.getElem_toArray, List.getElem_cons_zero, List.getElem_cons_succ, List.setIfInBounds_toArray, List.set_cons_zero, List.set_cons_succ]
        refine wpAnyH_take (i := 17) (v := undef) rfl (by kernel_rfl) (by kernel_rfl) (by kernel_rfl) (fun _ _ _ h => h) (Or.inr ⟨by kernel_rfl, rfl⟩) hH1 ?_
        simp only [Act.put, List.getElem_toArray, List.getElem_cons_zero, List.getElem_cons_succ, List.setIfInBounds_toArray, List.set_cons_zero, List.set_cons_succ]
        refine wpAnyH_take (i := 18) (v := undef) rfl (by kernel_rfl) (by kernel_rfl) (by kernel_rfl) (fun _ _ _ h => h) (Or.inr ⟨by kernel_rfl, rfl⟩) hH1 ?_
        simp only [Act.put, List.getElem_toArray, List.getElem_cons_zero, List.getElem_cons_succ, List.setIfInBounds_toArray, List.set_cons_zero, List.set_cons_succ]
        apply wpAnyH_take (i := 19) (v := _) rfl (by kernel_rfl) (by kernel_rfl) (by kernel_rfl) (fun _ _ _ h => h) (Or.inl ⟨by kernel_rfl, ?hv⟩) hH1 ?_
        case hv => intro w' hS; have z0 := hai w'; obtain ⟨z1, z2⟩ := HC25.out w' hS; go_simp; try exact rfl
        simp only [Act.put, List.getElem_toArray, List.getElem_cons_zero, List.getElem_cons_succ, List.setIfInBounds_toArray, List.set_cons_zero, List.set_cons_succ]
        apply wpAnyH_take (i := 20) (v := _) rfl (by kernel_rfl) (by kernel_rfl) (by kernel_rfl) (fun _ _ _ h => h) (Or.inl ⟨by kernel_rfl, ?hv⟩) hH1 ?_
        case hv => intro w' hS; have z0 := hai w'; obtain ⟨z1, z2⟩ := HC25.out w' hS; go_simp; try exact rfl
        simp only [Act.put, List.getElem_toArray, List.getElem_cons_zero, List.getElem_cons_succ, List.setIfInBounds_toArray, List.set_cons_zero, List.set_cons_succ]
        refine wpAnyH_done (by kernel_rfl) ?_ _
        refine NoPanic.normal ?_
        have HFX := Lib.hid (HFIN.out _ hs1)
        clear hS0 hs1
        go_wp2_with fail
        go_ret
        exact ⟨rfl, HFX.out⟩
      · rw [h10] at HOFY
        clear hma h10
        refine wp_region_noPanic ?_
        refine wp_region_held_drew (S := (fun v => Below W22.heap.size W22 v)) (by kernel_rfl) hS0 (fun hH0 => ?_)
        apply wpAnyH_take (i := 0) (v := _) rfl (by kernel_rfl) (by kernel_rfl) (by kernel_rfl) (fun _ _ _ h => h) (Or.inl ⟨by kernel_rfl, ?hv⟩) hH0 ?_
        case hv => intro w' hS; have z0 := hai w'; obtain ⟨z1, z2⟩ := HC25.out w' hS; go_simp; try exact rfl
        simp only [Act.put, List.getElem_toArray, List.getElem_cons_zero, List.getElem_cons_succ, List.setIfInBounds_toArray, List.set_cons_zero, List.set_cons_succ]
        apply wpAnyH_take (i := 1) (v := _) rfl (by kernel_rfl) (by kernel_rfl) (by kernel_rfl) (fun _ _ _ h => h) (Or.inl ⟨by kernel_rfl, ?hv⟩) hH0 ?_
        case hv => intro w' hS; have z0 := hai w'; obtain ⟨z1, z2⟩ := HC25.out w' hS; go_simp; try exact rfl
        simp only [Act.put, List.getElem_toArray, List.getElem_cons_zero, List.getElem_cons_succ, List.setIfInBounds_toArray, List.set_cons_zero, List.set_cons_succ]
        apply wpAnyH_take (i := 2) (v := _) rfl (by kernel_rfl) (by kernel_rfl) (by kernel_rfl) (fun _ _ _ h => h) (Or.inl ⟨by kernel_rfl, ?hv⟩) hH0 ?_
        case hv => intro w' hS; have z0 := hai w'; obtain ⟨z1, z2⟩ := HC25.out w' hS; go_simp; try exact rfl
        simp only [Act.put, List.getElem_toArray, List.getElem_cons_zero, List.getElem_cons_succ, List.setIfInBounds_toArray, List.set_cons_zero, List.set_cons_succ]
        apply wpAnyH_take (i := 3) (v := _) rfl (by kernel_rfl) (by kernel_rfl) (by kernel_rfl) (fun _ _ _ h => h) (Or.inl ⟨by kernel_rfl, ?hv⟩) hH0 ?_
        case hv => intro w' hS; have z0 := hai w'; obtain ⟨z1, z2⟩ := HC25.out w' hS; go_simp; try exact rfl
        simp only [Act.put, List.getElem_toArray, List.getElem_cons_zero, List.getElem_cons_succ, List.setIfInBounds_toArray, List.set_cons_zero, List.set_cons_succ]
        apply wpAnyH_take (i := 4) (v := _) rfl (by kernel_rfl) (by kernel_rfl) (by kernel_rfl) (fun _ _ _ h => h) (Or.inl ⟨by kernel_rfl, ?hv⟩) hH0 ?_
        case hv => intro w' hS; have z0 := hai w'; obtain ⟨z1, z2⟩ := HC25.out w' hS; go_simp; try exact rfl
        simp only [Act.put, List.getElem_toArray, List.getElem_cons_zero, List.getElem_cons_succ, List.setIfInBounds_toArray, List.set_cons_zero, List.set_cons_succ]
        apply wpAnyH_take (i := 5) (v := _) rfl (by kernel_rfl) (by kernel_rfl) (by kernel_rfl) (fun _ _ _ h => h) (Or.inl ⟨by kernel_rfl, ?hv⟩) hH0 ?_
        case hv => intro w' hS; have z0 := hai w'; obtain ⟨z1, z2⟩ := HC25.out w' hS; go_simp; try exact rfl
        simp only [Act.put, List.getElem_toArray, List.getElem_cons_zero, List.getElem_cons_succ, List.setIfInBounds_toArray, List.set_cons_zero, List.set_cons_succ]
        apply wpAnyH_take (i := 6) (v := _) rfl (by kernel_rfl) (by kernel_rfl) (by kernel_rfl) (fun _ _ _ h => h) (Or.inl ⟨by kernel_rfl, ?hv⟩) hH0 ?_
        case hv => intro w' hS; have z0 := hai w'; obtain ⟨z1, z2⟩ := HC25.out w' hS; go_simp; try exact rfl
        simp only [Act.put, List.getElem_toArray, List.getElem_cons_zero, List.getElem_cons_succ, List.setIfInBounds_toArray, List.set_cons_zero, List.set_cons_succ]
        apply wpAnyH_take (i := 7) (v := _) rfl (by kernel_rfl) (by kernel_rfl) (by kernel_rfl) (fun _ _ _ h => h) (Or.inl ⟨by kernel_rfl, ?hv⟩) hH0 ?_
        case hv => intro w' hS; have z0 := hai w'; obtain ⟨z1, z2⟩ := HC25.out w' hS; go_simp; try exact rfl
        simp only [Act.put, List.getElem_toArray, List.getElem_cons_zero, List.getElem_cons_succ, List.setIfInBounds_toArray, List.set_cons_zero, List.set_cons_succ]
        apply wpAnyH_take (i := 8) (v := _) rfl (by kernel_rfl) (by kernel_rfl) (by kernel_rfl) (fun _ _ _ h => h) (Or.inl ⟨by kernel_rfl, ?hv⟩) hH0 ?_
        case hv => intro w' hS; have z0 := hai w'; obtain ⟨z1, z2⟩ := HC25.out w' hS; go_simp; try exact rfl
        simp only [Act.put, List.getElem_toArray, List.getElem_cons_zero, List.getElem_cons_succ, List.setIfInBounds_toArray, List.set_cons_zero, List.set_cons_succ]
        refine wpAnyH_take (i := 9) (v := (.agg CY.toArray)) rfl (by kernel_rfl) (by kernel_rfl) (by kernel_rfl) (fun _ _ _ h => h) (yieldsIf_load_mid (by kernel_rfl) 103 (.tmp 16) rfl G3 0 rfl CY _ (fun w' h => (HGY.out _ h).row0) Tryd.underlying103 rfl SZYL.out) hH0 ?_
        simp only [Act.put, List.getElem_toArray, List.getElem_cons_zero, List.getElem_cons_succ, List.setIfInBounds_toArray, List.set_cons_zero, List.set_cons_succ]
        refine wpAnyH_take (i := 10) (v := (.agg LP.toArray)) rfl (by kernel_rfl) (by kernel_rfl) (by kernel_rfl) (fun _ _ _ h => h) (yieldsIf_load_mid (by kernel_rfl) 56 (.tmp 9) rfl G 0 rfl LP _ (fun w' h => (HG9.out _ (HBY.out _ h)).row0) Tryd.underlying56 rfl SZPL.out) hH0 ?_
        simp only [Act.put, List.getElem_toArray, List.getElem_cons_zero, List.getElem_cons_succ, List.setIfInBounds_toArray, List.set_cons_zero, List.set_cons_succ]
        refine wpAnyH_ready (rs := [11]) (by kernel_rfl) (by simp) ?_
        refine AllReadyH.cons rfl (fun KK hKK => ?_) AllReadyH.nil
        go_simp
        refine (HOFY.out _ hS0).mono ?_
        rintro _ y0 ⟨rfl, hy0⟩
        have hs1 := hS0.trans (hy0.mono hS0.size)
        clear hy0
        refine Shut.out hKK _ _ hs1 (fun hH1 => ?_)
        clear hKK KK
        try simp only [Act.put, List.getElem_toArray, List.getElem_cons_zero, List.getElem_cons_succ, List.setIfInBounds_toArray, List.set_cons_zero, List.set_cons_succ]
        apply wpAnyH_take (i := 12) (v := _) rfl (by kernel_rfl) (by kernel_rfl) (by kernel_rfl) (fun _ _ _ h => h) (Or.inl ⟨by kernel_rfl, ?hv⟩) hH1 ?_
        case hv => intro w' hS; have z0 := hai w'; obtain ⟨z1, z2⟩ := HC25.out w' hS; go_simp; try exact rfl
        simp only [Act.put, List.getElem_toArray, List.getElem_cons_zero, List.getElem_cons_succ, List.setIfInBounds_toArray, List.set_cons_zero, List.set_cons_succ]
        apply wpAnyH_take (i := 13) (v := _) rfl (by kernel_rfl) (by kernel_rfl) (by kernel_rfl) (fun _ _ _ h => h) (Or.inl ⟨by kernel_rfl, ?hv⟩) hH1 ?_
        case hv => intro w' hS; have z0 := hai w'; obtain ⟨z1, z2⟩ := HC25.out w' hS; go_simp; try exact rfl
        simp only [Act.put, List.getElem_toArray, List.getElem_cons_zero, List.getElem_cons_succ, List.setIfInBounds_toArray, List.set_cons_zero, List.set_cons_succ]
        apply wpAnyH_take (i := 14) (v := _) rfl (by kernel_rfl) (by kernel_rfl) (by kernel_rfl) (fun _ _ _ h => h) (Or.inl ⟨by kernel_rfl, ?hv⟩) hH1 ?_
        case hv => intro w' hS; have z0 := hai w'; obtain ⟨z1, z2⟩ := HC25.out w' hS; go_simp; try exact rfl
        simp only [Act.put, List.getElem_toArray, List.getElem_cons_zero, List.getElem_cons_succ, List.setIfInBounds_toArray, List.set_cons_zero, List.set_cons_succ]
        refine wpAnyH_take (i := 15) (v := (.agg CY.toArray)) rfl (by kernel_rfl) (by kernel_rfl) (by kernel_rfl) (fun _ _ _ h => h) (yieldsIf_load_mid (by kernel_rfl) 103 (.tmp 16) rfl G3 0 rfl CY _ (fun w' h => (HGY.out _ h).row0) Tryd.underlying103 rfl SZYL.out) hH1 ?_
        simp only [Act.put, List.getElem_toArray, List.getElem_cons_zero, List.getElem_cons_succ, List.setIfInBounds_toArray, List.set_cons_zero, List.set_cons_succ]
        refine wpAnyH_take (i := 16) (v := (.agg LP.toArray)) rfl (by kernel_rfl) (by kernel_rfl) (by kernel_rfl) (fun _ _ _ h => h) (yieldsIf_load_mid (by kernel_rfl) 56 (.tmp 9) rfl G 0 rfl LP _ (fun w' h => (HG9.out _ (HBY.out _ h)).row0) Tryd.underlying56 rfl SZPL.out) hH1 ?_
        simp only [Act.put, List.getElem_toArray, List.getElem_cons_zero, List.getElem_cons_succ, List.setIfInBounds_toArray, List.set_cons_zero, List.set_cons_succ]
        refine wpAnyH_ready (rs := [17]) (by kernel_rfl) (by simp) ?_
        refine AllReadyH.cons rfl (fun KK hKK => ?_) AllReadyH.nil
        go_simp
        refine (HOFY.out _ hs1).mono ?_
        rintro _ y1 ⟨rfl, hy1⟩
        have hs2 := hs1.trans (hy1.mono hs1.size)
        clear hy1
        refine Shut.out hKK _ _ hs2 (fun hH2 => ?_)
        clear hKK KK
        try simp only [Act.put, List.getElem_toArray, List.getElem_cons_zero, List.getElem_cons_succ, List.setIfInBounds_toArray, List.set_cons_zero, List.set_cons_succ]
        apply wpAnyH_take (i := 18) (v := _) rfl (by kernel_rfl) (by kernel_rfl) (by kernel_rfl) (fun _ _ _ h => h) (Or.inl ⟨by kernel_rfl, ?hv⟩) hH2 ?_
        case hv => intro w' hS; have z0 := hai w'; obtain ⟨z1, z2⟩ := HC25.out w' hS; go_simp; try exact rfl
        simp only [Act.put, List.getElem_toArray, List.getElem_cons_zero, List.getElem_cons_succ, List.setIfInBounds_toArray, List.set_cons_zero, List.set_cons_succ]
        apply wpAnyH_take (i := 19) (v := _) rfl (by kernel_rfl) (by kernel_rfl) (by kernel_rfl) (fun _ _ _ h => h) (Or.inl ⟨by kernel_rfl, ?hv⟩) hH2 ?_
        case hv => intro w' hS; have z0 := hai w'; obtain ⟨z1, z2⟩ := HC25.out w' hS; go_simp; try exact rfl
        simp only [Act.put, List.getElem_toArray, List.getElem_cons_zero, List.getElem_cons_succ, List.setIfInBounds_toArray, List.set_cons_zero, List.set_cons_succ]
        apply wpAnyH_take (i := 20) (v := _) rfl (by kernel_rfl) (by kernel_rfl) (by kernel_rfl) (fun _ _ _ h => h) (Or.inl ⟨by kernel_rfl, ?hv⟩) hH2 ?_
        case hv => intro w' hS; have z0 := hai w'; obtain ⟨z1, z2⟩ := HC25.out w' hS; go_simp; try exact rfl
        simp only [Act.put, List.getElem_toArray, List.getElem_cons_zero, List.getElem_cons_succ, List.setIfInBounds_toArray, List.set_cons_zero, List.set_cons_succ]
        refine wpAnyH_done (by kernel_rfl) ?_ _
        refine NoPanic.normal ?_
        have HFX := Lib.hid (HFIN.out _ hs2)
        clear hS0 hs1 hs2
        go_wp2_with fail
        go_ret
        exact ⟨rfl, HFX.out⟩
end Go.Proofs.YtngmpcmeebcdmaaDoor
