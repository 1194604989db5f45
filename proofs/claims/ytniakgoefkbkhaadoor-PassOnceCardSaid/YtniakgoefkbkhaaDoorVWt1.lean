/- The walk of pass.What. -/
import Derived.Test.YtniakgoefkbkhaaDoorWs
import Derived.Test.YtniakgoefkbkhaaDoorVTk2
namespace Go.Proofs.YtniakgoefkbkhaaDoor
set_option linter.unusedVariables false
set_option linter.unusedSimpArgs false
open Go.ChangeShapes Go.WideShapes Go.ChangeAt Go.RowKit Go.Maps

theorem zero_from : ∃ Z : Array Value, (∀ w, (zeroValue 86).run Tryd.prog w = .ok (.agg Z) w) ∧ Z.size = 164 ∧ ¬ Z = #[] := by
 have hs : (FromT.cells ⟨Z32', 0, ⟨List.replicate 32 0, 0, List.replicate 32 0, 0, zNd⟩, Z32'⟩).toArray.size = 164 := by kernel_rfl
 exact ⟨_, fun w => by kernel_rfl, hs, fun e => (by rw [e] at hs; cases hs)⟩
theorem at_from (b o n c k : Nat) (hk : k < n) (w : World) : (Instr.indexAt 68 (.slice (some ⟨b, o, none⟩) n c) (.int .i64 (k : Int))).run Tryd.prog w = .ok (.pointer (some ⟨b, o + k * 164, none⟩)) w := by
 have hu : Tryd.prog.underlying 68 = some (.slice (Tryd.prog.elem 68)) := by kernel_rfl
 have he : Tryd.prog.elem 68 = 86 := by kernel_rfl
 have hz : ∀ w, (sizeOf 86).run Tryd.prog w = .ok 164 w := fun w => by kernel_rfl
 rw [run_indexAt_slice w 68 ⟨b, o, none⟩ n c .i64 (k : Int) hu, if_pos ⟨by omega, by omega⟩, he, hz]
 simp only [Result.andThen, Int.toNat_natCast, Addr.add_mid]
theorem eightN_at (s j : Nat) (h : j < 8) : (eight s)[j]? = some (s / 2 ^ (8 * (7 - j)) % 256) := by
 unfold eight
 rw [List.getElem?_map, List.getElem?_range h]; rfl
theorem eightN_nth (s j : Nat) (h : j < 8) : (eight s).take (j + 1) = (eight s).take j ++ [s / 2 ^ (8 * (7 - j)) % 256] := by
 rw [List.take_add_one, eightN_at s j h]; rfl
theorem eightN_lt (s : Nat) : ∀ x ∈ eight s, x < 256 := fun x hx => by
 obtain ⟨j, hj⟩ := List.getElem?_of_mem hx
 have := (List.getElem?_eq_some_iff.1 hj).1
 rw [eight_length] at this
 rw [eightN_at s j this] at hj
 injection hj with hj
 rw [← hj]; exact Nat.mod_lt _ (by decide)
theorem pointB_len {tx : List Nat} (h : tx.length = 32) (out : Int) : (pointB tx out).length = 36 := by rw [pointB, List.length_append, h]; rfl
theorem pointB_lt {tx : List Nat} (h : IsHash tx) (out : Int) : ∀ x ∈ pointB tx out, x < 256 := fun x hx => by
 rcases List.mem_append.1 hx with h1 | h1
 · exact h.2 x h1
 · simp only [List.mem_cons, List.not_mem_nil, or_false] at h1
   rcases h1 with rfl | rfl | rfl | rfl <;> exact byteI_lt _
theorem key_hash (K s0 : List Wd) (h : s0.length = 8) (l : LeafT) : IsHash (keyK K s0 l) := tagD_hash K s0 h _ _
theorem whatB_len (K s0 : List Wd) (h : s0.length = 8) {f : FromT} (hf : f.ok) : (whatB K s0 f).length = 68 := by
 rw [whatB, List.length_append, pointB_len hf.tx.1, (key_hash K s0 h f.l).1]
theorem whatL_len (K s0 : List Wd) (h : s0.length = 8) (fs : List FromT) (hf : ∀ f ∈ fs, f.ok) : (fs.flatMap (whatB K s0)).length = 68 * fs.length := by
 induction fs with
 | nil => rfl
 | cons f fs ih =>
  rw [List.flatMap_cons, List.length_append, whatB_len K s0 h (hf f List.mem_cons_self), ih (fun g hg => hf g (List.mem_cons_of_mem _ hg)), List.length_cons]
  omega
theorem whatL_lt (K s0 : List Wd) (h : s0.length = 8) (fs : List FromT) (hf : ∀ f ∈ fs, f.ok) : ∀ x ∈ fs.flatMap (whatB K s0), x < 256 := fun x hx => by
 obtain ⟨f, hm, hx⟩ := List.mem_flatMap.1 hx
 rcases List.mem_append.1 hx with hx | hx
 · exact pointB_lt (hf f hm).tx _ x hx
 · exact (key_hash K s0 h f.l).2 x hx
theorem whatL_take (K s0 : List Wd) {fs : List FromT} {k : Nat} {f : FromT} (h : fs[k]? = some f) : (fs.take (k + 1)).flatMap (whatB K s0) = (fs.take k).flatMap (whatB K s0) ++ (pointB f.tx f.out ++ keyK K s0 f.l) := by
 rw [List.take_add_one, h, List.flatMap_append]
 simp [whatB]
theorem boxes_what (w : World) (LN : List Value) (Z : Array Value) : ∃ W1, W1 = (((w.alloc (.cells LN.toArray 79))).alloc (.cells Z 39)) ∧
   Has W1 (w.heap.size) 79 LN.toArray ∧ Has W1 (w.heap.size + 1) 39 Z ∧ Below w.heap.size w W1 := by
 refine ⟨_, rfl, ?_, ?_, ?_⟩
 · have := Has.new w 79 LN.toArray
   exact (this).alloc _
 · have := Has.new (w.alloc (.cells LN.toArray 79)) 39 Z
   exact (by simpa using this : Has _ (w.heap.size + 1) _ _)
 · exact ((Below.refl _ _).alloc (Nat.le_refl _) _).alloc (by simp) _
set_option maxRecDepth 100000 in
set_option maxHeartbeats 4000000 in
theorem psWhat_is (K s0 : List Wd) (w : World) (hT : Tabs K s0 w) (A : Option Addr) (n c : Nat) (fs : List FromT) (hfs : RowsAt FromT.cells 164 w A n fs) (hok : ∀ f ∈ fs, f.ok) (hn : n ≤ 100000) (sp : Nd) (hsh : IsHash sp.h) (hss : sp.s < 18446744073709551616) :
  Calls Tryd.prog 28 #[.slice A n c, .agg (ndV sp).toArray] w fun e w' => e = .returned (arr (whatK K s0 fs sp)) ∧ Below w.heap.size w w' := by
 obtain ⟨zk, hzk, hzs, hzn⟩ := zero_hashT
 obtain ⟨zf, hzf, hzfs, hzfn⟩ := zero_from
 obtain ⟨LN, hLN⟩ : ∃ L, L = ndV sp := ⟨_, rfl⟩
 obtain ⟨D, hD⟩ : ∃ D, D = whatK K s0 fs sp := ⟨_, rfl⟩
 have hph : IsHash D := by rw [hD]; exact tagD_hash K s0 hT.len _ _
 obtain ⟨LD, hLD⟩ : ∃ L, L = bcells D := ⟨_, rfl⟩
 unfold arr
 rw [← hLN, ← hD, ← hLD]
 have hlow := hT.low
 have HT := Lib.hid hT
 have HFS := Lib.hid hfs
 have HOK := Lib.hid hok
 have HLEN := Lib.hid hfs.len
 have HLN := Lib.hid hLN
 have HD := Lib.hid hD
 have HLD := Lib.hid hLD
 have HPH := Lib.hid hph
 have HSP := Lib.hid (And.intro hsh hss)
 have HAT := Lib.hid at_from
 have hll : LD.length = 32 := by rw [hLD, bcells_length, hph.1]
 have SZ := Lib.hid (show (Tryd.prog.info? 39).map (·.size) = some LD.toArray.size by rw [List.size_toArray, hll]; kernel_rfl)
 have SZK := Lib.hid (show ∀ d : List Nat, IsHash d → (Tryd.prog.info? 39).map (·.size) = some (bcells d).toArray.size from fun d hd => by rw [List.size_toArray, bcells_length, hd.1]; kernel_rfl)
 have SZ2 := Lib.hid (show zk.size = LD.toArray.size by rw [hzs, List.size_toArray, hll])
 have HZK := Lib.hid (show zk.size = 32 from hzs)
 have HZF := Lib.hid hzfs
 have SZF := Lib.hid (show ∀ f : FromT, f.ok → (Tryd.prog.info? 86).map (·.size) = some f.cells.length from fun f hf => by rw [FromT.len hf]; kernel_rfl)
 have SZLF := Lib.hid (show ∀ f : FromT, f.ok → (Tryd.prog.info? 81).map (·.size) = some f.l.cells.length from fun f hf => by rw [LeafT.len hf.l]; kernel_rfl)
 have SZPT := Lib.hid (show ∀ f : FromT, f.ok → (Tryd.prog.info? 84).map (·.size) = some (ptCells f.tx f.out).length from fun f hf => by rw [pt_len hf.tx]; kernel_rfl)
 have ONE := Lib.hid (show LD.toArray.all (·.oneCell') = true by rw [hLD]; exact all_oneCell_toArray (bcells_one D))
 clear hT hfs hok hLN hD hLD hph hzs hzfs hsh hss hll
 go_enter Tryd.func28, Tryd.ntmps28
 go_upto_region 1 with (fail)
 obtain ⟨W1, hW1, h1, h2, hb1⟩ := boxes_what w LN zk
 rw [← hW1]
 clear hW1
 obtain ⟨B, hB⟩ : ∃ b, b = w.heap.size := ⟨_, rfl⟩
 rw [← hB] at h1 h2 hb1 hlow ⊢
 have HBQ := Lib.hid hB
 clear hB
 have H1 := Lib.hid h1
 have H2 := Lib.hid h2
 have HB1 := Lib.hid hb1
 have HTB := Lib.hid (show ∀ v : World, Below W1.heap.size W1 v → Tabs K s0 v from fun v hv => by
  have hl2 := hlow
  have hb2 := HB1.out
  rw [HBQ.out] at hl2 hb2
  exact HT.out.below (hb2.trans (hv.mono hb2.size)) hl2)
 have HF1 := Lib.hid (show RowsAt FromT.cells 164 W1 A n fs by have := HB1.out; rw [HBQ.out] at this; exact HFS.out.below this)
 have HL8 := Lib.hid HT.out.len
 clear h1 h2 hb1
 go_wp2_with fail
 go_loopw [5, 12] (fun bv iv wr => ∃ (k t : Nat) (oa : Option Addr) (oc : Nat), iv = .int .i64 (k : Int) ∧ k ≤ n ∧ bv = .slice oa t oc ∧ t = ((fs.take k).flatMap (whatB K s0)).length ∧ wr.ownsRow W1.heap.size 5 1 (.slice oa t oc) t (bcells ((fs.take k).flatMap (whatB K s0))) ∧ Below W1.heap.size W1 wr) (fun _ iv _ => n - (intOf iv).toNat)
 case atStart => exact ⟨0, 0, none, 0, rfl, Nat.zero_le _, rfl, rfl, World.ownsRow_nil _ _ _ _, Below.refl _ _⟩
 case round =>
  obtain ⟨k, t, oa, oc, rfl, hk, rfl, ht, hown, hbel⟩ := hrel
  have HOWN := Lib.hid hown
  have HBE := Lib.hid hbel
  have HTT := Lib.hid ht
  clear hown hbel ht
  by_cases hlt : k < n
  · have hlt' : (k : Int) < (n : Int) := by omega
    obtain ⟨f, hf⟩ : ∃ f, fs[k]? = some f := ⟨_, List.getElem?_eq_getElem (by rw [HLEN.out]; exact hlt)⟩
    have hfok := HOK.out f (List.mem_of_getElem? hf)
    obtain ⟨sb, so, hA1, hA2, hr⟩ := HF1.out.at_ (by omega)
    subst hA1
    have hrw := rangeAt_kept (hr k f hf) (Kept.of_below (S := fun _ => False) HBE.out) (fun h => h)
    obtain ⟨FC, hFC⟩ : ∃ L, L = f.cells := ⟨_, rfl⟩
    rw [← hFC] at hrw
    have hfl : FC.length = 164 := by rw [hFC]; exact FromT.len hfok
    have HRW := Lib.hid hrw
    have SZ1 := Lib.hid (show (Tryd.prog.info? 86).map (·.size) = some FC.length by rw [hFC]; exact SZF.out f hfok)
    have SZA := Lib.hid (show (Tryd.prog.info? 86).map (·.size) = some FC.toArray.size by rw [List.size_toArray]; exact SZ1.out)
    have HZZ := Lib.hid (show zf.size = FC.toArray.size by rw [HZF.out, List.size_toArray, hfl])
    have HONE := Lib.hid (show FC.toArray.all (·.oneCell') = true by rw [hFC]; exact FromT.one f)
    have HNW := Lib.hid (show ∀ C, Has ((wr.alloc (.cells zf 86)).setRow wr.heap.size C) wr.heap.size 86 C ∧ Below wr.heap.size wr ((wr.alloc (.cells zf 86)).setRow wr.heap.size C) from fun C => by
     rw [World.setRow_alloc_new]
     exact ⟨Has.new wr _ _, (Below.refl _ _).alloc (Nat.le_refl _) _⟩)
    have HFOK := Lib.hid hfok
    have HF := Lib.hid hf
    have EFC := Lib.hid hFC
    have hat := HAT.out sb so n c k hlt
    clear hrw hfl hfok hf hr hA2 hFC
    go_upto_region 5 with (first
     | (refine wpList_load_mid rfl 86 (.tmp 14) rfl sb (so + k * 164) rfl FC _ HRW.out Tryd.underlying86 rfl SZ1.out ?_)
     | (refine wpList_store_row rfl 86 (.tmp 7) (.tmp 15) rfl wr.heap.size FC.toArray rfl rfl 86 zf (heap_alloc_new wr _) SZA.out HZZ.out HONE.out ?_))
    obtain ⟨h3, hk3⟩ := HNW.out FC.toArray
    have HB3 := Lib.hid (HBE.out.trans (hk3.mono HBE.out.size))
    have HO3 := Lib.hid (own_kept HOWN.out (Kept.of_below (S := fun _ => False) hk3) (fun _ _ e => e))
    clear HNW hk3 hat
    generalize (wr.alloc (.cells zf 86)).setRow wr.heap.size FC.toArray = W9 at h3 HB3 HO3 ⊢
    generalize wr.heap.size = G at h3 ⊢
    obtain ⟨LC, hLC⟩ : ∃ L, L = f.l.cells := ⟨_, rfl⟩
    obtain ⟨KY, hKK⟩ : ∃ L, L = keyK K s0 f.l := ⟨_, rfl⟩
    have hkh : IsHash KY := by rw [hKK]; exact key_hash K s0 HL8.out _
    have HR9 := Lib.hid (show W9.rangeAt G 33 LC from fun j u hu => by
     have hj : j < 99 := by have := (List.getElem?_eq_some_iff.1 hu).1; rw [hLC, LeafT.len HFOK.out.l] at this; exact this
     exact h3.cell_is (by rw [List.getElem?_toArray, EFC.out, FromT.at_leaf HFOK.out j hj, ← hLC]; exact hu))
    have SZL := Lib.hid (show (Tryd.prog.info? 81).map (·.size) = some LC.length by rw [hLC]; exact SZLF.out f HFOK.out)
    have HKEY := Lib.hid (show ∀ v, Below W1.heap.size W1 v → Calls Tryd.prog 57 #[.agg LC.toArray] v fun e w' => e = .returned (.agg (bcells KY).toArray) ∧ Below v.heap.size v w' from fun v hv => by
     have := lfKey_is K s0 v (HTB.out v hv) f.l HFOK.out.l
     rw [← hLC, ← hKK] at this
     exact this)
    have H9 := Lib.hid h3
    have EKK := Lib.hid hKK
    have HKH := Lib.hid hkh
    clear h3 hLC hKK hkh
    go_wp2_with (refine wpList_load_mid rfl 81 (.tmp 16) rfl G 33 rfl LC _ HR9.out Tryd.underlying81 rfl SZL.out ?_)
    refine (HKEY.out _ HB3.out).mono ?_
    rintro _ w5 ⟨rfl, hb5⟩
    obtain ⟨KC, hKC⟩ : ∃ L, L = bcells KY := ⟨_, rfl⟩
    have SZC := Lib.hid (SZK.out KY HKH.out)
    have HZC := Lib.hid (show zk.size = KC.toArray.size by rw [HZK.out, List.size_toArray, hKC, bcells_length, HKH.out.1])
    have HOC := Lib.hid (show KC.toArray.all (·.oneCell') = true by rw [hKC]; exact all_oneCell_toArray (bcells_one KY))
    rw [← hKC] at SZC ⊢
    have HNK := Lib.hid (show ∀ C, Has ((w5.alloc (.cells zk 39)).setRow w5.heap.size C) w5.heap.size 39 C ∧ Below w5.heap.size w5 ((w5.alloc (.cells zk 39)).setRow w5.heap.size C) from fun C => by
     rw [World.setRow_alloc_new]
     exact ⟨Has.new w5 _ _, (Below.refl _ _).alloc (Nat.le_refl _) _⟩)
    have HB5 := Lib.hid hb5
    have EKC := Lib.hid hKC
    clear hb5 hKC
    go_upto_region 6 with (refine wpList_store_row rfl 39 (.tmp 8) (.tmp 18) rfl w5.heap.size KC.toArray rfl rfl 39 zk (heap_alloc_new w5 _) SZC.out HZC.out HOC.out ?_)
    obtain ⟨h6, hk6⟩ := HNK.out KC.toArray
    have hb6 := HB3.out.trans ((HB5.out.trans (hk6.mono HB5.out.size)).mono HB3.out.size)
    have ho6 := own_kept (own_kept HO3.out (Kept.of_below (S := fun _ => False) HB5.out) (fun _ _ e => e)) (Kept.of_below (S := fun _ => False) hk6) (fun _ _ e => e)
    have h96 := (H9.out.below HB5.out H9.out.lt).below hk6 (Nat.lt_of_lt_of_le H9.out.lt HB5.out.size)
    clear HNK hk6 HB5
    generalize (w5.alloc (.cells zk 39)).setRow w5.heap.size KC.toArray = W6 at h6 hb6 ho6 h96 ⊢
    generalize w5.heap.size = G8 at h6 ⊢
    have hS0 : (Has W6.drew G 86 FC.toArray ∧ Has W6.drew G8 39 KC.toArray) ∧ Below W1.heap.size W1 W6.drew := ⟨⟨h96.drew, h6.drew⟩, below_drew hb6⟩
    have hown : W6.drew.ownsRow W1.heap.size 5 1 (.slice oa t oc) t (bcells ((fs.take k).flatMap (whatB K s0))) := own_kept ho6 ((Kept.refl (fun _ => False) _).drew) (fun _ _ e => e)
    obtain ⟨LP, hLP⟩ : ∃ L, L = ptCells f.tx f.out := ⟨_, rfl⟩
    have HPT := Lib.hid (show ∀ v, Calls Tryd.prog 58 #[.agg LP.toArray] v fun e w' => ∃ a c, e = .returned (.slice a 36 c) ∧ Bytes w' w'.heap.size (.slice a 36 c) (pointB f.tx f.out) ∧ Below v.heap.size v w' from fun v => by rw [hLP]; exact ptPut_is v f.tx HFOK.out.tx f.out HFOK.out.lo HFOK.out.hi)
    have HRP := Lib.hid (show ∀ v, Has v G 86 FC.toArray → v.rangeAt G 0 LP from fun v hv j u hu => by
     have hj : j < 33 := by have := (List.getElem?_eq_some_iff.1 hu).1; rw [hLP, pt_len HFOK.out.tx] at this; exact this
     rw [Nat.zero_add]
     exact hv.cell_is (by rw [List.getElem?_toArray, EFC.out, FromT.at_pt HFOK.out j hj, ← hLP]; exact hu))
    have SZP := Lib.hid (show (Tryd.prog.info? 84).map (·.size) = some LP.length by rw [hLP]; exact SZPT.out f HFOK.out)
    have HBK := Lib.hid (show ∀ v, Has v G8 39 KC.toArray → Bytes v v.heap.size (.slice (some ⟨G8, 0, none⟩) 32 32) KY from fun v hv => hash_bytes HKH.out (by rw [← EKC.out]; exact hv) _ (Nat.ne_of_lt hv.lt))
    obtain ⟨bs, hbs⟩ : ∃ b, b = (fs.take k).flatMap (whatB K s0) := ⟨_, rfl⟩
    rw [← hbs] at hown
    have htl : t = bs.length := by rw [hbs]; exact HTT.out
    have hbl : bs.length ≤ 6800000 := by rw [hbs, whatL_len K s0 HL8.out _ (fun g hg => HOK.out g (List.mem_of_mem_take hg)), List.length_take]; omega
    have HL1 := Lib.hid (show t + (pointB f.tx f.out).length ≤ 100000000 by rw [pointB_len HFOK.out.tx.1]; omega)
    have HL2 := Lib.hid (show t + (pointB f.tx f.out).length + KY.length ≤ 100000000 by rw [pointB_len HFOK.out.tx.1, HKH.out.1]; omega)
    have HSTEP := Lib.hid (show (fs.take (k + 1)).flatMap (whatB K s0) = bs ++ (pointB f.tx f.out ++ KY) by rw [hbs, EKK.out]; exact whatL_take K s0 HF.out)
    have HTB2 := Lib.hid htl
    have HLTK := Lib.hid hlt
    have hbw : W1.heap.size ≤ W6.drew.heap.size := hb6.size
    clear h6 hb6 ho6 h96 hLP hbs htl hbl
    refine wp_region_noPanic ?_
    refine wp_region_held_drew (S := (fun v => (Has v G 86 FC.toArray ∧ Has v G8 39 KC.toArray) ∧ Below W1.heap.size W1 v)) (by kernel_rfl) hS0 (fun hH0 => ?_)
    apply tk 0 (v := _) rfl (Or.inl ⟨by kernel_rfl, ?hv⟩) hH0 ?_
    case hv => intro w' hS; go_simp; try exact rfl
    simp only [Act.put, qa]
    apply tk 1 (v := _) rfl (Or.inl ⟨by kernel_rfl, ?hv⟩) hH0 ?_
    case hv => intro w' hS; go_simp; try exact rfl
    simp only [Act.put, qa]
    refine tk 2 (v := (.agg LP.toArray)) rfl (yieldsIf_load_mid (by kernel_rfl) 84 (.tmp 20) rfl G 0 rfl LP _ (fun w' h => HRP.out _ h.1.1) Tryd.underlying84 rfl SZP.out) hH0 ?_
    simp only [Act.put, qa]
    apply tk 5 (v := _) rfl (Or.inl ⟨by kernel_rfl, ?hv⟩) hH0 ?_
    case hv => intro w' hS; go_simp; try exact rfl
    simp only [Act.put, qa]
    refine wpAnyH_ready (rs := [3]) (by kernel_rfl) (by simp) ?_
    refine AllReadyH.cons rfl (fun KK hKK => ?_) AllReadyH.nil
    go_simp
    refine (HPT.out _).mono ?_
    rintro _ x3 ⟨pa, pc, rfl, hpb, hx3⟩
    have hs3 : (Has x3 G 86 FC.toArray ∧ Has x3 G8 39 KC.toArray) ∧ Below W1.heap.size W1 x3 := ⟨⟨hH0.1.1.below hx3 hH0.1.1.lt, hH0.1.2.below hx3 hH0.1.2.lt⟩, hH0.2.trans (hx3.mono hH0.2.size)⟩
    replace hown := own_kept hown (Kept.of_below (S := fun _ => False) hx3) (fun _ _ e => e)
    clear hx3
    refine Shut.out hKK _ _ hs3 (fun hH1 => ?_)
    clear hKK KK
    try simp only [Act.put, qa]
    refine wpAnyH_ready (rs := [4]) (by kernel_rfl) (by simp) ?_
    refine AllReadyH.cons rfl (fun KK hKK => ?_) AllReadyH.nil
    refine step_append_bytes rfl (.tmp 19) (.tmp 22) rfl W1.heap.size _ t (bcells bs) rfl hown _ _ (pointB f.tx f.out) rfl hpb HL1.out hH1.2.size ?_
    intro oa4 oc4 x4 hown4 hgr4
    have hs4 : (Has x4 G 86 FC.toArray ∧ Has x4 G8 39 KC.toArray) ∧ Below W1.heap.size W1 x4 := ⟨⟨hH1.1.1.grown hgr4 (fun e => own_has_ne hown hH1.1.1 (by decide) G e.symm rfl), hH1.1.2.grown hgr4 (fun e => own_has_ne hown hH1.1.2 (by decide) G8 e.symm rfl)⟩, hH1.2.grown hgr4 hH1.2.size (own_blk hown)⟩
    clear hgr4 hpb
    refine Shut.out hKK _ _ hs4 (fun hH2 => ?_)
    clear hKK KK
    try simp only [Act.put, qa]
    refine wpAnyH_ready (rs := [6]) (by kernel_rfl) (by simp) ?_
    refine AllReadyH.cons rfl (fun KK hKK => ?_) AllReadyH.nil
    refine step_append_bytes rfl (.tmp 23) (.tmp 24) rfl W1.heap.size _ (t + (pointB f.tx f.out).length) _ rfl hown4 _ _ KY rfl (HBK.out _ hH2.1.2) HL2.out hH2.2.size ?_
    intro oa6 oc6 x6 hown6 hgr6
    have hs6 : (Has x6 G 86 FC.toArray ∧ Has x6 G8 39 KC.toArray) ∧ Below W1.heap.size W1 x6 := ⟨⟨hH2.1.1.grown hgr6 (fun e => own_has_ne hown4 hH2.1.1 (by decide) G e.symm rfl), hH2.1.2.grown hgr6 (fun e => own_has_ne hown4 hH2.1.2 (by decide) G8 e.symm rfl)⟩, hH2.2.grown hgr6 hH2.2.size (own_blk hown4)⟩
    clear hgr6
    refine Shut.out hKK _ _ hs6 (fun hH3 => ?_)
    clear hKK KK
    try simp only [Act.put, qa]
    apply tk 7 (v := _) rfl (Or.inl ⟨by kernel_rfl, ?hv⟩) hH3 ?_
    case hv => intro w' hS; go_simp; try exact rfl
    simp only [Act.put, qa]
    refine wpAnyH_done (by kernel_rfl) ?_ _
    refine NoPanic.normal ?_
    have HO6 := Lib.hid hown6
    have HB6 := Lib.hid hs6.2
    clear hown hown4 hown6 hs3 hs4 hs6 hS0
    go_wp2_with fail
    go_roundw
    case rel =>
     have e : bcells bs ++ bcells (pointB f.tx f.out) ++ bcells KY = bcells ((fs.take (k + 1)).flatMap (whatB K s0)) := by rw [HSTEP.out]; simp [bcells]
     have h6 := HO6.out
     rw [e] at h6
     exact ⟨k + 1, _, oa6, oc6, by go_num, HLTK.out, rfl, by rw [HSTEP.out, HTB2.out]; simp [Nat.add_assoc], h6, HB6.out⟩
    case measure => have := HLTK.out; simp [intOf]; omega
  · obtain rfl : k = n := by omega
    have hno : ¬ (k : Int) < (k : Int) := by omega
    obtain ⟨b0, hb0⟩ : ∃ b, b = fs.flatMap (whatB K s0) := ⟨_, rfl⟩
    have hall : (fs.take k).flatMap (whatB K s0) = b0 := by rw [hb0, List.take_of_length_le (by rw [HLEN.out]; exact Nat.le_refl _)]
    have hown := HOWN.out
    have ht := HTT.out
    rw [hall] at hown ht
    have hbl : b0.length ≤ 6800000 := by rw [hb0, whatL_len K s0 HL8.out _ HOK.out, HLEN.out]; omega
    have HOW := Lib.hid hown
    have HT0 := Lib.hid ht
    have HBL := Lib.hid hbl
    have EB0 := Lib.hid hb0
    have H1R := Lib.hid (H1.out.below HBE.out H1.out.lt)
    clear hown ht hbl hb0 hall hlt
    go_wp2_with fail
    go_loopw [5, 27] (fun bv iv wx => ∃ (j u : Nat) (oa : Option Addr) (oc : Nat), iv = .int .i64 (j : Int) ∧ j ≤ 8 ∧ bv = .slice oa u oc ∧ u = (b0 ++ (eight sp.s).take j).length ∧ wx.ownsRow W1.heap.size 5 1 (.slice oa u oc) u (bcells (b0 ++ (eight sp.s).take j)) ∧ Below W1.heap.size W1 wx) (fun _ iv _ => 8 - (intOf iv).toNat)
    case atStart => exact ⟨0, t, oa, oc, rfl, Nat.zero_le _, rfl, by rw [List.take_zero, List.append_nil]; exact HT0.out, by rw [List.take_zero, List.append_nil]; exact HOW.out, HBE.out⟩
    case round =>
     clear HOW HBE
     obtain ⟨j, u, oa7, oc7, rfl, hj, rfl, hu, hown7, hbel7⟩ := hrel
     obtain ⟨cs, hcs⟩ : ∃ l, l = b0 ++ (eight sp.s).take j := ⟨_, rfl⟩
     rw [← hcs] at hown7 hu
     obtain ⟨sx, hsx⟩ : ∃ v, v = sp.s := ⟨_, rfl⟩
     have h1x := (H1.out.below hbel7 H1.out.lt)
     have hsn : (ndV sp)[32]? = some (.int .u64 (sp.s : Int)) := nd_s HSP.out.1
     by_cases hj8 : j < 8
     · have hj8' : (j : Int) < 8 := by omega
       have hc1 : wr.cell? ⟨B, 32, none⟩ = some (.int .u64 (sx : Int)) := h1x.cell_is (by rw [List.getElem?_toArray, HLN.out, hsx]; exact hsn)
       obtain ⟨q, hq⟩ : ∃ q, q = sx / 2 ^ (8 * (7 - j)) % 256 := ⟨_, rfl⟩
       have hq8 : q < 256 := by rw [hq]; exact Nat.mod_lt _ (by decide)
       have hal : Below wr.heap.size wr (wr.alloc (.cells #[.int .u8 (q : Int)] 5)) := (Below.refl _ _).alloc (Nat.le_refl _) _
       have HO8 := Lib.hid (own_kept hown7 (Kept.of_below (S := fun _ => False) hal) (fun _ _ e => e))
       have HSRC8 := Lib.hid (show Bytes (wr.alloc (.cells #[.int .u8 (q : Int)] 5)) (wr.alloc (.cells #[.int .u8 (q : Int)] 5)).heap.size (.slice (some ⟨wr.heap.size, 0, none⟩) 1 1) [q] from one_by (Has.new wr _ _) hq8 _ (by simp))
       have HBS8 := Lib.hid (show ∀ z, W1.heap.size ≤ (wr.alloc (.cells z 5)).heap.size from fun z => by have := hbel7.size; simp; omega)
       have HLN8 := Lib.hid (show u + [q].length ≤ 100000000 by
         have h1 := HBL.out
         rw [hu, hcs, List.length_append, List.length_take, eight_length]; simp; omega)
       have HB8 := Lib.hid (hbel7.alloc hbel7.size (.cells #[.int .u8 (q : Int)] 5))
       have HE8 := Lib.hid (show b0 ++ (eight sp.s).take (j + 1) = cs ++ [q] by
         rw [eightN_nth sp.s j hj8, hcs, ← List.append_assoc, hq, hsx])
       have HUU := Lib.hid hu
       have HJ := Lib.hid hj8
       have hnn : (56 - 8 * (j : Int)).toNat = 8 * (7 - j) := by omega
       have hn0 : (0 : Int) ≤ 56 - 8 * (j : Int) := by omega
       have hn1 : 56 - 8 * (j : Int) < 64 := by omega
       have hu8 : IntKind.u8.wrap ((sx : Int) / 2 ^ (8 * (7 - j))) = (q : Int) := by
         rw [IntKind.wrap_u8, hq]
         have : ((sx : Int) / 2 ^ (8 * (7 - j))) = ((sx / 2 ^ (8 * (7 - j)) : Nat) : Int) := by rw [Int.natCast_ediv, Int.natCast_pow]; rfl
         rw [this]; omega
       clear hal hown7 hbel7 hq hsx hsn h1x hcs hu hj
       go_wp2_with (at_builtin; refine wpList_append_bytes rfl (.tmp 30) (.tmp 38) rfl W1.heap.size _ u (bcells cs) rfl HO8.out _ _ [q] rfl HSRC8.out HLN8.out (HBS8.out _) ?_; intro oa8 oc8 w8 hown9 hgr9)
       have HFIN := Lib.hid (show w8.ownsRow W1.heap.size 5 1 (.slice oa8 (u + [q].length) oc8) (u + [q].length) (bcells (b0 ++ (eight sp.s).take (j + 1))) ∧ Below W1.heap.size W1 w8 from by
         rw [HE8.out]
         have e : bcells cs ++ bcells [q] = bcells (cs ++ [q]) := by simp [bcells]
         rw [e] at hown9
         exact ⟨hown9, HB8.out.grown hgr9 (HBS8.out _) (own_blk HO8.out)⟩)
       have HUQ := Lib.hid (show u + [q].length = (b0 ++ (eight sp.s).take (j + 1)).length by rw [HE8.out, HUU.out, List.length_append])
       clear hown9 hgr9 hu8 hnn hn0 hn1 hc1
       go_wp2_with fail
       go_roundw
       case rel => exact ⟨j + 1, _, oa8, oc8, by go_num, HJ.out, rfl, HUQ.out, HFIN.out⟩
       case measure => have := HJ.out; simp [intOf]; omega
     · obtain rfl : j = 8 := by omega
       have hno8 : ¬ ((8 : Nat) : Int) < 8 := by decide
       have hcs2 : cs = b0 ++ eight sp.s := by rw [hcs, List.take_of_length_le (by rw [eight_length]; exact Nat.le_refl _)]
       have hlt2 : ∀ x ∈ b0 ++ eight sp.s, x < 256 := fun x hx => by
         rcases List.mem_append.1 hx with hx | hx
         · rw [EB0.out] at hx; exact whatL_lt K s0 HL8.out fs HOK.out x hx
         · exact eightN_lt _ x hx
       have hbyt : Bytes wr wr.heap.size (.slice oa7 u oc7) (b0 ++ eight sp.s) := own_bytes (by rw [hcs2] at hown7; exact hown7) (by rw [← hcs2]; exact hu.symm) hlt2 (Nat.le_refl _)
       have HBYT := Lib.hid hbyt
       have HBX := Lib.hid hbel7
       have HFL := Lib.hid (show tagD K s0 passS [b0 ++ eight sp.s, sp.h].flatten = D by rw [HD.out, whatK, EB0.out]; simp)
       have HLQ := Lib.hid (show [b0 ++ eight sp.s, sp.h].flatten.length ≤ 100000000 by have := HBL.out; have h2 := HSP.out.1.1; simp [h2, eight_length]; omega)
       have HH := Lib.hid (show ∀ v, Below wr.heap.size wr v → ∀ g, wr.heap.size ≤ g → Bytes v g (.slice (some ⟨B, 0, none⟩) 32 32) sp.h from fun v hv g hg => ⟨_, _, by rw [HSP.out.1.1], by rw [HSP.out.1.1]; exact Nat.le_refl _, HSP.out.1.2, fun _ => ⟨B, 0, rfl, by have := (H1.out.below hbel7 H1.out.lt).lt; omega, fun i hi => (h1x.below hv h1x.lt).cell_is (by
         rw [List.getElem?_toArray, HLN.out, Nat.zero_add, ndV, ncells, List.getElem?_append_left (by rw [bcells_length]; exact hi)]
         exact bcells_get _ i hi)⟩⟩)
       have H2X := Lib.hid (H2.out.below hbel7 H2.out.lt)
       clear hcs hcs2 hlt2 hbyt hbel7 hsx hsn h1x hown7 hu hj hj8
       go_upto_region 13 with (fail)
       have hbw : Below wr.heap.size wr wr.drew := (Below.refl _ _).drew
       refine wp_region_noPanic ?_
       refine wp_region_held_drew (S := (fun _ => True)) (by kernel_rfl) trivial (fun hH0 => ?_)
       apply tk 1 (v := _) rfl (Or.inl ⟨by kernel_rfl, ?hv⟩) hH0 ?_
       case hv => intro w' hS; go_simp; try exact rfl
       simp only [Act.put, qa]
       apply tk 2 (v := _) rfl (Or.inl ⟨by kernel_rfl, ?hv⟩) hH0 ?_
       case hv => intro w' hS; go_simp; try exact rfl
       simp only [Act.put, qa]
       apply tk 3 (v := _) rfl (Or.inl ⟨by kernel_rfl, ?hv⟩) hH0 ?_
       case hv => intro w' hS; go_simp; try exact rfl
       simp only [Act.put, qa]
       refine wpAnyH_ready (rs := [0, 4]) (by kernel_rfl) (by simp) ?_
       refine AllReadyH.cons rfl (fun KK hKK => ?_) (AllReadyH.cons rfl (fun KK hKK => ?_) AllReadyH.nil)
       · go_simp
         refine (newTag_is passS _).mono ?_
         rintro _ x0 ⟨rfl, hx0⟩
         have hnx0 : Below wr.drew.heap.size wr.drew x0 := by rw [hx0]; exact (Below.refl _ _).alloc (Nat.le_refl _) _
         have hg : Has x0 wr.drew.heap.size 188 (tag0 passS).toArray := by rw [hx0]; exact Has.new _ _ _
         have hgb : wr.heap.size ≤ wr.drew.heap.size := hbw.size
         obtain ⟨G, hG⟩ : ∃ g, g = wr.drew.heap.size := ⟨_, rfl⟩
         first | rw [← hG] | (have hq : wr.heap.size = G := hG.symm; rw [hq]; clear hq)
         rw [← hG] at hg
         rw [← hG] at hgb
         clear hG
         replace hbw : Below wr.heap.size wr x0 := hbw.trans (hnx0.mono hbw.size)
         try replace hp := hp.below hnx0 hp.lt
         clear hx0
         refine Shut.out hKK _ _ trivial (fun hH1 => ?_)
         clear hKK KK
         try simp only [Act.put, qa]
         refine wpAnyH_ready (rs := [4]) (by kernel_rfl) (by simp) ?_
         refine AllReadyH.cons rfl (fun KK hKK => ?_) AllReadyH.nil
         refine step_buildN rfl 159 111 2 _ rfl _ 1 24 Tryd.underlying159 info_slice [.tmp 42, .tmp 44] rfl [.slice oa7 u oc7, .slice (some ⟨B, 0, none⟩) 32 32] rfl (by simp [Value.cells]) rfl rfl (by decide) (by decide) (by decide) ?_
         obtain ⟨x4, hx4⟩ : ∃ y, y = x0.alloc (.cells #[.slice oa7 u oc7, .slice (some ⟨B, 0, none⟩) 32 32] 111) := ⟨_, rfl⟩
         first | rw [← hx4] | (change KK _ (x0.alloc (.cells #[.slice oa7 u oc7, .slice (some ⟨B, 0, none⟩) 32 32] 111)); rw [← hx4])
         have hnx4 : Below x0.heap.size x0 x4 := by rw [hx4]; exact (Below.refl _ _).alloc (Nat.le_refl _) _
         have hp : Has x4 x0.heap.size 111 #[.slice oa7 u oc7, .slice (some ⟨B, 0, none⟩) 32 32] := by rw [hx4]; exact Has.new _ _ _
         have hpb : wr.heap.size ≤ x0.heap.size := hbw.size
         obtain ⟨R, hR⟩ : ∃ g, g = x0.heap.size := ⟨_, rfl⟩
         first | rw [← hR] | (have hq : wr.heap.size = R := hR.symm; rw [hq]; clear hq)
         rw [← hR] at hp
         rw [← hR] at hpb
         clear hR
         replace hbw : Below wr.heap.size wr x4 := hbw.trans (hnx4.mono hbw.size)
         try replace hg := hg.below hnx4 hg.lt
         clear hx4
         refine Shut.out hKK _ _ trivial (fun hH2 => ?_)
         clear hKK KK
         try simp only [Act.put, qa]
         refine wpAnyH_ready (rs := [5]) (by kernel_rfl) (by simp) ?_
         refine AllReadyH.cons rfl (fun KK hKK => ?_) AllReadyH.nil
         go_simp
         have hp2 := hp.ne hg (by decide)
         have hb0 := HBYT.out.alive hbw hgb
         have hb1 := HH.out _ hbw G hgb
         have hsum := tagSum_is K s0 _ (HTB.out _ (HBX.out.trans (hbw.mono HBX.out.size))) G passS (by decide) (Nat.le_trans (HTB.out W1 (Below.refl _ _)).low (Nat.le_trans HBX.out.size hgb)) hg _ [b0 ++ eight sp.s, sp.h] (partsN_two (w3 := x4) hp hb0 hb1 hp2) HLQ.out (by simp)
         rw [HFL.out] at hsum
         unfold arr at hsum
         rw [← HLD.out] at hsum
         refine hsum.mono ?_
         rintro _ xa ⟨rfl, hka⟩
         replace hbw : Below wr.heap.size wr xa := hbw.trans (hka.below hbw.size (fun j e => by have e' : j = G := e; omega))
         have h2r := H2X.out.below hbw H2X.out.lt
         clear hsum hb0 hb1 hka
         refine Shut.out hKK _ _ trivial (fun hH3 => ?_)
         clear hKK KK
         try simp only [Act.put, qa]
         refine wpAnyH_ready (rs := [6]) (by kernel_rfl) (by simp) ?_
         refine AllReadyH.cons rfl (fun KK hKK => ?_) AllReadyH.nil
         refine step_store_mid rfl 39 (.tmp 4) (.tmp 46) rfl (B + 1) 0 LD.toArray rfl rfl (h2r.there 0 _ (by rw [List.size_toArray, SZ2.out, List.size_toArray]; exact Nat.le_of_eq (Nat.zero_add _))) SZ.out ONE.out ?_
         have hfull : Below B w xa := HB1.out.trans ((HBX.out.trans (hbw.mono HBX.out.size)).mono (Nat.le_of_lt H1.out.lt))
         have hset := set_box hfull h2r (Nat.le_succ B) (Nat.le_of_lt (Nat.lt_of_succ_lt h2r.lt)) (by rw [SZ2.out, List.size_toArray])
         obtain ⟨xb, hxb⟩ : ∃ y, y = xa.setCells (B + 1) 0 LD := ⟨_, rfl⟩
         rw [← hxb] at hset
         change KK _ (xa.setCells (B + 1) 0 LD)
         rw [← hxb]
         clear hxb hfull hbw
         refine Shut.out hKK _ _ trivial (fun hH4 => ?_)
         clear hKK KK
         try simp only [Act.put, qa]
         refine wpAnyH_done (by kernel_rfl) ?_ _
         refine NoPanic.normal ?_
         have HF := Lib.hid hset.2.1
         have HBF := Lib.hid hset.1
         clear hset
         go_wp2_with fail
         refine bodyPost_ret (results_cell_row rfl _ _ (B + 1) 39 LD.toArray (0, 0) _ rfl HF.out Tryd.underlying39 rfl SZ.out) rfl ?_
         exact ⟨rfl, by have := HBF.out; rwa [HBQ.out] at this⟩
       · refine step_buildN rfl 159 111 2 _ rfl _ 1 24 Tryd.underlying159 info_slice [.tmp 42, .tmp 44] rfl [.slice oa7 u oc7, .slice (some ⟨B, 0, none⟩) 32 32] rfl (by simp [Value.cells]) rfl rfl (by decide) (by decide) (by decide) ?_
         obtain ⟨x4, hx4⟩ : ∃ y, y = wr.drew.alloc (.cells #[.slice oa7 u oc7, .slice (some ⟨B, 0, none⟩) 32 32] 111) := ⟨_, rfl⟩
         first | rw [← hx4] | (change KK _ (wr.drew.alloc (.cells #[.slice oa7 u oc7, .slice (some ⟨B, 0, none⟩) 32 32] 111)); rw [← hx4])
         have hnx4 : Below wr.drew.heap.size wr.drew x4 := by rw [hx4]; exact (Below.refl _ _).alloc (Nat.le_refl _) _
         have hp : Has x4 wr.drew.heap.size 111 #[.slice oa7 u oc7, .slice (some ⟨B, 0, none⟩) 32 32] := by rw [hx4]; exact Has.new _ _ _
         have hpb : wr.heap.size ≤ wr.drew.heap.size := hbw.size
         obtain ⟨R, hR⟩ : ∃ g, g = wr.drew.heap.size := ⟨_, rfl⟩
         first | rw [← hR] | (have hq : wr.heap.size = R := hR.symm; rw [hq]; clear hq)
         rw [← hR] at hp
         rw [← hR] at hpb
         clear hR
         replace hbw : Below wr.heap.size wr x4 := hbw.trans (hnx4.mono hbw.size)
         try replace hg := hg.below hnx4 hg.lt
         clear hx4
         refine Shut.out hKK _ _ trivial (fun hH1 => ?_)
         clear hKK KK
         try simp only [Act.put, qa]
         refine wpAnyH_ready (rs := [0]) (by kernel_rfl) (by simp) ?_
         refine AllReadyH.cons rfl (fun KK hKK => ?_) AllReadyH.nil
         go_simp
         refine (newTag_is passS _).mono ?_
         rintro _ x0 ⟨rfl, hx0⟩
         have hnx0 : Below x4.heap.size x4 x0 := by rw [hx0]; exact (Below.refl _ _).alloc (Nat.le_refl _) _
         have hg : Has x0 x4.heap.size 188 (tag0 passS).toArray := by rw [hx0]; exact Has.new _ _ _
         have hgb : wr.heap.size ≤ x4.heap.size := hbw.size
         obtain ⟨G, hG⟩ : ∃ g, g = x4.heap.size := ⟨_, rfl⟩
         first | rw [← hG] | (have hq : wr.heap.size = G := hG.symm; rw [hq]; clear hq)
         rw [← hG] at hg
         rw [← hG] at hgb
         clear hG
         replace hbw : Below wr.heap.size wr x0 := hbw.trans (hnx0.mono hbw.size)
         try replace hp := hp.below hnx0 hp.lt
         clear hx0
         refine Shut.out hKK _ _ trivial (fun hH2 => ?_)
         clear hKK KK
         try simp only [Act.put, qa]
         refine wpAnyH_ready (rs := [5]) (by kernel_rfl) (by simp) ?_
         refine AllReadyH.cons rfl (fun KK hKK => ?_) AllReadyH.nil
         go_simp
         have hp2 := hp.ne hg (by decide)
         have hb0 := HBYT.out.alive hbw hgb
         have hb1 := HH.out _ hbw G hgb
         have hsum := tagSum_is K s0 _ (HTB.out _ (HBX.out.trans (hbw.mono HBX.out.size))) G passS (by decide) (Nat.le_trans (HTB.out W1 (Below.refl _ _)).low (Nat.le_trans HBX.out.size hgb)) hg _ [b0 ++ eight sp.s, sp.h] (partsN_two (w3 := x0) hp hb0 hb1 hp2) HLQ.out (by simp)
         rw [HFL.out] at hsum
         unfold arr at hsum
         rw [← HLD.out] at hsum
         refine hsum.mono ?_
         rintro _ xa ⟨rfl, hka⟩
         replace hbw : Below wr.heap.size wr xa := hbw.trans (hka.below hbw.size (fun j e => by have e' : j = G := e; omega))
         have h2r := H2X.out.below hbw H2X.out.lt
         clear hsum hb0 hb1 hka
         refine Shut.out hKK _ _ trivial (fun hH3 => ?_)
         clear hKK KK
         try simp only [Act.put, qa]
         refine wpAnyH_ready (rs := [6]) (by kernel_rfl) (by simp) ?_
         refine AllReadyH.cons rfl (fun KK hKK => ?_) AllReadyH.nil
         refine step_store_mid rfl 39 (.tmp 4) (.tmp 46) rfl (B + 1) 0 LD.toArray rfl rfl (h2r.there 0 _ (by rw [List.size_toArray, SZ2.out, List.size_toArray]; exact Nat.le_of_eq (Nat.zero_add _))) SZ.out ONE.out ?_
         have hfull : Below B w xa := HB1.out.trans ((HBX.out.trans (hbw.mono HBX.out.size)).mono (Nat.le_of_lt H1.out.lt))
         have hset := set_box hfull h2r (Nat.le_succ B) (Nat.le_of_lt (Nat.lt_of_succ_lt h2r.lt)) (by rw [SZ2.out, List.size_toArray])
         obtain ⟨xb, hxb⟩ : ∃ y, y = xa.setCells (B + 1) 0 LD := ⟨_, rfl⟩
         rw [← hxb] at hset
         change KK _ (xa.setCells (B + 1) 0 LD)
         rw [← hxb]
         clear hxb hfull hbw
         refine Shut.out hKK _ _ trivial (fun hH4 => ?_)
         clear hKK KK
         try simp only [Act.put, qa]
         refine wpAnyH_done (by kernel_rfl) ?_ _
         refine NoPanic.normal ?_
         have HF := Lib.hid hset.2.1
         have HBF := Lib.hid hset.1
         clear hset
         go_wp2_with fail
         refine bodyPost_ret (results_cell_row rfl _ _ (B + 1) 39 LD.toArray (0, 0) _ rfl HF.out Tryd.underlying39 rfl SZ.out) rfl ?_
         exact ⟨rfl, by have := HBF.out; rwa [HBQ.out] at this⟩
end Go.Proofs.YtniakgoefkbkhaaDoor

