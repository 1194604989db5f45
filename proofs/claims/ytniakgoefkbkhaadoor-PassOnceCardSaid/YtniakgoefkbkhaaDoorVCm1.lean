/- The walk of pass.Came. -/
import Derived.Test.YtniakgoefkbkhaaDoorWs
import Derived.Test.YtniakgoefkbkhaaDoorVWt1
namespace Go.Proofs.YtniakgoefkbkhaaDoor
set_option linter.unusedVariables false
set_option linter.unusedSimpArgs false
open Go.ChangeShapes Go.WideShapes Go.ChangeAt Go.RowKit Go.Maps

def OffV (w : World) (ov : Value) (al : List Nat → List Nat → List Nat → Bool) : Prop :=
 ∀ v, Below w.heap.size w v → ∀ ow wh t, IsHash ow → IsHash wh → IsHash t → Calls Tryd.prog 64 #[ov, arr ow, arr wh, arr t] v fun e w' => e = .returned (.bool (al ow wh t)) ∧ Below v.heap.size v w'
theorem offV_some {w : World} {g mb : Nat} {gs : List Gave} {n : Int} (h : OfficeAt w g mb gs n) : OffV w (.pointer (some ⟨g, 0, none⟩)) (allowedG gs) :=
 fun v hv ow wh t h1 h2 h3 => tkAllowed_is v g mb gs n (h.below hv) ow wh t h1 h2 h3
theorem OffV.below {w w' : World} {ov : Value} {al : List Nat → List Nat → List Nat → Bool} (h : OffV w ov al) (hb : Below w.heap.size w w') : OffV w' ov al := fun v hv => h v (hb.trans (hv.mono hb.size))
theorem pt_fst {tx : List Nat} (h : IsHash tx) (out : Int) : ((ptCells tx out).drop 0).take 32 = bcells tx := by
 rw [List.drop_zero, ptCells, List.take_append_of_le_length (by rw [bcells_length, h.1]; exact Nat.le_refl _)]
 exact List.take_of_length_le (by rw [bcells_length, h.1]; exact Nat.le_refl _)
theorem pt_snd {tx : List Nat} (h : IsHash tx) (out : Int) : (ptCells tx out)[32]? = some (.int .i64 out) := by
 rw [ptCells, List.getElem?_append_right (by rw [bcells_length, h.1]; exact Nat.le_refl _), bcells_length, h.1]; rfl
theorem pt_fields : ∃ f0 f1, (Tryd.prog.fieldsOf 84).toList = [f0, f1] ∧ (f0.name ≠ "_" ∧ f0.type = 39 ∧ f0.offset = 0) ∧ (f1.name ≠ "_" ∧ f1.type = 3 ∧ f1.offset = 32) := by
 unfold Program.fieldsOf
 rw [Tryd.underlying84]
 exact ⟨_, _, rfl, ⟨by decide, rfl, rfl⟩, ⟨by decide, rfl, rfl⟩⟩
theorem pt_struct : Tryd.prog.underlying 84 = some (.struct (Tryd.prog.fieldsOf 84)) := by
 unfold Program.fieldsOf
 rw [Tryd.underlying84]
theorem pt_eq {a c : List Nat} (ha : IsHash a) (hc : IsHash c) (b d : Int) (w : World) : (Op.equalIn 10000 84 (.agg (ptCells a b).toArray) (.agg (ptCells c d).toArray)).run Tryd.prog w = .ok (decide (a = c ∧ b = d)) w := by
 obtain ⟨f0, f1, hf, ⟨n0, t0, o0⟩, ⟨n1, t1, o1⟩⟩ := pt_fields
 rw [run_equalIn_struct w 9999 84 _ _ pt_struct (by kernel_rfl), hf,
   eqF_any n0 (le_hash t0 (off := f0.offset) (by rw [o0]; exact pt_fst ha b) w) (le_hash t0 (off := f0.offset) (by rw [o0]; exact pt_fst hc d) w) (le_heq t0 9997 ha hc w),
   eqF_any n1 (lq_num t1 Tryd.underlying3 (off := f1.offset) (by rw [o1]; exact pt_snd ha b) w) (lq_num t1 Tryd.underlying3 (off := f1.offset) (by rw [o1]; exact pt_snd hc d) w) (lq_eq t1 Tryd.underlying3 9998 _ _ w), eqF_nil]
 by_cases h1 : a = c
 · by_cases h2 : b = d
   · simp [h1, h2]
   · simp [h1, h2]
 · simp [h1]
theorem cut_froms (b o n c k : Nat) (hc : 0 < c) (hk : k ≤ c) (hk2 : k ≤ 9223372036854775807) (v : World) : (Instr.slice 68 (.slice (some ⟨b, o, none⟩) n c) none (some (.int .i64 (k : Int))) none).run Tryd.prog v = .ok (.slice (some ⟨b, o, none⟩) k c) v := by
 have hu : Tryd.prog.underlying 68 = some (.slice (Tryd.prog.elem 68)) := by kernel_rfl
 have he : Tryd.prog.elem 68 = 86 := by kernel_rfl
 have hz : ∀ w, (sizeOf 86).run Tryd.prog w = .ok 164 w := fun w => by kernel_rfl
 rw [run_slice_h v 68 _ n c hu .i64 (k : Int) (by omega) (by omega), he, hz]
 simp only [Result.andThen, sliced, Int.toNat_natCast, Nat.zero_mul, Nat.sub_zero]
 rw [if_neg (by omega), Option.map_some, Addr.add_mid]
 rfl
theorem any_take {α : Type} (p : α → Bool) {l : List α} {j : Nat} {x : α} (h : l[j]? = some x) : (l.take (j + 1)).any p = ((l.take j).any p || p x) := by
 rw [List.take_add_one, h]
 simp
theorem any_take_of {α : Type} (p : α → Bool) {l : List α} {j k : Nat} (hjk : j ≤ k) (h : (l.take j).any p = true) : (l.take k).any p = true := by
 rw [List.any_eq_true] at h ⊢
 obtain ⟨x, hx, hp⟩ := h
 refine ⟨x, ?_, hp⟩
 have e : l.take j = (l.take k).take j := by rw [List.take_take]; congr 1; omega
 rw [e] at hx
 exact List.mem_of_mem_take hx
theorem hash_eqW (a b : List Nat) (ha : IsHash a) (hb : IsHash b) (w : World) : (Op.equalIn 10000 39 (.agg (bcells a).toArray) (.agg (bcells b).toArray)).run Tryd.prog w = .ok (decide (a = b)) w := le_heq rfl 9998 ha hb w
theorem boxes_came (w : World) (LI LN : List Value) : ∃ W1, W1 = (((w.alloc (.cells LI.toArray 39))).alloc (.cells LN.toArray 79)) ∧
   Has W1 (w.heap.size) 39 LI.toArray ∧ Has W1 (w.heap.size + 1) 79 LN.toArray ∧ Below w.heap.size w W1 := by
 refine ⟨_, rfl, ?_, ?_, ?_⟩
 · have := Has.new w 39 LI.toArray
   exact (this).alloc _
 · have := Has.new (w.alloc (.cells LI.toArray 39)) 79 LN.toArray
   exact (by simpa using this : Has _ (w.heap.size + 1) _ _)
 · exact ((Below.refl _ _).alloc (Nat.le_refl _) _).alloc (by simp) _
theorem from_leaf {w : World} {G : Nat} {f : FromT} (hf : f.ok) (h : Has w G 86 f.cells.toArray) : w.rangeAt G 33 f.l.cells := fun j u hu => by
 have hj : j < 99 := by have := (List.getElem?_eq_some_iff.1 hu).1; rw [LeafT.len hf.l] at this; exact this
 exact h.cell_is (by rw [List.getElem?_toArray, FromT.at_leaf hf j hj]; exact hu)
theorem from_pt {w : World} {G : Nat} {f : FromT} (hf : f.ok) (h : Has w G 86 f.cells.toArray) : w.rangeAt G 0 (ptCells f.tx f.out) := fun j u hu => by
 have hj : j < 33 := by have := (List.getElem?_eq_some_iff.1 hu).1; rw [pt_len hf.tx] at this; exact this
 rw [Nat.zero_add]
 exact h.cell_is (by rw [List.getElem?_toArray, FromT.at_pt hf j hj]; exact hu)
theorem from_tok {w : World} {G : Nat} {f : FromT} (hf : f.ok) (h : Has w G 86 f.cells.toArray) : w.rangeAt G 132 (bcells f.tok) := fun j u hu => by
 have hj : j < 32 := by have := (List.getElem?_eq_some_iff.1 hu).1; rw [bcells_length, hf.tok.1] at this; exact this
 exact h.cell_is (by rw [List.getElem?_toArray, FromT.at_tok hf j hj]; exact hu)
theorem from_id {w : World} {G : Nat} {f : FromT} (hf : f.ok) (h : Has w G 86 f.cells.toArray) : w.rangeAt G 33 (bcells f.l.id) := fun j u hu => by
 have hj : j < 32 := by have := (List.getElem?_eq_some_iff.1 hu).1; rw [bcells_length, hf.l.id.1] at this; exact this
 have e := from_leaf hf h j _ (LeafT.at_id hf.l j hj)
 rw [e, ← hu, bcells_get _ j (by rw [hf.l.id.1]; exact hj)]
theorem from_ow {w : World} {G : Nat} {f : FromT} (hf : f.ok) (h : Has w G 86 f.cells.toArray) : w.rangeAt G 66 (bcells f.l.ow) := fun j u hu => by
 have hj : j < 32 := by have := (List.getElem?_eq_some_iff.1 hu).1; rw [bcells_length, hf.l.ow.1] at this; exact this
 have e := from_leaf hf h (33 + j) _ (LeafT.at_ow hf.l j hj)
 rw [show 33 + (33 + j) = 66 + j by omega] at e
 rw [e, ← hu, bcells_get _ j (by rw [hf.l.ow.1]; exact hj)]
theorem from_am {w : World} {G : Nat} {f : FromT} (hf : f.ok) (h : Has w G 86 f.cells.toArray) : w.cell? ⟨G, 65, none⟩ = some (.int .u64 (f.l.am : Int)) :=
 from_leaf hf h 32 _ (LeafT.at_am hf.l)
set_option maxRecDepth 100000 in
set_option maxHeartbeats 4000000 in
theorem psCame_is (K s0 : List Wd) (w : World) (hT : Tabs K s0 w) (ov : Value) (al : List Nat → List Nat → List Nat → Bool) (hO : OffV w ov al) (id : List Nat) (hid : IsHash id) (A : Option Addr) (n c : Nat) (fs : List FromT) (hfs : RowsAt FromT.cells 164 w A n fs) (hok : ∀ f ∈ fs, f.ok) (hnc : n ≤ c) (hn : n ≤ 9223372036854775807) (sp : Nd) (hsh : IsHash sp.h) (hss : sp.s < 18446744073709551616) :
   Calls Tryd.prog 31 #[ov, arr id, .slice A n c, .agg (ndV sp).toArray] w fun e w' => e = .returned (.int .i64 (cameE K s0 (fun f => al f.l.ow (whatK K s0 fs sp) f.tok) id fs sp)) ∧ Below w.heap.size w w' := by
 obtain ⟨zk, hzk, hzs, hzn⟩ := zero_hashT
 obtain ⟨zf, hzf, hzfs, hzfn⟩ := zero_from
 obtain ⟨LN, hLN⟩ : ∃ L, L = ndV sp := ⟨_, rfl⟩
 obtain ⟨LI, hLI⟩ : ∃ L, L = bcells id := ⟨_, rfl⟩
 obtain ⟨D, hD⟩ : ∃ D, D = whatK K s0 fs sp := ⟨_, rfl⟩
 have hph : IsHash D := by rw [hD]; exact tagD_hash K s0 hT.len _ _
 obtain ⟨LD, hLD⟩ : ∃ L, L = bcells D := ⟨_, rfl⟩
 unfold arr
 rw [← hLN, ← hLI, ← hD]
 obtain ⟨fa, hfa⟩ : ∃ g : FromT → Bool, g = fun f => al f.l.ow D f.tok := ⟨_, rfl⟩
 rw [← hfa]
 have hlow := hT.low
 have HT := Lib.hid hT
 have HO := Lib.hid hO
 have HFS := Lib.hid hfs
 have HOK := Lib.hid hok
 have HLEN := Lib.hid hfs.len
 have HLN := Lib.hid hLN
 have HLI := Lib.hid hLI
 have HID := Lib.hid hid
 have HD := Lib.hid hD
 have HLD := Lib.hid hLD
 have HPH := Lib.hid hph
 have HSP := Lib.hid (And.intro hsh hss)
 have HAT := Lib.hid at_from
 have HFA := Lib.hid hfa
 have hll : LD.length = 32 := by rw [hLD, bcells_length, hph.1]
 have SZ := Lib.hid (show (Tryd.prog.info? 39).map (·.size) = some LD.toArray.size by rw [List.size_toArray, hll]; kernel_rfl)
 have SZD := Lib.hid (show (Tryd.prog.info? 39).map (·.size) = some LD.length by rw [hll]; kernel_rfl)
 have SZN := Lib.hid (show (Tryd.prog.info? 79).map (·.size) = some LN.toArray.size by rw [List.size_toArray, hLN, ndV_len hsh]; kernel_rfl)
 have SZI := Lib.hid (show (Tryd.prog.info? 39).map (·.size) = some LI.length by rw [hLI, bcells_length, hid.1]; kernel_rfl)
 have SZH := Lib.hid (show ∀ d : List Nat, IsHash d → (Tryd.prog.info? 39).map (·.size) = some (bcells d).length from fun d hd => by rw [bcells_length, hd.1]; kernel_rfl)
 have SZ2 := Lib.hid (show zk.size = LD.toArray.size by rw [hzs, List.size_toArray, hll])
 have HZF := Lib.hid hzfs
 have SZF := Lib.hid (show ∀ f : FromT, f.ok → (Tryd.prog.info? 86).map (·.size) = some f.cells.length from fun f hf => by rw [FromT.len hf]; kernel_rfl)
 have SZLF := Lib.hid (show ∀ f : FromT, f.ok → (Tryd.prog.info? 81).map (·.size) = some f.l.cells.length from fun f hf => by rw [LeafT.len hf.l]; kernel_rfl)
 have SZPT := Lib.hid (show ∀ f : FromT, f.ok → (Tryd.prog.info? 84).map (·.size) = some (ptCells f.tx f.out).length from fun f hf => by rw [pt_len hf.tx]; kernel_rfl)
 have ONE := Lib.hid (show LD.toArray.all (·.oneCell') = true by rw [hLD]; exact all_oneCell_toArray (bcells_one D))
 clear hT hO hfs hok hLN hLI hid hD hLD hph hzs hzfs hsh hss hll hfa
 go_enter Tryd.func31, Tryd.ntmps31
 go_upto_region 1 with (fail)
 obtain ⟨W1, hW1, h1, h2, hb1⟩ := boxes_came w LI LN
 rw [← hW1]
 clear hW1
 have HTB := Lib.hid (show ∀ v : World, Below W1.heap.size W1 v → Tabs K s0 v from fun v hv => HT.out.below (hb1.trans (hv.mono hb1.size)) hlow)
 have HF1 := Lib.hid (HFS.out.below hb1)
 have HO1 := Lib.hid (HO.out.below hb1)
 obtain ⟨B, hB⟩ : ∃ b, b = w.heap.size := ⟨_, rfl⟩
 rw [← hB] at h1 h2 hb1 hlow ⊢
 have HBQ := Lib.hid hB
 have H1 := Lib.hid h1
 have H2 := Lib.hid h2
 have HB1 := Lib.hid hb1
 have HL8 := Lib.hid HT.out.len
 have HFINB := Lib.hid (show ∀ v, Below W1.heap.size W1 v → Below w.heap.size w v from fun v hv => by have h := hb1.trans (hv.mono (Nat.le_of_lt h1.lt)); rwa [HBQ.out] at h)
 clear h1 h2 hb1 hB
 by_cases hn0 : n = 0
 · have hE : cameE K s0 fa id fs sp = 1 := by unfold cameE; rw [if_pos (by rw [HLEN.out]; exact hn0)]
   have hn0' : ((n : Int) == 0) = true := by rw [beq_iff_eq]; omega
   have HE1 := Lib.hid hE
   clear hn0 hE
   go_wp2_with fail
   go_ret
   exact ⟨by rw [HE1.out]; rfl, HFINB.out _ (Below.refl _ _)⟩
 have hn0' : ((n : Int) == 0) = false := by rw [beq_eq_false_iff_ne]; omega
 by_cases hn6 : 256 < n
 · have hE : cameE K s0 fa id fs sp = 4 := by unfold cameE; rw [if_neg (by rw [HLEN.out]; exact hn0), if_pos (by rw [HLEN.out]; exact hn6)]
   have hn6' : (n : Int) > 256 := by omega
   have HE4 := Lib.hid hE
   clear hn0 hn6 hE
   go_wp2_with fail
   go_ret
   exact ⟨by rw [HE4.out]; rfl, HFINB.out _ (Below.refl _ _)⟩
 have hn6' : ¬ (n : Int) > 256 := by omega
 have HE := Lib.hid (show cameE K s0 fa id fs sp = cameEnd sp (cameAt K s0 fa id fs n) by unfold cameE; rw [if_neg (by rw [HLEN.out]; exact hn0), if_neg (by rw [HLEN.out]; exact hn6), HLEN.out])
 have HN0 := Lib.hid (And.intro hn0 hn6)
 obtain ⟨sb, so, hA1, hA2, hrr⟩ := HF1.out.at_ (by omega)
 subst hA1
 have HRR := Lib.hid hrr
 have hcp : 0 < c := by omega
 have hcall := psWhat_is K s0 W1 (HTB.out W1 (Below.refl _ _)) (some ⟨sb, so, none⟩) n c fs HF1.out HOK.out (by omega) sp HSP.out.1 HSP.out.2
 unfold arr at hcall
 rw [← HLN.out, ← HD.out, ← HLD.out] at hcall
 have HCALL := Lib.hid hcall
 clear hcall hrr hn0 hn6 hA2
 go_wp2_with (refine wpList_load_row rfl 79 (.tmp 7) rfl (B + 1) rfl 79 LN.toArray (0, 0) _ H2.out Tryd.underlying79 rfl SZN.out ?_)
 refine HCALL.out.mono ?_
 rintro _ w5 ⟨rfl, hb5⟩
 have HNK := Lib.hid (show ∀ C, Has ((w5.alloc (.cells zk 39)).setRow w5.heap.size C) w5.heap.size 39 C ∧ Below w5.heap.size w5 ((w5.alloc (.cells zk 39)).setRow w5.heap.size C) from fun C => by
   rw [World.setRow_alloc_new]
   exact ⟨Has.new w5 _ _, (Below.refl _ _).alloc (Nat.le_refl _) _⟩)
 have HB5 := Lib.hid hb5
 clear hb5 HCALL
 go_upto_region 6 with (refine wpList_store_row rfl 39 (.tmp 9) (.tmp 28) rfl w5.heap.size LD.toArray rfl rfl 39 zk (heap_alloc_new w5 _) SZ.out SZ2.out ONE.out ?_)
 obtain ⟨h6, hk6⟩ := HNK.out LD.toArray
 have hb6 := HB5.out.trans (hk6.mono HB5.out.size)
 clear HNK hk6 HB5
 generalize (w5.alloc (.cells zk 39)).setRow w5.heap.size LD.toArray = W6 at h6 hb6 ⊢
 generalize w5.heap.size = G9 at h6 ⊢
 have HB6 := Lib.hid hb6
 have H6 := Lib.hid h6
 have H16 := Lib.hid (H1.out.below hb6 H1.out.lt)
 have H26 := Lib.hid (H2.out.below hb6 H2.out.lt)
 clear h6 hb6
 go_wp2_with fail
 go_loopw [10, 31] (fun sv iv wr => ∃ (k s : Nat), iv = .int .i64 (k : Int) ∧ k ≤ n ∧ sv = .int .u64 (s : Int) ∧ s < 18446744073709551616 ∧ cameAt K s0 fa id fs k = .ok s ∧ Below W6.heap.size W6 wr) (fun _ iv _ => n - (intOf iv).toNat)
 case atStart => exact ⟨0, 0, rfl, Nat.zero_le _, rfl, by decide, rfl, Below.refl _ _⟩
 case round =>
   obtain ⟨k, s, rfl, hk, rfl, hs64, hat0, hbel⟩ := hrel
   have HBE := Lib.hid hbel
   have HW1 := Lib.hid (show Below W1.heap.size W1 wr from HB6.out.trans (hbel.mono HB6.out.size))
   have HCA := Lib.hid hat0
   have HS64 := Lib.hid hs64
   clear hbel hat0 hs64
   by_cases hlt : k < n
   · have hlt' : (k : Int) < (n : Int) := by omega
     obtain ⟨f, hf⟩ : ∃ f, fs[k]? = some f := ⟨_, List.getElem?_eq_getElem (by rw [HLEN.out]; exact hlt)⟩
     have hfok := HOK.out f (List.mem_of_getElem? hf)
     have hrw := rangeAt_kept (HRR.out k f hf) (Kept.of_below (S := fun _ => False) HW1.out) (fun h => h)
     obtain ⟨FC, hFC⟩ : ∃ L, L = f.cells := ⟨_, rfl⟩
     rw [← hFC] at hrw
     have hfl : FC.length = 164 := by rw [hFC]; exact FromT.len hfok
     have HRW := Lib.hid hrw
     have SZ1 := Lib.hid (show (Tryd.prog.info? 86).map (·.size) = some FC.length by rw [hFC]; exact SZF.out f hfok)
     have SZA := Lib.hid (show (Tryd.prog.info? 86).map (·.size) = some FC.toArray.size by rw [List.size_toArray]; exact SZ1.out)
     have HZZ := Lib.hid (show zf.size = FC.toArray.size by rw [HZF.out, List.size_toArray, hfl])
     have HONE := Lib.hid (show FC.toArray.all (·.oneCell') = true by rw [hFC]; exact FromT.one f)
     have HNW := Lib.hid (show ∀ C, Has ((wr.alloc (.cells zf 86)).setRow wr.heap.size C) wr.heap.size 86 C ∧ Below wr.heap.size wr ((wr.alloc (.cells zf 86)).setRow wr.heap.size C) from fun C => by
       rw [World.setRow_alloc_new]
       exact ⟨Has.new wr _ _, (Below.refl _ _).alloc (Nat.le_refl _) _⟩)
     have HFOK := Lib.hid hfok
     have HF := Lib.hid hf
     have EFC := Lib.hid hFC
     have hat := HAT.out sb so n c k hlt
     clear hrw hfl hfok hf hFC
     go_upto_region 10 with (first
       | (refine wpList_load_mid rfl 86 (.tmp 34) rfl sb (so + k * 164) rfl FC _ HRW.out Tryd.underlying86 rfl SZ1.out ?_)
       | (refine wpList_store_row rfl 86 (.tmp 12) (.tmp 35) rfl wr.heap.size FC.toArray rfl rfl 86 zf (heap_alloc_new wr _) SZA.out HZZ.out HONE.out ?_))
     obtain ⟨h3, hk3⟩ := HNW.out FC.toArray
     have hb3 := HBE.out.trans (hk3.mono HBE.out.size)
     clear HNW hk3 hat
     generalize (wr.alloc (.cells zf 86)).setRow wr.heap.size FC.toArray = W9 at h3 hb3 ⊢
     generalize wr.heap.size = G at h3 ⊢
     have HB3 := Lib.hid hb3
     rw [EFC.out] at h3
     have H3 := Lib.hid h3
     obtain ⟨LC, hLC⟩ : ∃ L, L = f.l.cells := ⟨_, rfl⟩
     have HR9 := Lib.hid (show W9.rangeAt G 33 LC by rw [hLC]; exact from_leaf HFOK.out h3)
     have SZL := Lib.hid (show (Tryd.prog.info? 81).map (·.size) = some LC.length by rw [hLC]; exact SZLF.out f HFOK.out)
     have HCK := Lib.hid (show ∀ v, Calls Tryd.prog 63 #[.agg LC.toArray] v fun e w' => e = .returned (.int .i64 (leafE f.l)) ∧ w' = v.alloc (.cells LC.toArray 81) from fun v => by rw [hLC]; exact leafCheck_is v f.l HFOK.out.l)
     have ELC := Lib.hid hLC
     have HNX := Lib.hid (cameAt_succ HCA.out HF.out)
     clear h3 hb3 hLC
     go_wp2_with (refine wpList_load_mid rfl 81 (.tmp 36) rfl G 33 rfl LC _ HR9.out Tryd.underlying81 rfl SZL.out ?_)
     refine (HCK.out _).mono ?_
     rintro _ w10 ⟨rfl, hw10⟩
     have hn10 : Below W9.heap.size W9 w10 := by rw [hw10]; exact (Below.refl _ _).alloc (Nat.le_refl _) _
     have HB10 := Lib.hid (HB3.out.trans (hn10.mono HB3.out.size))
     have H310 := Lib.hid (H3.out.below hn10 H3.out.lt)
     have HFE := Lib.hid (show ∀ e v, cameStep K s0 fa id (fs.take k) f s = .error e → Below W6.heap.size W6 v → Below w.heap.size w v ∧ cameE K s0 fa id fs sp = e from fun e v he hv => ⟨HFINB.out v (HB6.out.trans (hv.mono HB6.out.size)), by
       rw [HE.out, cameAt_err (by rw [HNX.out]; exact he) n (by omega)]; rfl⟩)
     clear hw10 hn10 HCK HR9
     cases hbad : leafBad f.l with
     | true =>
       have he1 : leafE f.l = 1 := by unfold leafE; rw [hbad]; rfl
       obtain ⟨q1, q2⟩ := HFE.out 1 w10 (by unfold cameStep; rw [if_pos hbad]) HB10.out
       have Q1 := Lib.hid (And.intro q1 q2)
       rw [he1]
       clear hbad he1 q1 q2
       go_wp2_with fail
       go_ret
       exact ⟨by rw [Q1.out.2]; rfl, Q1.out.1⟩
     | false =>
     have he1 : leafE f.l = 0 := by unfold leafE; rw [hbad]; rfl
     rw [he1]
     have HBAD := Lib.hid hbad
     have HR13 := Lib.hid (from_id HFOK.out H310.out)
     have HI10 := Lib.hid (H16.out.below HB10.out H16.out.lt).row0
     have heqi : ∀ v, (Op.equalIn 10000 39 (.agg (bcells f.l.id).toArray) (.agg LI.toArray)).run Tryd.prog v = .ok (decide (f.l.id = id)) v := fun v => by rw [HLI.out]; exact hash_eqW _ _ HFOK.out.l.id HID.out v
     obtain ⟨qi, hqi⟩ : ∃ q, q = decide (f.l.id = id) := ⟨_, rfl⟩
     rw [← hqi] at heqi
     have HQI := Lib.hid hqi
     clear hbad he1 hqi
     cases qi with
     | false =>
       have hne : f.l.id ≠ id := of_decide_eq_false HQI.out.symm
       obtain ⟨q1, q2⟩ := HFE.out 21 w10 (by unfold cameStep; rw [if_neg (by rw [HBAD.out]; decide), if_pos hne]) HB10.out
       have Q1 := Lib.hid (And.intro q1 q2)
       clear hne q1 q2
       go_wp2_with (first
         | (refine wpList_load_mid rfl 39 (.tmp 43) rfl G 33 rfl (bcells f.l.id) _ HR13.out Tryd.underlying39 rfl (SZH.out _ HFOK.out.l.id) ?_)
         | (refine wpList_load_mid rfl 39 (.tmp 5) rfl B 0 rfl LI _ HI10.out Tryd.underlying39 rfl SZI.out ?_))
       go_ret
       exact ⟨by rw [Q1.out.2]; rfl, Q1.out.1⟩
     | true =>
     have HIE := Lib.hid (show f.l.id = id from of_decide_eq_true HQI.out.symm)
     have hslice := cut_froms sb so n c k hcp (by omega) (by omega)
     go_upto_region 15 with (first
       | (refine wpList_load_mid rfl 39 (.tmp 43) rfl G 33 rfl (bcells f.l.id) _ HR13.out Tryd.underlying39 rfl (SZH.out _ HFOK.out.l.id) ?_)
       | (refine wpList_load_mid rfl 39 (.tmp 5) rfl B 0 rfl LI _ HI10.out Tryd.underlying39 rfl SZI.out ?_))
     have HJF := Lib.hid (show ∀ o : FromT, o.ok → ∀ v, (Op.equalIn 10000 84 (.agg (ptCells o.tx o.out).toArray) (.agg (ptCells f.tx f.out).toArray)).run Tryd.prog v = .ok (decide (o.tx = f.tx ∧ o.out = f.out)) v from fun o ho v => pt_eq ho.tx HFOK.out.tx _ _ v)
     obtain ⟨KF, hKF⟩ : ∃ L, L = keyK K s0 f.l := ⟨_, rfl⟩
     have HKF := Lib.hid hKF
     have HKH := Lib.hid (show ∀ l : LeafT, IsHash (keyK K s0 l) from fun l => key_hash K s0 HL8.out l)
     obtain ⟨pr, hpr⟩ : ∃ p : FromT → Bool, p = fun o => decide ((o.tx = f.tx ∧ o.out = f.out) ∧ keyK K s0 o.l = keyK K s0 f.l) := ⟨_, rfl⟩
     have HPR := Lib.hid hpr
     have HTW := Lib.hid (show twice K s0 (fs.take k) f = (fs.take k).any pr by rw [hpr]; rfl)
     have HT10 := Lib.hid (show ∀ v, Below w10.heap.size w10 v → Tabs K s0 v from fun v hv => HTB.out v (HB6.out.trans ((HB10.out.trans (hv.mono HB10.out.size)).mono HB6.out.size)))
     have HR10 := Lib.hid (show ∀ v, Below w10.heap.size w10 v → ∀ (j : Nat) (o : FromT), fs[j]? = some o → v.rangeAt sb (so + j * 164) o.cells from fun v hv j o ho => rangeAt_kept (HRR.out j o ho) (Kept.of_below (S := fun _ => False) (HB6.out.trans ((HB10.out.trans (hv.mono HB10.out.size)).mono HB6.out.size))) (fun h => h))
     have hck : k ≤ c := by omega
     clear hKF hpr heqi HR13 HI10 hslice
     go_wp2_with fail
     go_loopw [51] (fun jv wx => ∃ j : Nat, jv = .int .i64 (j : Int) ∧ j ≤ k ∧ (fs.take j).any pr = false ∧ Below w10.heap.size w10 wx) (fun jv _ => k - (intOf jv).toNat)
     case atStart => exact ⟨0, rfl, Nat.zero_le _, rfl, Below.refl _ _⟩
     case round =>
       obtain ⟨j, rfl, hj, hany, hbj⟩ := hrel
       have HBJ := Lib.hid hbj
       have HANY := Lib.hid hany
       clear hbj hany
       by_cases hjk : j < k
       · have hjk' : (j : Int) < (k : Int) := by omega
         obtain ⟨o, ho⟩ : ∃ o, fs[j]? = some o := ⟨_, List.getElem?_eq_getElem (by rw [HLEN.out]; omega)⟩
         have hook := HOK.out o (List.mem_of_getElem? ho)
         have hrwo := HR10.out wr HBJ.out j o ho
         obtain ⟨OC, hOC⟩ : ∃ L, L = o.cells := ⟨_, rfl⟩
         rw [← hOC] at hrwo
         have hol : OC.length = 164 := by rw [hOC]; exact FromT.len hook
         have HRWO := Lib.hid hrwo
         have SZO1 := Lib.hid (show (Tryd.prog.info? 86).map (·.size) = some OC.length by rw [hOC]; exact SZF.out o hook)
         have SZOA := Lib.hid (show (Tryd.prog.info? 86).map (·.size) = some OC.toArray.size by rw [List.size_toArray]; exact SZO1.out)
         have HZZO := Lib.hid (show zf.size = OC.toArray.size by rw [HZF.out, List.size_toArray, hol])
         have HONEO := Lib.hid (show OC.toArray.all (·.oneCell') = true by rw [hOC]; exact FromT.one o)
         have HNWO := Lib.hid (show ∀ C, Has ((wr.alloc (.cells zf 86)).setRow wr.heap.size C) wr.heap.size 86 C ∧ Below wr.heap.size wr ((wr.alloc (.cells zf 86)).setRow wr.heap.size C) from fun C => by
          rw [World.setRow_alloc_new]
          exact ⟨Has.new wr _ _, (Below.refl _ _).alloc (Nat.le_refl _) _⟩)
         have HOOK := Lib.hid hook
         have HOO := Lib.hid ho
         have EOC := Lib.hid hOC
         have hato := HAT.out sb so k c j hjk
         have HJK := Lib.hid hjk
         clear hrwo hol hook ho hOC
         go_upto_region 18 with (first
          | (refine wpList_load_mid rfl 86 (.tmp 53) rfl sb (so + j * 164) rfl OC _ HRWO.out Tryd.underlying86 rfl SZO1.out ?_)
          | (refine wpList_store_row rfl 86 (.tmp 15) (.tmp 54) rfl wr.heap.size OC.toArray rfl rfl 86 zf (heap_alloc_new wr _) SZOA.out HZZO.out HONEO.out ?_))
         obtain ⟨h17, hk17⟩ := HNWO.out OC.toArray
         have hb17 := HBJ.out.trans (hk17.mono HBJ.out.size)
         clear HNWO hk17 hato
         generalize (wr.alloc (.cells zf 86)).setRow wr.heap.size OC.toArray = W17 at h17 hb17 ⊢
         generalize wr.heap.size = G15 at h17 ⊢
         rw [EOC.out] at h17
         have HB17 := Lib.hid hb17
         have h317 := H310.out.below hb17 H310.out.lt
         have HX := Lib.hid (show ∀ v, Below W17.heap.size W17 v → (v.rangeAt G15 0 (ptCells o.tx o.out) ∧ v.rangeAt G 0 (ptCells f.tx f.out)) ∧ (v.rangeAt G15 33 o.l.cells ∧ v.rangeAt G 33 f.l.cells) from fun v hv => ⟨⟨from_pt HOOK.out (h17.below hv h17.lt), from_pt HFOK.out (h317.below hv h317.lt)⟩, ⟨from_leaf HOOK.out (h17.below hv h17.lt), from_leaf HFOK.out (h317.below hv h317.lt)⟩⟩)
         obtain ⟨LPO, hLPO⟩ : ∃ L, L = ptCells o.tx o.out := ⟨_, rfl⟩
         obtain ⟨LPF, hLPF⟩ : ∃ L, L = ptCells f.tx f.out := ⟨_, rfl⟩
         obtain ⟨LLO, hLLO⟩ : ∃ L, L = o.l.cells := ⟨_, rfl⟩
         obtain ⟨LLF, hLLF⟩ : ∃ L, L = f.l.cells := ⟨_, rfl⟩
         obtain ⟨KO, hKO⟩ : ∃ L, L = keyK K s0 o.l := ⟨_, rfl⟩
         rw [← hLPO, ← hLPF, ← hLLO, ← hLLF] at HX
         have SPO := Lib.hid (show (Tryd.prog.info? 84).map (·.size) = some LPO.length by rw [hLPO]; exact SZPT.out o HOOK.out)
         have SPF := Lib.hid (show (Tryd.prog.info? 84).map (·.size) = some LPF.length by rw [hLPF]; exact SZPT.out f HFOK.out)
         have SLO := Lib.hid (show (Tryd.prog.info? 81).map (·.size) = some LLO.length by rw [hLLO]; exact SZLF.out o HOOK.out)
         have SLF := Lib.hid (show (Tryd.prog.info? 81).map (·.size) = some LLF.length by rw [hLLF]; exact SZLF.out f HFOK.out)
         have HPT := Lib.hid (any_take pr HOO.out)
         have hpx : pr o = (decide (o.tx = f.tx ∧ o.out = f.out) && decide (KO = KF)) := by rw [HPR.out, hKO, HKF.out]; exact Bool.decide_and _ _
         have heqp := HJF.out o HOOK.out
         rw [← hLPO, ← hLPF] at heqp
         obtain ⟨pe, hpe⟩ : ∃ q, q = decide (o.tx = f.tx ∧ o.out = f.out) := ⟨_, rfl⟩
         rw [← hpe] at heqp hpx
         have heqk : ∀ v, (Op.equalIn 10000 39 (.agg (bcells KO).toArray) (.agg (bcells KF).toArray)).run Tryd.prog v = .ok (decide (KO = KF)) v := fun v => hash_eqW _ _ (by rw [hKO]; exact HKH.out _) (by rw [HKF.out]; exact HKH.out _) v
         obtain ⟨ke, hke⟩ : ∃ q, q = decide (KO = KF) := ⟨_, rfl⟩
         rw [← hke] at heqk hpx
         have HKEO := Lib.hid (show ∀ v, Below w10.heap.size w10 v → Calls Tryd.prog 57 #[.agg LLO.toArray] v fun e w' => e = .returned (.agg (bcells KO).toArray) ∧ Below v.heap.size v w' from fun v hv => by
          have := lfKey_is K s0 v (HT10.out v hv) o.l HOOK.out.l
          rw [← hLLO, ← hKO] at this
          exact this)
         have HKEF := Lib.hid (show ∀ v, Below w10.heap.size w10 v → Calls Tryd.prog 57 #[.agg LLF.toArray] v fun e w' => e = .returned (.agg (bcells KF).toArray) ∧ Below v.heap.size v w' from fun v hv => by
          have := lfKey_is K s0 v (HT10.out v hv) f.l HFOK.out.l
          rw [← hLLF, ← HKF.out] at this
          exact this)
         have HPX := Lib.hid hpx
         have HNEXT := Lib.hid (show pr o = false → (fs.take (j + 1)).any pr = false from fun h => by rw [HPT.out, HANY.out, h]; rfl)
         have HFOUND := Lib.hid (show pr o = true → ∀ v, Below W17.heap.size W17 v → Below w.heap.size w v ∧ cameE K s0 fa id fs sp = 6 from fun h v hv => HFE.out 6 v (by
          have h2 : twice K s0 (fs.take k) f = true := by rw [HTW.out]; exact any_take_of pr (j := j + 1) HJK.out (by rw [HPT.out, h]; simp)
          unfold cameStep
          rw [if_neg (by rw [HBAD.out]; decide), if_neg (by rw [HIE.out]; simp), if_pos h2]) (HB10.out.trans ((HB17.out.trans (hv.mono HB17.out.size)).mono HB10.out.size)))
         have hS0 : Below W17.heap.size W17 W17.drew := (Below.refl _ _).drew
         have HBX := Lib.hid (show ∀ v, Below W17.heap.size W17 v → Below w10.heap.size w10 v from fun v hv => HB17.out.trans (hv.mono HB17.out.size))
         clear h17 hb17 h317 hLPO hLPF hLLO hLLF hKO hpe hke hpx
         cases pe with
         | false =>
          refine wp_region_noPanic ?_
          refine wp_region_held_drew (S := (fun v => Below W17.heap.size W17 v)) (by kernel_rfl) hS0 (fun hH0 => ?_)
          apply tk 0 (v := _) rfl (Or.inl ⟨by kernel_rfl, ?hv⟩) hH0 ?_
          case hv => intro w' hS; go_simp; try exact rfl
          simp only [Act.put, qa]
          refine tk 1 (v := (.agg LPO.toArray)) rfl (yieldsIf_load_mid (by kernel_rfl) 84 (.tmp 55) rfl G15 0 rfl LPO _ (fun w' h => (HX.out _ h).1.1) Tryd.underlying84 rfl SPO.out) hH0 ?_
          simp only [Act.put, qa]
          apply tk 2 (v := _) rfl (Or.inl ⟨by kernel_rfl, ?hv⟩) hH0 ?_
          case hv => intro w' hS; go_simp; try exact rfl
          simp only [Act.put, qa]
          refine tk 3 (v := (.agg LPF.toArray)) rfl (yieldsIf_load_mid (by kernel_rfl) 84 (.tmp 57) rfl G 0 rfl LPF _ (fun w' h => (HX.out _ h).1.2) Tryd.underlying84 rfl SPF.out) hH0 ?_
          simp only [Act.put, qa]
          apply tk 4 (v := _) rfl (Or.inl ⟨by kernel_rfl, ?hv⟩) hH0 ?_
          case hv => intro w' hS; go_simp; try exact rfl
          simp only [Act.put, qa]
          apply tk 5 (v := _) rfl (Or.inl ⟨by kernel_rfl, ?hv⟩) hH0 ?_
          case hv => intro w' hS; go_simp; try exact rfl
          simp only [Act.put, qa]
          refine tk 6 (v := undef) rfl (Or.inr ⟨by kernel_rfl, rfl⟩) hH0 ?_
          simp only [Act.put, qa]
          refine tk 7 (v := undef) rfl (Or.inr ⟨by kernel_rfl, rfl⟩) hH0 ?_
          simp only [Act.put, qa]
          refine tk 8 (v := undef) rfl (Or.inr ⟨by kernel_rfl, rfl⟩) hH0 ?_
          simp only [Act.put, qa]
          refine tk 9 (v := undef) rfl (Or.inr ⟨by kernel_rfl, rfl⟩) hH0 ?_
          simp only [Act.put, qa]
          refine tk 10 (v := undef) rfl (Or.inr ⟨by kernel_rfl, rfl⟩) hH0 ?_
          simp only [Act.put, qa]
          refine tk 11 (v := undef) rfl (Or.inr ⟨by kernel_rfl, rfl⟩) hH0 ?_
          simp only [Act.put, qa]
          refine tk 12 (v := undef) rfl (Or.inr ⟨by kernel_rfl, rfl⟩) hH0 ?_
          simp only [Act.put, qa]
          apply tk 13 (v := _) rfl (Or.inl ⟨by kernel_rfl, ?hv⟩) hH0 ?_
          case hv => intro w' hS; go_simp; try exact rfl
          simp only [Act.put, qa]
          refine wpAnyH_done (by kernel_rfl) ?_ _
          refine NoPanic.normal ?_
          clear heqp heqk
          go_wp2_with fail
          go_roundw
          case rel => exact ⟨j + 1, by go_num, HJK.out, HNEXT.out (by rw [HPX.out]; rfl), HBX.out _ hS0⟩
          case measure => have := HJK.out; simp [intOf]; omega
         | true =>
          refine wp_region_noPanic ?_
          refine wp_region_held_drew (S := (fun v => Below W17.heap.size W17 v)) (by kernel_rfl) hS0 (fun hH0 => ?_)
          apply tk 0 (v := _) rfl (Or.inl ⟨by kernel_rfl, ?hv⟩) hH0 ?_
          case hv => intro w' hS; go_simp; try exact rfl
          simp only [Act.put, qa]
          refine tk 1 (v := (.agg LPO.toArray)) rfl (yieldsIf_load_mid (by kernel_rfl) 84 (.tmp 55) rfl G15 0 rfl LPO _ (fun w' h => (HX.out _ h).1.1) Tryd.underlying84 rfl SPO.out) hH0 ?_
          simp only [Act.put, qa]
          apply tk 2 (v := _) rfl (Or.inl ⟨by kernel_rfl, ?hv⟩) hH0 ?_
          case hv => intro w' hS; go_simp; try exact rfl
          simp only [Act.put, qa]
          refine tk 3 (v := (.agg LPF.toArray)) rfl (yieldsIf_load_mid (by kernel_rfl) 84 (.tmp 57) rfl G 0 rfl LPF _ (fun w' h => (HX.out _ h).1.2) Tryd.underlying84 rfl SPF.out) hH0 ?_
          simp only [Act.put, qa]
          apply tk 4 (v := _) rfl (Or.inl ⟨by kernel_rfl, ?hv⟩) hH0 ?_
          case hv => intro w' hS; go_simp; try exact rfl
          simp only [Act.put, qa]
          apply tk 5 (v := _) rfl (Or.inl ⟨by kernel_rfl, ?hv⟩) hH0 ?_
          case hv => intro w' hS; go_simp; try exact rfl
          simp only [Act.put, qa]
          apply tk 6 (v := _) rfl (Or.inl ⟨by kernel_rfl, ?hv⟩) hH0 ?_
          case hv => intro w' hS; go_simp; try exact rfl
          simp only [Act.put, qa]
          refine tk 7 (v := (.agg LLO.toArray)) rfl (yieldsIf_load_mid (by kernel_rfl) 81 (.tmp 61) rfl G15 33 rfl LLO _ (fun w' h => (HX.out _ h).2.1) Tryd.underlying81 rfl SLO.out) hH0 ?_
          simp only [Act.put, qa]
          apply tk 9 (v := _) rfl (Or.inl ⟨by kernel_rfl, ?hv⟩) hH0 ?_
          case hv => intro w' hS; go_simp; try exact rfl
          simp only [Act.put, qa]
          refine tk 10 (v := (.agg LLF.toArray)) rfl (yieldsIf_load_mid (by kernel_rfl) 81 (.tmp 64) rfl G 33 rfl LLF _ (fun w' h => (HX.out _ h).2.2) Tryd.underlying81 rfl SLF.out) hH0 ?_
          simp only [Act.put, qa]
          refine wpAnyH_ready (rs := [8]) (by kernel_rfl) (by simp) ?_
          refine AllReadyH.cons rfl (fun KK hKK => ?_) AllReadyH.nil
          go_simp
          refine (HKEO.out _ (HBX.out _ hH0)).mono ?_
          rintro _ x8 ⟨rfl, hx8⟩
          have hs8 := hH0.trans (hx8.mono hH0.size)
          clear hx8
          refine Shut.out hKK _ _ hs8 (fun hH1 => ?_)
          clear hKK KK
          try simp only [Act.put, qa]
          refine wpAnyH_ready (rs := [11]) (by kernel_rfl) (by simp) ?_
          refine AllReadyH.cons rfl (fun KK hKK => ?_) AllReadyH.nil
          go_simp
          refine (HKEF.out _ (HBX.out _ hH1)).mono ?_
          rintro _ x11 ⟨rfl, hx11⟩
          have hs11 := hH1.trans (hx11.mono hH1.size)
          clear hx11
          refine Shut.out hKK _ _ hs11 (fun hH2 => ?_)
          clear hKK KK
          try simp only [Act.put, qa]
          apply tk 12 (v := _) rfl (Or.inl ⟨by kernel_rfl, ?hv⟩) hH2 ?_
          case hv => intro w' hS; go_simp; try exact rfl
          simp only [Act.put, qa]
          apply tk 13 (v := _) rfl (Or.inl ⟨by kernel_rfl, ?hv⟩) hH2 ?_
          case hv => intro w' hS; go_simp; try exact rfl
          simp only [Act.put, qa]
          refine wpAnyH_done (by kernel_rfl) ?_ _
          refine NoPanic.normal ?_
          have HS11 := Lib.hid hs11
          clear heqp heqk hs8 hs11
          cases ke with
          | false =>
            go_wp2_with fail
            go_roundw
            case rel => exact ⟨j + 1, by go_num, HJK.out, HNEXT.out (by rw [HPX.out]; rfl), HBX.out _ HS11.out⟩
            case measure => have := HJK.out; simp [intOf]; omega
          | true =>
            have HQ := Lib.hid (HFOUND.out (by rw [HPX.out]; rfl) x11 HS11.out)
            go_wp2_with fail
            go_ret
            exact ⟨by rw [HQ.out.2]; rfl, HQ.out.1⟩
       · obtain rfl : j = k := by omega
         have hno : ¬ (j : Int) < (j : Int) := by omega
         have htw : twice K s0 (fs.take j) f = false := by rw [HTW.out]; exact HANY.out
         have HTWF := Lib.hid htw
         have hb21 := HB10.out.trans (HBJ.out.mono HB10.out.size)
         have HB21 := Lib.hid hb21
         have h321 := H310.out.below HBJ.out H310.out.lt
         have H321 := Lib.hid h321
         have HRO := Lib.hid (from_ow HFOK.out h321)
         have HRT := Lib.hid (from_tok HFOK.out h321)
         have HRD := Lib.hid (H6.out.below hb21 H6.out.lt).row0
         have hcl := HO1.out wr (HB6.out.trans (hb21.mono HB6.out.size)) f.l.ow D f.tok HFOK.out.l.ow HPH.out HFOK.out.tok
         unfold arr at hcl
         rw [← HLD.out] at hcl
         rw [show al f.l.ow D f.tok = fa f by rw [HFA.out]] at hcl
         obtain ⟨LOW, hLOW⟩ : ∃ L, L = bcells f.l.ow := ⟨_, rfl⟩
         obtain ⟨LTK, hLTK⟩ : ∃ L, L = bcells f.tok := ⟨_, rfl⟩
         rw [← hLOW, ← hLTK] at hcl
         rw [← hLOW] at HRO
         rw [← hLTK] at HRT
         have SZOW := Lib.hid (show (Tryd.prog.info? 39).map (·.size) = some LOW.length by rw [hLOW]; exact SZH.out _ HFOK.out.l.ow)
         have SZTK := Lib.hid (show (Tryd.prog.info? 39).map (·.size) = some LTK.length by rw [hLTK]; exact SZH.out _ HFOK.out.tok)
         obtain ⟨fb, hfb⟩ : ∃ b, b = fa f := ⟨_, rfl⟩
         rw [← hfb] at hcl
         have HFB := Lib.hid hfb
         have HCL := Lib.hid hcl
         clear htw hb21 h321 hcl hLOW hLTK hfb hjk hj
         go_wp2_with (first
          | (refine wpList_load_mid rfl 39 (.tmp 72) rfl G 66 rfl LOW _ HRO.out Tryd.underlying39 rfl SZOW.out ?_)
          | (refine wpList_load_mid rfl 39 (.tmp 9) rfl G9 0 rfl LD _ HRD.out Tryd.underlying39 rfl SZD.out ?_)
          | (refine wpList_load_mid rfl 39 (.tmp 75) rfl G 132 rfl LTK _ HRT.out Tryd.underlying39 rfl SZTK.out ?_))
         refine HCL.out.mono ?_
         rintro _ w21 ⟨rfl, hb22⟩
         have HB22 := Lib.hid (HB21.out.trans (hb22.mono HB21.out.size))
         have h323 := H321.out.below hb22 H321.out.lt
         have c65 := from_am HFOK.out h323
         obtain ⟨am, ham⟩ : ∃ a, a = f.l.am := ⟨_, rfl⟩
         rw [← ham] at c65
         have HAM := Lib.hid ham
         have h64 : am < 18446744073709551616 := by rw [ham]; exact HFOK.out.l.am
         have hs64 := HS64.out
         clear hb22 HCL HRO HRT HRD h323 ham
         cases fb with
         | false =>
          have HQ := Lib.hid (HFE.out 31 w21 (by unfold cameStep; rw [if_neg (by rw [HBAD.out]; decide), if_neg (by rw [HIE.out]; simp), if_neg (by rw [HTWF.out]; decide), if_pos HFB.out.symm]) HB22.out)
          clear hs64 h64
          go_wp2_with fail
          go_ret
          exact ⟨by rw [HQ.out.2]; rfl, HQ.out.1⟩
         | true =>
          have HST := Lib.hid (show cameStep K s0 fa id (fs.take j) f s = if s + am < 18446744073709551616 then .ok (s + am) else .error 10 by
            unfold cameStep
            rw [if_neg (by rw [HBAD.out]; decide), if_neg (by rw [HIE.out]; simp), if_neg (by rw [HTWF.out]; decide), if_neg (by rw [← HFB.out]; decide), HAM.out])
          by_cases hfit : s + am < 18446744073709551616
          · have HNX2 := Lib.hid (show cameAt K s0 fa id fs (j + 1) = .ok (s + am) by rw [HNX.out, HST.out, if_pos hfit])
            have HFT := Lib.hid hfit
            clear hs64 h64
            go_wp2_with fail
            refine (add_fits _ s am hfit).mono ?_
            rintro _ w23 ⟨rfl, hw23⟩
            obtain ⟨u, hu⟩ : ∃ u, u = s + am := ⟨_, rfl⟩
            rw [← hu] at HNX2 HFT ⊢
            have HB23 := Lib.hid (show Below W6.heap.size W6 w23 by rw [hw23]; exact HB22.out)
            clear hw23 hfit c65 hu
            go_wp2_with fail
            go_roundw
            case rel => exact ⟨j + 1, u, by go_num, by omega, rfl, HFT.out, HNX2.out, HB23.out⟩
            case measure => simp [intOf]; omega
          · have HQ := Lib.hid (HFE.out 10 w21 (by rw [HST.out, if_neg hfit]) HB22.out)
            have hov : 18446744073709551616 ≤ s + am := by omega
            have hov2 : s + am < 36893488147419103232 := by omega
            go_wp2_with fail
            refine (add_over _ s am hov hov2).mono ?_
            rintro _ w23 ⟨rfl, hw23⟩
            have HQB := Lib.hid (show Below w.heap.size w w23 by rw [hw23]; exact HQ.out.1)
            clear hw23 hfit hov hov2 hs64 h64 c65
            go_wp2_with fail
            go_ret
            exact ⟨by rw [HQ.out.2]; rfl, HQB.out⟩
   · obtain rfl : k = n := by omega
     have hno : ¬ (k : Int) < (k : Int) := by omega
     obtain ⟨ss, hss⟩ : ∃ q, q = sp.s := ⟨_, rfl⟩
     have h2r := H26.out.below HBE.out H26.out.lt
     have hc32 : wr.cell? ⟨B + 1, 32, none⟩ = some (.int .u64 (ss : Int)) := h2r.cell_is (by rw [List.getElem?_toArray, HLN.out, hss]; exact nd_s HSP.out.1)
     have HQ := Lib.hid (show cameE K s0 fa id fs sp = if s = ss then 0 else 34 by rw [HE.out, HCA.out, hss]; rfl)
     have HBF := Lib.hid (HFINB.out wr HW1.out)
     clear h2r hss hlt
     by_cases hss2 : s = ss
     · have hne : ((s : Int) != (ss : Int)) = false := by rw [bne_eq_false_iff_eq]; omega
       have HQ2 := Lib.hid (show cameE K s0 fa id fs sp = 0 by rw [HQ.out, if_pos hss2])
       clear hss2
       go_wp2_with fail
       go_ret
       exact ⟨by rw [HQ2.out]; rfl, HBF.out⟩
     · have hne : ((s : Int) != (ss : Int)) = true := by rw [bne_iff_ne]; omega
       have HQ2 := Lib.hid (show cameE K s0 fa id fs sp = 34 by rw [HQ.out, if_neg hss2])
       clear hss2
       go_wp2_with fail
       go_ret
       exact ⟨by rw [HQ2.out]; rfl, HBF.out⟩
end Go.Proofs.YtniakgoefkbkhaaDoor

