/- The plain law of PassSums and PassOnce; big. -/
import Derived.Test.YtniakgoefkbkhaaDoorWs
import Derived.Test.YtniakgoefkbkhaaDoorVWh1
namespace Go.Proofs.YtniakgoefkbkhaaDoor
set_option linter.unusedVariables false
set_option linter.unusedSimpArgs false
open Go.ChangeShapes Go.WideShapes Go.ChangeAt Go.RowKit Go.Maps

theorem ps_out {w w' : World} {n : Nat} {ls : List LeafT} (hok : ∀ l ∈ ls, l.ok) (hl : ls.length = n) (hn : 0 < n) (h8 : n ≤ 8) {T : List Lf} (hT : tlAt KS SS (placed ls) n = .ok T) {a : Option Addr} {c : Nat} (h : w'.ownsRow w.heap.size 81 99 (.slice a n c) n ((splitL (partNd KS SS 256 T) (placed ls)).flatMap LeafT.cells)) :
  ∃ b, a = some ⟨b, 0, none⟩ ∧ w.heap.size ≤ b ∧ b < w'.heap.size ∧ IsHash (partNd KS SS 256 T).h ∧ (partNd KS SS 256 T).s = amS ls ∧ (partNd KS SS 256 T).s < 18446744073709551616 ∧ (∀ l ∈ splitL (partNd KS SS 256 T) (placed ls), l.ok) ∧ RowsAt LeafT.cells 99 w' (some ⟨b, 0, none⟩) n (splitL (partNd KS SS 256 T) (placed ls)) := by
 have hpo := placed_ok hok (by omega : ls.length ≤ 256)
 have hpl : (placed ls).length = n := by rw [placed_len, hl]
 obtain ⟨e1, e2, -⟩ := tl_ok hpo n h8 (by rw [hpl]; exact Nat.le_refl _) T hT
 rw [List.take_of_length_le (by rw [hpl]; exact Nat.le_refl _)] at e1 e2
 have ha : amS (placed ls) = amS ls := by
  unfold amS
  congr 1
  apply List.ext_getElem?
  intro i
  rw [List.getElem?_map, List.getElem?_map]
  cases hx : ls[i]? with
  | none => rw [List.getElem?_eq_none (by rw [placed_len]; exact List.getElem?_eq_none_iff.1 hx)]
  | some x => rw [placed_get hx]; rfl
 have hs : (partNd KS SS 256 T).s = amS ls := by
  rw [e1, part_sum KS SS 256 _ (parts_keyed (by omega)) (coh_top _), parts_sum, ha]
 have hh : IsHash (partNd KS SS 256 T).h := part_hash KS SS (by decide) 256 _
 rw [ha] at e2
 generalize partNd KS SS 256 T = r at h hs hh ⊢
 have hso := split_ok (r := r) hh (by omega) hpo
 obtain ⟨hrow, hfar⟩ := own_rows h (by rw [split_len, hpl]) (len_cells hso)
 obtain ⟨g, cap, cur, e, hg, hhas, _⟩ := own_open h hn
 injection e with e
 subst e
 exact ⟨g, rfl, hg, hhas.lt, hh, hs, by omega, hso, hrow⟩
theorem ps_amS {r : Nd} (ls : List LeafT) : amS (splitL r (placed ls)) = amS ls := by
 unfold amS
 congr 1
 apply List.ext_getElem?
 intro i
 rw [List.getElem?_map, List.getElem?_map]
 cases hx : ls[i]? with
 | none => rw [List.getElem?_eq_none (by rw [split_len, placed_len]; exact List.getElem?_eq_none_iff.1 hx)]
 | some x => rw [split_get (placed_get hx)]; rfl
theorem placed_split (r : Nd) (ls : List LeafT) : placed (splitL r (placed ls)) = splitL r (placed ls) := by
 apply List.ext_getElem?
 intro i
 cases hx : ls[i]? with
 | none =>
  have h := List.getElem?_eq_none_iff.1 hx
  rw [List.getElem?_eq_none (by rw [placed_len, split_len, placed_len]; exact h), List.getElem?_eq_none (by rw [split_len, placed_len]; exact h)]
 | some x =>
  have h1 := split_get (r := r) (placed_get hx)
  rw [placed_get h1, h1]; rfl
theorem split_split (r : Nd) (ls : List LeafT) : splitL r (splitL r ls) = splitL r ls := by
 apply List.ext_getElem?
 intro i
 cases hx : ls[i]? with
 | none =>
  have h := List.getElem?_eq_none_iff.1 hx
  rw [List.getElem?_eq_none (by rw [split_len, split_len]; exact h), List.getElem?_eq_none (by rw [split_len]; exact h)]
 | some x =>
  have h1 := split_get (r := r) hx
  rw [split_get h1, h1]; rfl
theorem wholeAt_same {id : List Nat} {ls : List LeafT} (h : ∀ l ∈ ls, l.id = id) : ∀ k, wholeAt id ls ls k = 0
 | 0 => rfl
 | k + 1 => by
  have ih := wholeAt_same h k
  cases hx : ls[k]? with
  | none => rw [wholeAt, if_neg (by rw [ih]; decide)]; simp only [hx]
  | some x => rw [wholeAt_succ ih hx hx, if_neg (by simpa using h x (List.mem_of_getElem? hx)), if_neg (by simp)]
theorem whole_split {K s0 : List Wd} {id : List Nat} {ls : List LeafT} {T : List Lf} (hn : 0 < ls.length) (h256 : ls.length ≤ 256) (hT : tlAt K s0 (placed ls) ls.length = .ok T) (hid : ∀ l ∈ ls, l.id = id) :
  wholeE K s0 id (splitL (partNd K s0 256 T) (placed ls)) = 0 := by
 have hl : (splitL (partNd K s0 256 T) (placed ls)).length = ls.length := by rw [split_len, placed_len]
 unfold wholeE
 rw [hl, if_neg (by omega), if_neg (by omega), placed_split, tl_split, hT]
 show wholeAt id _ (splitL (partNd K s0 256 T) (placed (splitL (partNd K s0 256 T) (placed ls)))) _ = 0
 rw [placed_split, split_split]
 refine wholeAt_same (fun l hl => ?_) _
 obtain ⟨i, hi⟩ := List.getElem?_of_mem hl
 have hil := (List.getElem?_eq_some_iff.1 hi).1
 rw [split_len, placed_len] at hil
 have hx := List.getElem?_eq_getElem hil
 rw [split_get (placed_get hx)] at hi
 injection hi with hi
 rw [← hi]
 exact (hid ls[i] (List.getElem_mem hil) : ls[i].id = id)
def tkF (k : List Nat) (_ : Nat) (f : FromT) : FromT := { f with tok := k }
def tokd (k : List Nat) (fs : List FromT) : List FromT := turnTo (tkF k) fs.length fs
theorem tkF_ok {f : FromT} (h : f.ok) {k : List Nat} (hk : IsHash k) (i : Nat) : (tkF k i f).ok := ⟨h.tx, h.lo, h.hi, h.l, hk⟩
theorem tokd_get {k : List Nat} {fs : List FromT} {i : Nat} {f : FromT} (h : fs[i]? = some f) : (tokd k fs)[i]? = some (tkF k i f) := by
 rw [tokd, turnTo_get _ _ _ _ _ h, if_pos (List.getElem?_eq_some_iff.1 h).1]
theorem tokd_len (k : List Nat) (fs : List FromT) : (tokd k fs).length = fs.length := turnTo_len _ _ _
theorem tokd_ok {k : List Nat} (hk : IsHash k) {fs : List FromT} (h : ∀ f ∈ fs, f.ok) : ∀ f ∈ tokd k fs, f.ok := turnTo_ok _ _ _ _ h (fun i f _ hf => tkF_ok hf hk i)
theorem tokd_map {α : Type} (g : FromT → α) {k : List Nat} (hg : ∀ i f, g (tkF k i f) = g f) (fs : List FromT) : (tokd k fs).map g = fs.map g := by
 apply List.ext_getElem?
 intro i
 rw [List.getElem?_map, List.getElem?_map]
 cases hx : fs[i]? with
 | none => rw [List.getElem?_eq_none (by rw [tokd_len]; exact List.getElem?_eq_none_iff.1 hx)]
 | some x => rw [tokd_get hx]; exact congrArg some (hg i x)
theorem tokd_what (K s0 : List Wd) (k : List Nat) (fs : List FromT) (sp : Nd) : whatK K s0 (tokd k fs) sp = whatK K s0 fs sp := by
 unfold whatK
 rw [List.flatMap_def, List.flatMap_def, tokd_map (whatB K s0) (fun _ _ => rfl)]
theorem tkF_cells {f : FromT} (h : f.ok) {k : List Nat} (hk : IsHash k) (i : Nat) : ∀ j, j < 164 → (tkF k i f).cells[j]? = if 132 ≤ j ∧ j < 132 + (bcells k).length then (bcells k)[j - 132]? else f.cells[j]? := by
 intro j hj
 have h' := tkF_ok h hk i
 rw [bcells_length, hk.1]
 by_cases e : 132 ≤ j
 · obtain ⟨d, rfl⟩ : ∃ d, j = 132 + d := ⟨j - 132, by omega⟩
   rw [if_pos (by omega), FromT.at_tok h' d (by omega), Nat.add_sub_cancel_left]; rfl
 · rw [if_neg (by omega)]
   rcases Nat.lt_or_ge j 33 with q | q
   · rw [FromT.at_pt h j q, FromT.at_pt h' j q]; rfl
   · obtain ⟨d, rfl⟩ : ∃ d, j = 33 + d := ⟨j - 33, by omega⟩
     rw [FromT.at_leaf h d (by omega), FromT.at_leaf h' d (by omega)]; rfl
theorem tkFlen {fs : List FromT} (h : ∀ f ∈ fs, f.ok) : ∀ f ∈ fs, f.cells.length = 164 := fun f hf => FromT.len (h f hf)
theorem pass_right {K s0 : List Wd} {al : FromT → Bool} {fs : List FromT} {l : LeafT} {ls : List LeafT} (h : passE K s0 al fs (l :: ls) = 0) : wholeE K s0 l.id (l :: ls) = 0 ∧ cameE K s0 al l.id fs l.sp = 0 := by
 have h' : (if wholeE K s0 l.id (l :: ls) ≠ 0 then wholeE K s0 l.id (l :: ls) else cameE K s0 al l.id fs l.sp) = 0 := h
 split at h'
 · rename_i h1; exact absurd h' h1
 · rename_i h1
   exact ⟨by simpa using h1, h'⟩
theorem split_head {r : Nd} {ls : List LeafT} (hn : 0 < ls.length) : ∃ l ls', splitL r (placed ls) = l :: ls' ∧ l.sp = r ∧ l.id = (ls.headD ⟨[], 0, [], 0, zNd⟩).id := by
 cases ls with
 | nil => simp at hn
 | cons x xs =>
  have h0 : (splitL r (placed (x :: xs)))[0]? = some (spF r 0 (plF 0 x)) := split_get (placed_get rfl)
  cases hq : splitL r (placed (x :: xs)) with
  | nil => rw [hq] at h0; cases h0
  | cons l ls' =>
   rw [hq] at h0
   injection h0 with h0
   exact ⟨l, ls', rfl, by rw [h0]; rfl, by rw [h0]; rfl⟩
theorem pass_sums {K s0 : List Wd} {al : FromT → Bool} {fs : List FromT} {r : Nd} {ls : List LeafT} (hn : 0 < ls.length) (h : passE K s0 al fs (splitL r (placed ls)) = 0) : amF' fs = r.s := by
 obtain ⟨l, ls', hq, hsp, -⟩ := split_head (r := r) hn
 rw [hq] at h
 obtain ⟨-, h2⟩ := pass_right h
 rw [← hsp]
 exact (came_right h2).2.2
theorem boxes_big (w : World) (MC : List Value) : ∃ W1, W1 = (w.alloc (.cells MC.toArray 71)) ∧
   Has W1 (w.heap.size) 71 MC.toArray ∧ Below w.heap.size w W1 := by
 refine ⟨_, rfl, ?_, ?_⟩
 · have := Has.new w 71 MC.toArray
   exact this
 · exact (Below.refl _ _).alloc (Nat.le_refl _) _
def madeCC (A : Option Addr) (n c : Nat) (B : Option Addr) (m d : Nat) (who : List Nat) (p q : Bool) : List Value := .slice A n c :: .slice B m d :: (bcells who ++ [.bool p, .bool q])
theorem madeCC_len (A : Option Addr) (n c : Nat) (B : Option Addr) (m d : Nat) {who : List Nat} (h : IsHash who) (p q : Bool) : (madeCC A n c B m d who p q).length = 36 := by simp [madeCC, bcells_length, h.1]
def BigR (n m : Nat) (e : Ending) : Prop := ∃ b : Bool, e = .returned (.bool b) ∧ (b = false → n ≤ 6 ∧ m ≤ 5)
set_option maxRecDepth 100000 in
set_option maxHeartbeats 4000000 in
theorem pbig_is (w : World) (A : Option Addr) (n c : Nat) (B : Option Addr) (m d : Nat) (who : List Nat) (hw : IsHash who) (p q : Bool) (fs : List FromT) (hfs : RowsAt FromT.cells 164 w A n fs) (hok : ∀ f ∈ fs, f.ok) (hn : n ≤ 9223372036854775807) (hm : m ≤ 9223372036854775807) :
   Calls Tryd.prog 25 #[.agg (madeCC A n c B m d who p q).toArray] w fun e w' => BigR n m e ∧ Below w.heap.size w w' := by
 obtain ⟨zf, hzf, hzfs, hzfn⟩ := zero_from
 obtain ⟨MC, hMC⟩ : ∃ L, L = madeCC A n c B m d who p q := ⟨_, rfl⟩
 rw [← hMC]
 have hc0' : MC[0]? = some (.slice A n c) := by rw [hMC]; rfl
 have hc1' : MC[1]? = some (.slice B m d) := by rw [hMC]; rfl
 obtain ⟨W1, hW1, h1, hb1⟩ := boxes_big w MC
 have hc0 : W1.cell? ⟨w.heap.size, 0, none⟩ = some (.slice A n c) := h1.cell_is (by rw [List.getElem?_toArray]; exact hc0')
 have hc1 : W1.cell? ⟨w.heap.size, 1, none⟩ = some (.slice B m d) := h1.cell_is (by rw [List.getElem?_toArray]; exact hc1')
 have HF1 := Lib.hid (hfs.below hb1)
 have HLEN := Lib.hid hfs.len
 have HOK := Lib.hid hok
 have HB1 := Lib.hid hb1
 have EW := Lib.hid hW1
 have HZF := Lib.hid hzfs
 have HAT := Lib.hid at_from
 clear hMC hc0' hc1' h1 hb1 hW1 hfs hok hzfs
 go_enter Tryd.func25, Tryd.ntmps25
 go_upto_region 1 with (fail)
 rw [← EW.out]
 by_cases h6 : (n : Int) > 6
 · go_wp2_with fail
   go_ret
   exact ⟨⟨true, rfl, fun e => by cases e⟩, HB1.out⟩
 by_cases h5 : (m : Int) > 5
 · go_wp2_with fail
   go_ret
   exact ⟨⟨true, rfl, fun e => by cases e⟩, HB1.out⟩
 have HNM := Lib.hid (show n ≤ 6 ∧ m ≤ 5 from ⟨by omega, by omega⟩)
 go_wp2_with fail
 go_loopw [18] (fun iv wr => ∃ k : Nat, iv = .int .i64 (k : Int) ∧ k ≤ n ∧ Below W1.heap.size W1 wr) (fun iv _ => n - (intOf iv).toNat)
 case atStart => exact ⟨0, rfl, Nat.zero_le _, Below.refl _ _⟩
 case round =>
   clear hc0 hc1
   obtain ⟨k, rfl, hk, hbel⟩ := hrel
   have HBE := Lib.hid hbel
   clear hbel
   by_cases hlt : k < n
   · have hlt' : (k : Int) < (n : Int) := by omega
     obtain ⟨sb, so, hA1, hA2, hrr⟩ := HF1.out.at_ (by omega)
     subst hA1
     obtain ⟨f, hf⟩ : ∃ f, fs[k]? = some f := ⟨_, List.getElem?_eq_getElem (by rw [HLEN.out]; exact hlt)⟩
     have hfok := HOK.out f (List.mem_of_getElem? hf)
     have hrw := rangeAt_kept (hrr k f hf) (Kept.of_below (S := fun _ => False) HBE.out) (fun h => h)
     obtain ⟨FC, hFC⟩ : ∃ L, L = f.cells := ⟨_, rfl⟩
     rw [← hFC] at hrw
     have hfl : FC.length = 164 := by rw [hFC]; exact FromT.len hfok
     have HRW := Lib.hid hrw
     have SZ1 := Lib.hid (show (Tryd.prog.info? 86).map (·.size) = some FC.length by rw [hfl]; kernel_rfl)
     have SZA := Lib.hid (show (Tryd.prog.info? 86).map (·.size) = some FC.toArray.size by rw [List.size_toArray]; exact SZ1.out)
     have HZZ := Lib.hid (show zf.size = FC.toArray.size by rw [HZF.out, List.size_toArray, hfl])
     have HONE := Lib.hid (show FC.toArray.all (·.oneCell') = true by rw [hFC]; exact FromT.one f)
     have HNW := Lib.hid (show ∀ C, Has ((wr.alloc (.cells zf 86)).setRow wr.heap.size C) wr.heap.size 86 C ∧ Below wr.heap.size wr ((wr.alloc (.cells zf 86)).setRow wr.heap.size C) from fun C => by
       rw [World.setRow_alloc_new]
       exact ⟨Has.new wr _ _, (Below.refl _ _).alloc (Nat.le_refl _) _⟩)
     have HFOK := Lib.hid hfok
     have EFC := Lib.hid hFC
     have hat := HAT.out sb so n c k hlt
     have HLTK := Lib.hid hlt
     clear hrw hfl hfok hf hFC hrr hA2 hlt
     go_upto_region 6 with (first
       | (refine wpList_load_mid rfl 86 (.tmp 20) rfl sb (so + k * 164) rfl FC _ HRW.out Tryd.underlying86 rfl SZ1.out ?_)
       | (refine wpList_store_row rfl 86 (.tmp 4) (.tmp 21) rfl wr.heap.size FC.toArray rfl rfl 86 zf (heap_alloc_new wr _) SZA.out HZZ.out HONE.out ?_))
     obtain ⟨h3, hk3⟩ := HNW.out FC.toArray
     have hb3 := HBE.out.trans (hk3.mono HBE.out.size)
     clear HNW hk3 hat
     generalize (wr.alloc (.cells zf 86)).setRow wr.heap.size FC.toArray = W9 at h3 hb3 ⊢
     generalize wr.heap.size = G at h3 ⊢
     obtain ⟨out, hout⟩ : ∃ o, o = f.out := ⟨_, rfl⟩
     have hc32 : W9.cell? ⟨G, 32, none⟩ = some (.int .i64 out) := h3.cell_is (by rw [List.getElem?_toArray, EFC.out, FromT.at_pt HFOK.out 32 (by decide), hout]; exact pt_snd HFOK.out.tx _)
     have HB3 := Lib.hid hb3
     have HBW := Lib.hid (HB1.out.trans (hb3.mono HB1.out.size))
     clear h3 hb3 hout
     by_cases q0 : out < 0
     · go_wp2_with fail
       go_ret
       exact ⟨⟨true, rfl, fun e => by cases e⟩, HBW.out⟩
     by_cases q1 : out > 255
     · go_wp2_with fail
       go_ret
       exact ⟨⟨true, rfl, fun e => by cases e⟩, HBW.out⟩
     go_wp2_with fail
     go_roundw
     case rel => exact ⟨k + 1, by go_num, HLTK.out, HB3.out⟩
     case measure => have := HLTK.out; simp [intOf]; omega
   · obtain rfl : k = n := by omega
     have hno : ¬ (k : Int) < (k : Int) := by omega
     go_wp2_with fail
     go_ret
     exact ⟨⟨false, rfl, fun _ => HNM.out⟩, HB1.out.trans (HBE.out.mono HB1.out.size)⟩
end Go.Proofs.YtniakgoefkbkhaaDoor

