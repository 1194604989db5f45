/- The head of the laws of transfers: the document's example. -/
import Derived.Test.YtniakgoefkbkhaaDoorWs
import Derived.Test.YtniakgoefkbkhaaDoorVPs0
namespace Go.Proofs.YtniakgoefkbkhaaDoor
set_option linter.unusedVariables false
set_option linter.unusedSimpArgs false
open Go.ChangeShapes Go.WideShapes Go.ChangeAt Go.RowKit Go.Maps

def oneH : List Nat := 1 :: List.replicate 31 0
theorem oneH_hash : IsHash oneH := ⟨rfl, fun k hk => by
 rcases List.mem_cons.1 hk with rfl | hk
 · decide
 · rw [List.eq_of_mem_replicate hk]; decide⟩
theorem build_oneH (w : World) : (Instr.build 39 #[(0, .int .u8 1)]).run Tryd.prog w = .ok (.agg (bcells oneH).toArray) w := by kernel_rfl
def frH (OW : List Nat) (i n : Nat) : FromT := ⟨Z32', (i : Int), ⟨Z32', n, OW, 0, ⟨Z32', n⟩⟩, Z32'⟩
theorem frH_ok {OW : List Nat} (h : IsHash OW) (i n : Nat) (hi : i ≤ 255) (hn : n < 18446744073709551616) : (frH OW i n).ok :=
 ⟨Z32_hash, by show (-9223372036854775808 : Int) ≤ (i : Int); omega, by show (i : Int) ≤ 9223372036854775807; omega, ⟨Z32_hash, hn, h, by show (-9223372036854775808 : Int) ≤ 0; decide, by show (0 : Int) ≤ 9223372036854775807; decide, Z32_hash, hn⟩, Z32_hash⟩
theorem build_pt (i : Int) (w : World) : (Instr.build 84 #[(1, .int .i64 i)]).run Tryd.prog w = .ok (.agg (ptCells Z32' i).toArray) w := by kernel_rfl
theorem build_nd (n : Nat) (w : World) : (Instr.build 79 #[(1, .int .u64 (n : Int))]).run Tryd.prog w = .ok (.agg (ndV ⟨Z32', n⟩).toArray) w := by kernel_rfl
theorem build_lf (OW : List Nat) (h : OW.length = 32) (n : Nat) (w : World) : (Instr.build 81 #[(1, .int .u64 (n : Int)), (2, .agg (bcells OW).toArray), (4, .agg (ndV ⟨Z32', n⟩).toArray)]).run Tryd.prog w = .ok (.agg (LeafT.cells ⟨Z32', n, OW, 0, ⟨Z32', n⟩⟩).toArray) w := by
 obtain ⟨d0, d1, d2, d3, d4, d5, d6, d7, d8, d9, d10, d11, d12, d13, d14, d15, d16, d17, d18, d19, d20, d21, d22, d23, d24, d25, d26, d27, d28, d29, d30, d31, rfl⟩ := thirty_two OW h
 exact run_build w 81 _ _ (by kernel_rfl)
theorem build_fr (OW : List Nat) (h : OW.length = 32) (i n : Nat) (w : World) : (Instr.build 86 #[(0, .agg (ptCells Z32' (i : Int)).toArray), (1, .agg (LeafT.cells ⟨Z32', n, OW, 0, ⟨Z32', n⟩⟩).toArray)]).run Tryd.prog w = .ok (.agg (frH OW i n).cells.toArray) w := by
 obtain ⟨d0, d1, d2, d3, d4, d5, d6, d7, d8, d9, d10, d11, d12, d13, d14, d15, d16, d17, d18, d19, d20, d21, d22, d23, d24, d25, d26, d27, d28, d29, d30, d31, rfl⟩ := thirty_two OW h
 exact run_build w 86 _ _ (by kernel_rfl)
theorem build_pass (A : Option Addr) (n c : Nat) (B : Option Addr) (m d : Nat) (w : World) : (Instr.build 88 #[(0, .slice A n c), (1, .slice B m d)]).run Tryd.prog w = .ok (.agg (passC A n c B m d).toArray) w := by kernel_rfl
theorem info_from : ∃ Z : Array Value, (Tryd.prog.info? 86).map (fun i => (i.zero, i.size, i.bytes)) = some (some (.agg Z), 164, 192) ∧ Z.size = 164 :=
 ⟨(FromT.cells ⟨Z32', 0, ⟨List.replicate 32 0, 0, List.replicate 32 0, 0, zNd⟩, Z32'⟩).toArray, by kernel_rfl, by kernel_rfl⟩
theorem at_u64 (b n c k : Nat) (hk : k < n) (w : World) : (Instr.indexAt 103 (.slice (some ⟨b, 0, none⟩) n c) (.int .i64 (k : Int))).run Tryd.prog w = .ok (.pointer (some ⟨b, k, none⟩)) w := by
 have hu : Tryd.prog.underlying 103 = some (.slice (Tryd.prog.elem 103)) := by kernel_rfl
 have he : Tryd.prog.elem 103 = 22 := by kernel_rfl
 have hz : ∀ w, (sizeOf 22).run Tryd.prog w = .ok 1 w := fun w => by kernel_rfl
 rw [run_indexAt_slice w 103 ⟨b, 0, none⟩ n c .i64 (k : Int) hu, if_pos ⟨by omega, by omega⟩, he, hz]
 simp only [Result.andThen, Int.toNat_natCast, Nat.mul_one, Addr.add_mid, Nat.zero_add]
theorem oneT_tree {x : LeafT} (hx : x.ok) (h1 : x.am ≠ 0) : tlAt KS SS (placed [x]) 1 = .ok (partsT KS SS (placed [x])) := by
 have hok : ∀ l ∈ [x], l.ok := fun l hl => by rw [List.mem_singleton.1 hl]; exact hx
 have h := tl_makes (ls := placed [x]) (placed_ok hok (by simp)) (fun i l h => by
  have hi := (List.getElem?_eq_some_iff.1 h).1
  rw [placed_len] at hi
  obtain rfl : i = 0 := by simpa using hi
  rw [placed_get (l := x) rfl] at h; injection h with h; subst h; exact ⟨rfl, h1⟩) (by show x.am + 0 < _; have := hx.am; omega) 1 (by decide) (by rw [placed_len]; exact Nat.le_refl _)
 exact h
def hfs (OW : List Nat) : List FromT := [frH OW 0 3, frH OW 1 4]
theorem hfs_ok {OW : List Nat} (h : IsHash OW) : ∀ f ∈ hfs OW, f.ok := fun f hf => by
 simp only [hfs, List.mem_cons, List.not_mem_nil, or_false] at hf
 rcases hf with rfl | rfl <;> exact frH_ok h _ _ (by decide) (by decide)
theorem hfs_ow (OW : List Nat) : ∀ f ∈ hfs OW, f.l.ow = OW := fun f hf => by
 simp only [hfs, List.mem_cons, List.not_mem_nil, or_false] at hf
 rcases hf with rfl | rfl <;> rfl
theorem came_hfs {K s0 : List Wd} {OW k : List Nat} {al : FromT → Bool} {r : Nd} (hal : ∀ f ∈ tokd k (hfs OW), al f = true) (hr : r.s = 7) : cameE K s0 al Z32' (tokd k (hfs OW)) r = 0 := by
 have e0 : (tokd k (hfs OW))[0]? = some (tkF k 0 (frH OW 0 3)) := tokd_get rfl
 have e1 : (tokd k (hfs OW))[1]? = some (tkF k 1 (frH OW 1 4)) := tokd_get rfl
 have hl : (tokd k (hfs OW)).length = 2 := by rw [tokd_len]; rfl
 have b0 : leafBad (tkF k 0 (frH OW 0 3)).l = false := rfl
 have b1 : leafBad (tkF k 1 (frH OW 1 4)).l = false := rfl
 have s1 : cameAt K s0 al Z32' (tokd k (hfs OW)) 1 = .ok 3 := by
  rw [cameAt_succ (s := 0) rfl e0, cameStep, if_neg (by rw [b0]; decide), if_neg (by simp [tkF, frH]), if_neg (by simp [twice]), if_neg (by rw [hal _ (List.mem_of_getElem? e0)]; decide)]
  rfl
 have t1 : (tokd k (hfs OW)).take 1 = [tkF k 0 (frH OW 0 3)] := by rw [List.take_add_one, e0]; rfl
 have s2 : cameAt K s0 al Z32' (tokd k (hfs OW)) 2 = .ok 7 := by
  rw [cameAt_succ s1 e1, cameStep, if_neg (by rw [b1]; decide), if_neg (by simp [tkF, frH]), if_neg (by rw [t1]; simp [twice, tkF, frH]), if_neg (by rw [hal _ (List.mem_of_getElem? e1)]; decide)]
  rfl
 unfold cameE
 rw [hl, if_neg (by decide), if_neg (by decide), s2]
 show (if 7 = r.s then (0 : Int) else 34) = 0
 rw [if_pos hr.symm]
theorem came_hfs0 {K s0 : List Wd} {OW : List Nat} {al : FromT → Bool} {r : Nd} (hal : ∀ f ∈ hfs OW, al f = false) : cameE K s0 al Z32' (hfs OW) r = 31 := by
 have e0 : (hfs OW)[0]? = some (frH OW 0 3) := rfl
 have b0 : leafBad (frH OW 0 3).l = false := rfl
 have s1 : cameAt K s0 al Z32' (hfs OW) 1 = .error 31 := by
  rw [cameAt_succ (s := 0) rfl e0, cameStep, if_neg (by rw [b0]; decide), if_neg (by simp [frH]), if_neg (by simp [twice]), if_pos (hal _ (List.mem_of_getElem? e0))]
 unfold cameE
 rw [if_neg (by simp [hfs]), if_neg (by simp [hfs]), cameAt_err s1 _ (by simp [hfs])]
 rfl
theorem pass_hfs {K s0 : List Wd} {T : List Lf} (hT : tlAt K s0 (placed [zLf 7]) 1 = .ok T) {al : FromT → Bool} {fs : List FromT} : passE K s0 al fs (splitL (partNd K s0 256 T) (placed [zLf 7])) = cameE K s0 al Z32' fs (partNd K s0 256 T) := by
 have hw := whole_split (K := K) (s0 := s0) (id := Z32') (ls := [zLf 7]) (T := T) (by decide) (by decide) hT (fun l hl => by rw [List.mem_singleton.1 hl]; rfl)
 obtain ⟨l, ls', hq, hsp, hid⟩ := split_head (r := partNd K s0 256 T) (ls := [zLf 7]) (by decide)
 have hid' : l.id = Z32' := hid
 rw [hq] at hw ⊢
 show (if wholeE K s0 l.id (l :: ls') ≠ 0 then wholeE K s0 l.id (l :: ls') else cameE K s0 al l.id fs l.sp) = _
 rw [hid', if_neg (by rw [hw]; decide), hsp]
theorem OfficeAt.kept {S : Nat → Prop} {w w' : World} {g mb : Nat} {gs : List Gave} {n : Int} (h : OfficeAt w g mb gs n) (hk : Kept S w w') (hg : ¬ S g) (hm : ¬ S mb) : OfficeAt w' g mb gs n := ⟨⟨h.at_.row.kept hk hg, h.at_.map.kept hk hm⟩, h.ok, h.low⟩
theorem at_from0 (b n c k : Nat) (hk : k < n) (w : World) : (Instr.indexAt 68 (.slice (some ⟨b, 0, none⟩) n c) (.int .i64 (k : Int))).run Tryd.prog w = .ok (.pointer (some ⟨b, k * 164, none⟩)) w := by
 have := at_from b 0 n c k hk w
 rwa [Nat.zero_add] at this
theorem zero_pass : ∀ w, (zeroValue 88).run Tryd.prog w = .ok (.agg #[.slice none 0 0, .slice none 0 0]) w := fun w => by kernel_rfl
theorem alloc_two (w : World) (C : Array Value) (t : TypeId) (ht : t ≠ 86) : ∃ W, W = (w.alloc (.cells #[] 86)).alloc (.cells C t) ∧ Below w.heap.size w W ∧ Has W (w.heap.size + 1) t C ∧ W.ownsRow w.heap.size 86 164 (.slice (some ⟨w.heap.size, 0, none⟩) 0 0) 0 [] := by
 refine ⟨_, rfl, ((Below.refl _ _).alloc (Nat.le_refl _) _).alloc (by simp) _, ?_, ?_⟩
 · have := Has.new (w.alloc (.cells #[] 86)) t C
   simpa using this
 · exact own_kept (own_empty (Nat.le_refl _) 86 164) ((Kept.refl (fun _ => False) _).alloc _) (fun _ _ e => e)
theorem allow_one (K s0 : List Wd) (s wh : List Nat) : allowG K s0 [] s wh = [(tokenK K s0 s wh, ownerK K s0 s, wh)] := by
 unfold allowG findG
 rfl
theorem allowed_one (t ow wh : List Nat) : allowedG [(t, ow, wh)] ow wh t = true := by
 unfold allowedG findG
 simp
set_option maxRecDepth 100000 in
set_option maxHeartbeats 4000000 in
theorem headA_is (w : World) (hT : Tabs KS SS w) : Calls Tryd.prog 24 #[] w fun e w' => e = .returned (.bool true) ∧ Below w.heap.size w w' := by
 obtain ⟨zk, hzk, hzs, hzn⟩ := zero_hashT
 obtain ⟨ZL, hinfo, hzls⟩ := info_leafT
 obtain ⟨ZF, hinff, hzfs⟩ := info_from
 have hlow := hT.low
 have HT := Lib.hid hT
 obtain ⟨LS, hLS⟩ : ∃ L, L = bcells oneH := ⟨_, rfl⟩
 have HBH := Lib.hid (show ∀ v, (Instr.build 39 #[(0, .int .u8 1)]).run Tryd.prog v = .ok (.agg LS.toArray) v by rw [hLS]; exact build_oneH)
 have SZS := Lib.hid (show (Tryd.prog.info? 39).map (·.size) = some LS.toArray.size by rw [hLS]; kernel_rfl)
 have SZH := Lib.hid (show zk.size = LS.toArray.size by rw [hzs, hLS]; rfl)
 have HONES := Lib.hid (show LS.toArray.all (·.oneCell') = true by rw [hLS]; exact all_oneCell_toArray (bcells_one _))
 obtain ⟨ii, hii⟩ : ∃ ii, Tryd.prog.info? 81 = some ii ∧ ii.zero = some (.agg ZL) ∧ ii.size = 99 := by
  obtain ⟨ii, q1, q2, q3, -⟩ := info_parts hinfo
  exact ⟨ii, q1, q2, q3⟩
 have HII := Lib.hid hii
 obtain ⟨CX, hCX⟩ : ∃ L, L = (zLf 7).cells := ⟨_, rfl⟩
 have HB7 := Lib.hid (show ∀ v, (Instr.build 81 #[(1, .int .u64 7)]).run Tryd.prog v = .ok (.agg CX.toArray) v by rw [hCX]; exact zLf_build 7)
 have LX := Lib.hid (show CX.length = 99 by rw [hCX]; exact LeafT.len (zLf_ok 7 (by decide)))
 have HZL := Lib.hid hzls
 have ELS := Lib.hid hLS
 have ECX := Lib.hid hCX
 have HINFF := Lib.hid hinff
 have HZF := Lib.hid hzfs
 have HZS := Lib.hid hzs
 clear hT hLS hii hCX hzls hinfo hinff hzfs hzs
 go_enter Tryd.func24, Tryd.ntmps24
 go_wp2_with fail
 refine (tkNew_is _).mono ?_
 rintro _ w1 ⟨g, mb, rfl, hoff, hg, hmb, hb1⟩
 have HO1 := Lib.hid (show OfficeAt w1 g mb [] 0 from ⟨hoff, fun x hx => absurd hx List.not_mem_nil, Nat.le_trans hlow hmb⟩)
 have HB1 := Lib.hid hb1
 have HG := Lib.hid (And.intro hg hmb)
 have HNW := Lib.hid (show ∀ C, Has ((w1.alloc (.cells zk 39)).setRow w1.heap.size C) w1.heap.size 39 C ∧ Below w1.heap.size w1 ((w1.alloc (.cells zk 39)).setRow w1.heap.size C) from fun C => by
  rw [World.setRow_alloc_new]
  exact ⟨Has.new w1 _ _, (Below.refl _ _).alloc (Nat.le_refl _) _⟩)
 clear hoff hg hmb hb1
 go_upto_region 3 with (first
  | (refine wpList_build_run rfl 39 #[(0, .const (.int .u8 1))] rfl #[(0, .int .u8 1)] (by kernel_rfl) (.agg LS.toArray) (HBH.out _) ?_)
  | (refine wpList_store_row rfl 39 (.tmp 2) (.tmp 12) rfl w1.heap.size LS.toArray rfl rfl 39 zk (heap_alloc_new w1 _) SZS.out SZH.out HONES.out ?_))
 obtain ⟨h2, hb2⟩ := HNW.out LS.toArray
 clear HNW
 have HO2 := Lib.hid (HO1.out.below hb2)
 have HB2 := Lib.hid (HB1.out.trans (hb2.mono HB1.out.size))
 generalize (w1.alloc (.cells zk 39)).setRow w1.heap.size LS.toArray = W2 at h2 hb2 HO2 HB2 ⊢
 have hg2 : w.heap.size ≤ w1.heap.size := HB1.out.size
 generalize w1.heap.size = B2 at h2 hg2 ⊢
 have H2 := Lib.hid h2
 have HG2 := Lib.hid hg2
 obtain ⟨W3, hW3⟩ : ∃ W, W = W2.alloc (.cells CX.toArray 81) := ⟨_, rfl⟩
 have hok7 : ∀ l ∈ [zLf 7], l.ok := fun l hl => by rw [List.mem_singleton.1 hl]; exact zLf_ok 7 (by decide)
 have hh3 : Has W3 W2.heap.size 81 ([zLf 7].flatMap LeafT.cells).toArray := by
  rw [hW3, ECX.out]
  simpa using Has.new W2 81 (zLf 7).cells.toArray
 have hb3 : Below W2.heap.size W2 W3 := by rw [hW3]; exact (Below.refl _ _).alloc (Nat.le_refl _) _
 have HC3 := Lib.hid (lfParts_is KS SS W3 (HT.out.below (HB2.out.trans (hb3.mono HB2.out.size)) hlow) (some ⟨W2.heap.size, 0, none⟩) 1 1 [zLf 7] (rows_has hh3 (len_cells hok7)) hok7 (by decide))
 have HB3 := Lib.hid hb3
 have EW3 := Lib.hid hW3
 clear hh3 hb3 hW3 h2 hb2 HO1 HB1
 go_wp2_with (first
  | (refine wpList_build_run rfl 81 #[(1, .const (.int .u64 7))] rfl #[(1, .int .u64 7)] (by kernel_rfl) (.agg CX.toArray) (HB7.out _) ?_)
  | (refine wpList_build1 rfl 69 81 (.tmp 14) rfl ii (.agg ZL) Tryd.underlying69 HII.out.1 HII.out.2.1 CX (by rw [HII.out.2.2, LX.out]) (by rw [LX.out]; exact HZL.out) (by rw [LX.out]; decide) (by rw [LX.out]; decide) rfl ?_))
 rw [← EW3.out]
 refine HC3.out.mono ?_
 rintro _ w6 ⟨hb6, hm⟩
 rw [oneT_tree (zLf_ok 7 (by decide)) (by decide)] at hm
 dsimp only at hm
 obtain ⟨a1, cp, rfl, hown⟩ := hm
 have hTT := oneT_tree (zLf_ok 7 (by decide)) (by decide)
 obtain ⟨T, hTq⟩ : ∃ T, T = partsT KS SS (placed [zLf 7]) := ⟨_, rfl⟩
 rw [← hTq] at hTT hown
 obtain ⟨b, rfl, hgb, hl, hrh, hrs, hr64, hso, hrow⟩ := ps_out hok7 rfl (by decide) (by decide) hTT hown
 have HPE := Lib.hid (show ∀ al fs, passE KS SS al fs (splitL (partNd KS SS 256 T) (placed [zLf 7])) = cameE KS SS al Z32' fs (partNd KS SS 256 T) from fun al fs => pass_hfs hTT)
 obtain ⟨sl, sls, hslq, hslp, -⟩ := split_head (r := partNd KS SS 256 T) (ls := [zLf 7]) (by decide)
 obtain ⟨r, hr⟩ : ∃ r, r = partNd KS SS 256 T := ⟨_, rfl⟩
 rw [← hr] at hrs hrow hso hrh hr64 HPE hslq hslp
 have hb26 := HB3.out.trans (hb6.mono HB3.out.size)
 have HB6 := Lib.hid (HB2.out.trans (hb26.mono HB2.out.size))
 have HO6 := Lib.hid (HO2.out.below hb26)
 have H26 := Lib.hid (H2.out.below hb26 H2.out.lt)
 have HRS := Lib.hid (show r.s = 7 from hrs)
 have HRH := Lib.hid (And.intro hrh hr64)
 obtain ⟨outs, houts⟩ : ∃ L, L = splitL r (placed [zLf 7]) := ⟨_, rfl⟩
 rw [← houts] at hso hrow HPE hslq
 have HSO := Lib.hid hso
 have HROW := Lib.hid hrow
 have HSL := Lib.hid (And.intro hslq hslp)
 have HGB := Lib.hid (show g < b ∧ mb < b from by
  have q1 := HO2.out.at_.row.lt
  have q2 := HO2.out.at_.map.lt
  have q3 := HB3.out.size
  omega)
 have hx0 : ((0 : Int) != 0) = false := by decide
 have hx1 : ((1 : Int) != 1) = false := by decide
 clear hown hTT hTq hgb hl hrh hrs hr64 hso hrow hslq hslp hr hb26 hb6 houts HC3 EW3 HB3 HO2 HB2 H2
 obtain ⟨OW, hOW⟩ : ∃ D, D = ownerK KS SS oneH := ⟨_, rfl⟩
 have how : IsHash OW := by rw [hOW]; exact tagD_hash KS SS (by decide) _ _
 have HOW := Lib.hid how
 have EOW := Lib.hid hOW
 have HOWN := Lib.hid (show ∀ v, Below w.heap.size w v → Calls Tryd.prog 54 #[.agg LS.toArray] v fun e w' => e = .returned (.agg (bcells OW).toArray) ∧ Below v.heap.size v w' from fun v hv => by
  have := tkOwner_is KS SS v (HT.out.below hv hlow) oneH oneH_hash
  unfold arr at this
  rw [← ELS.out, ← EOW.out] at this
  exact this)
 obtain ⟨W7, hW7, hb7, hn7, ho7⟩ := alloc_two w6 #[.int .u64 3, .int .u64 4] 22 (by decide)
 obtain ⟨N7, hN7⟩ : ∃ n, n = w6.heap.size + 1 := ⟨_, rfl⟩
 rw [← hN7] at hn7
 have HSTART := Lib.hid (And.intro ho7 (And.intro hn7 hb7))
 obtain ⟨fi, hfi⟩ : ∃ ii, Tryd.prog.info? 86 = some ii ∧ ii.zero = some (.agg ZF) ∧ ii.size = 164 := by
  obtain ⟨ii, q1, q2, q3, -⟩ := info_parts HINFF.out
  exact ⟨ii, q1, q2, q3⟩
 have HFI := Lib.hid hfi
 have EW7 := Lib.hid hW7
 have EN7 := Lib.hid hN7
 clear hOW how hW7 hb7 hn7 ho7 hN7 hfi
 go_wp2_with fail
 rw [← EW7.out, ← EN7.out]
 clear hx0 hx1
 go_loopw [5, 29] (fun bv iv wr => ∃ (k : Nat) (oa : Option Addr) (oc : Nat), iv = .int .i64 (k : Int) ∧ k ≤ 2 ∧ bv = .slice oa k oc ∧ wr.ownsRow w6.heap.size 86 164 (.slice oa k oc) k (((hfs OW).take k).flatMap FromT.cells) ∧ Has wr N7 22 #[.int .u64 3, .int .u64 4] ∧ Below w6.heap.size w6 wr) (fun _ iv _ => 2 - (intOf iv).toNat)
 case atStart => exact ⟨0, _, 0, rfl, Nat.zero_le _, rfl, HSTART.out.1, HSTART.out.2.1, HSTART.out.2.2⟩
 case round =>
  clear HSTART EW7 EN7
  obtain ⟨k, oa, oc, rfl, hk, rfl, hown, hnums, hbel⟩ := hrel
  have HBE := Lib.hid hbel
  have HWW := Lib.hid (HB6.out.trans (hbel.mono HB6.out.size))
  have HOWNR := Lib.hid hown
  have HNUM := Lib.hid hnums
  clear hbel hown hnums
  by_cases hlt : k < 2
  · have hlt' : (k : Int) < 2 := by omega
    obtain ⟨nk, hnk1, hnk2, hnk3⟩ : ∃ nk : Nat, (#[Value.int .u64 3, Value.int .u64 4] : Array Value)[k]? = some (.int .u64 (nk : Int)) ∧ (hfs OW)[k]? = some (frH OW k nk) ∧ nk < 18446744073709551616 := by
     rcases (by omega : k = 0 ∨ k = 1) with rfl | rfl
     · exact ⟨3, rfl, rfl, by decide⟩
     · exact ⟨4, rfl, rfl, by decide⟩
    have hcn : wr.cell? ⟨N7, k, none⟩ = some (.int .u64 (nk : Int)) := HNUM.out.cell_is hnk1
    have hatn := at_u64 N7 2 2 k hlt
    have hfok : (frH OW k nk).ok := frH_ok HOW.out k nk (by omega) hnk3
    obtain ⟨PT, hPT⟩ : ∃ L, L = ptCells Z32' (k : Int) := ⟨_, rfl⟩
    obtain ⟨NV, hNV⟩ : ∃ L, L = ndV ⟨Z32', nk⟩ := ⟨_, rfl⟩
    obtain ⟨LV, hLV⟩ : ∃ L, L = LeafT.cells ⟨Z32', nk, OW, 0, ⟨Z32', nk⟩⟩ := ⟨_, rfl⟩
    obtain ⟨FV, hFV⟩ : ∃ L, L = (frH OW k nk).cells := ⟨_, rfl⟩
    obtain ⟨OC, hOC⟩ : ∃ L, L = bcells OW := ⟨_, rfl⟩
    have HB1 := Lib.hid (show ∀ v, (Instr.build 84 #[(1, .int .i64 (k : Int))]).run Tryd.prog v = .ok (.agg PT.toArray) v by rw [hPT]; exact build_pt _)
    have HB2 := Lib.hid (show ∀ v, (Instr.build 79 #[(1, .int .u64 (nk : Int))]).run Tryd.prog v = .ok (.agg NV.toArray) v by rw [hNV]; exact build_nd nk)
    have HB3 := Lib.hid (show ∀ v, (Instr.build 81 #[(1, .int .u64 (nk : Int)), (2, .agg OC.toArray), (4, .agg NV.toArray)]).run Tryd.prog v = .ok (.agg LV.toArray) v by rw [hNV, hLV, hOC]; exact build_lf OW HOW.out.1 nk)
    have HB4 := Lib.hid (show ∀ v, (Instr.build 86 #[(0, .agg PT.toArray), (1, .agg LV.toArray)]).run Tryd.prog v = .ok (.agg FV.toArray) v by rw [hPT, hLV, hFV]; exact build_fr OW HOW.out.1 k nk)
    have LFV := Lib.hid (show FV.length = 164 by rw [hFV]; exact FromT.len hfok)
    have HFOK := Lib.hid hfok
    have EFV := Lib.hid hFV
    have EOC := Lib.hid hOC
    have HTAKE := Lib.hid (show ((hfs OW).take (k + 1)).flatMap FromT.cells = ((hfs OW).take k).flatMap FromT.cells ++ [frH OW k nk].flatMap FromT.cells by rw [List.take_add_one, hnk2, List.flatMap_append]; rfl)
    have HLTK := Lib.hid hlt
    have H2R := Lib.hid (H26.out.below HBE.out H26.out.lt)
    clear hnk1 hnk2 hnk3 hfok hPT hNV hLV hFV hOC hlt hk
    go_upto_region 10 with (fail)
    go_wp2_with (first
     | (refine wpList_build_run rfl 84 #[(1, .tmp 35)] rfl #[(1, .int .i64 (k : Int))] (by kernel_rfl) (.agg PT.toArray) (HB1.out _) ?_)
     | (refine wpList_load_row rfl 39 (.tmp 2) rfl B2 rfl 39 LS.toArray (0, 0) _ H2R.out Tryd.underlying39 rfl SZS.out ?_))
    refine (HOWN.out _ HWW.out).mono ?_
    rintro _ w10 ⟨rfl, hb10⟩
    rw [← EOC.out]
    have hown10 := own_kept HOWNR.out (Kept.of_below (S := fun _ => False) hb10) (fun _ _ e => e)
    have hb10' := HBE.out.trans (hb10.mono HBE.out.size)
    have hnum10 := HNUM.out.below hb10 HNUM.out.lt
    have hal : Below w10.heap.size w10 (w10.alloc (.cells FV.toArray 86)) := (Below.refl _ _).alloc (Nat.le_refl _) _
    have hown11 := own_kept hown10 (Kept.of_below (S := fun _ => False) hal) (fun _ _ e => e)
    have hrows : RowsAt FromT.cells 164 (w10.alloc (.cells FV.toArray 86)) (some ⟨w10.heap.size, 0, none⟩) 1 [frH OW k nk] := rows_has (xs := [frH OW k nk]) (t := 86) (by rw [EFV.out]; simpa using Has.new w10 86 (frH OW k nk).cells.toArray) (fun f hf => by rw [List.mem_singleton.1 hf]; exact FromT.len HFOK.out)
    have HO11 := Lib.hid hown11
    have HRW := Lib.hid hrows
    have HN11 := Lib.hid (hnum10.below hal hnum10.lt)
    have HB11 := Lib.hid (hb10'.trans (hal.mono hb10'.size))
    have HO1X := Lib.hid (show ∀ x ∈ [frH OW k nk], ∀ u ∈ x.cells, u.oneCell' = true from fun x _ u hu => by
     have := FromT.one x
     rw [Array.all_eq_true'] at this
     exact this u (by simpa using hu))
    clear hown10 hb10 hb10' hnum10 hal hown11 hrows hatn hcn
    go_wp2_with (first
     | (refine wpList_build_run rfl 79 #[(1, .tmp 40)] rfl #[(1, .int .u64 (nk : Int))] (by kernel_rfl) (.agg NV.toArray) (HB2.out _) ?_)
     | (refine wpList_build_run rfl 81 #[(1, .tmp 37), (2, .tmp 39), (4, .tmp 41)] rfl #[(1, .int .u64 (nk : Int)), (2, .agg OC.toArray), (4, .agg NV.toArray)] (by kernel_rfl) (.agg LV.toArray) (HB3.out _) ?_)
     | (refine wpList_build_run rfl 86 #[(0, .tmp 36), (1, .tmp 42)] rfl #[(0, .agg PT.toArray), (1, .agg LV.toArray)] (by kernel_rfl) (.agg FV.toArray) (HB4.out _) ?_)
     | (refine wpList_build1 rfl 68 86 (.tmp 43) rfl fi (.agg ZF) Tryd.underlying68 HFI.out.1 HFI.out.2.1 FV (by rw [HFI.out.2.2, LFV.out]) (by rw [LFV.out]; exact HZF.out) (by rw [LFV.out]; decide) (by rw [LFV.out]; decide) rfl ?_)
     | (at_builtin; refine wpList_append_rows rfl (.tmp 34) (.tmp 44) 68 rfl w6.heap.size 86 (.agg ZF) 192 Tryd.underlying68 HINFF.out HZF.out (by decide) _ k _ rfl HO11.out _ 1 1 [frH OW k nk] rfl HRW.out HO1X.out (by have := HLTK.out; unfold maxLen; omega) (by have := HLTK.out; omega) HB11.out.size ?_; intro oa11 oc11 w11 hown12 hgr))
    have HFIN := Lib.hid (show w11.ownsRow w6.heap.size 86 164 (.slice oa11 (k + 1) oc11) (k + 1) (((hfs OW).take (k + 1)).flatMap FromT.cells) ∧ Has w11 N7 22 #[.int .u64 3, .int .u64 4] ∧ Below w6.heap.size w6 w11 from ⟨by rw [HTAKE.out]; exact hown12, HN11.out.grown hgr (fun e => own_has_ne HO11.out HN11.out (by decide) N7 e.symm rfl), HB11.out.grown hgr HB11.out.size (own_blk HO11.out)⟩)
    clear hown12 hgr
    go_wp2_with fail
    go_roundw
    case rel => exact ⟨k + 1, oa11, oc11, by go_num, HLTK.out, rfl, HFIN.out⟩
    case measure => have := HLTK.out; simp [intOf]; omega
  · obtain rfl : k = 2 := by omega
    have hno : ¬ ((2 : Nat) : Int) < 2 := by decide
    have h2own := HOWNR.out
    rw [show (hfs OW).take 2 = hfs OW from rfl] at h2own
    obtain ⟨hrow2, hfar2⟩ := own_rows h2own rfl (tkFlen (hfs_ok HOW.out))
    obtain ⟨bo, cap, cur, e0, hbo, hbhas, hcap, -, -, -⟩ := own_open h2own (by decide)
    injection e0 with e1 e2 e3
    subst e1 e3
    obtain ⟨PC, hPC⟩ : ∃ L, L = (passC (some ⟨bo, 0, none⟩) 2 oc (some ⟨b, 0, none⟩) 1 cp).toArray := ⟨_, rfl⟩
    have HBP := Lib.hid (show ∀ v, (Instr.build 88 #[(0, .slice (some ⟨bo, 0, none⟩) 2 oc), (1, .slice (some ⟨b, 0, none⟩) 1 cp)]).run Tryd.prog v = .ok (.agg PC) v by rw [hPC]; exact build_pass _ _ _ _ _ _)
    have SZP := Lib.hid (show (Tryd.prog.info? 88).map (·.size) = some PC.size by rw [hPC]; kernel_rfl)
    have HZP := Lib.hid (show (#[Value.slice none 0 0, .slice none 0 0] : Array Value).size = PC.size by rw [hPC]; rfl)
    have HOP := Lib.hid (show PC.all (·.oneCell') = true by rw [hPC]; simp [passC, Value.oneCell'])
    have hzp := zero_pass
    have HNP := Lib.hid (show ∀ C, Has ((wr.alloc (.cells #[.slice none 0 0, .slice none 0 0] 88)).setRow wr.heap.size C) wr.heap.size 88 C ∧ Below wr.heap.size wr ((wr.alloc (.cells #[.slice none 0 0, .slice none 0 0] 88)).setRow wr.heap.size C) from fun C => by
     rw [World.setRow_alloc_new]
     exact ⟨Has.new wr _ _, (Below.refl _ _).alloc (Nat.le_refl _) _⟩)
    have EPC := Lib.hid hPC
    have HR2 := Lib.hid hrow2
    have HCAP := Lib.hid hcap
    have HBO := Lib.hid hbo
    have HBOH := Lib.hid hbhas
    clear hPC hrow2 hfar2 hcap hbo hbhas hlt hk h2own
    go_upto_region 13 with (first
     | (refine wpList_build_run rfl 88 #[(0, .tmp 47), (1, .tmp 48)] rfl #[(0, .slice (some ⟨bo, 0, none⟩) 2 oc), (1, .slice (some ⟨b, 0, none⟩) 1 cp)] (by kernel_rfl) (.agg PC) (HBP.out _) ?_)
     | (refine wpList_store_row rfl 88 (.tmp 8) (.tmp 49) rfl wr.heap.size PC rfl rfl 88 #[.slice none 0 0, .slice none 0 0] (heap_alloc_new wr _) SZP.out HZP.out HOP.out ?_))
    obtain ⟨h8, hb8⟩ := HNP.out PC
    clear HNP
    have HG8 := Lib.hid (show w6.heap.size ≤ wr.heap.size from HBE.out.size)
    generalize (wr.alloc (.cells #[.slice none 0 0, .slice none 0 0] 88)).setRow wr.heap.size PC = W12 at h8 hb8 ⊢
    have HB12 := Lib.hid (HBE.out.trans (hb8.mono HBE.out.size))
    have HOWN12 := Lib.hid (own_kept HOWNR.out (Kept.of_below (S := fun _ => False) hb8) (fun _ _ e => e))
    have HR12 := Lib.hid (HR2.out.below hb8)
    generalize wr.heap.size = B8 at h8 HG8 ⊢
    have H8 := Lib.hid h8
    clear h8 hb8 HR2 HNUM HOWNR
    have HT12 := Lib.hid (HT.out.below (HB6.out.trans (HB12.out.mono HB6.out.size)) hlow)
    have HO12 := Lib.hid (HO6.out.below HB12.out)
    have HOUT12 := Lib.hid (HROW.out.below HB12.out)
    have hoks := hfs_ok HOW.out
    have HCH := Lib.hid (psCheck_is KS SS W12 HT12.out (.pointer (some ⟨g, 0, none⟩)) (allowedG []) (offV_some HO12.out) (some ⟨bo, 0, none⟩) 2 oc (hfs OW) HR12.out hoks HCAP.out (by decide) (some ⟨b, 0, none⟩) 1 cp outs HOUT12.out HSO.out (by decide))
    rw [HPE.out, came_hfs0 (fun f _ => by unfold allowedG findG; rfl), ← EPC.out] at HCH
    go_wp2_with (refine wpList_load_row rfl 88 (.tmp 8) rfl B8 rfl 88 PC (0, 0) _ H8.out Tryd.underlying88 rfl SZP.out ?_)
    refine HCH.out.mono ?_
    rintro _ w13 ⟨rfl, hb13⟩
    have HB13 := Lib.hid (HB12.out.trans (hb13.mono HB12.out.size))
    have HOWN13 := Lib.hid (own_kept HOWN12.out (Kept.of_below (S := fun _ => False) hb13) (fun _ _ e => e))
    have HR13 := Lib.hid (HR12.out.below hb13)
    have H813 := Lib.hid (H8.out.below hb13 H8.out.lt)
    have hx31 : ((31 : Int) != 31) = false := by decide
    clear hb13 HCH HT12 HO12 HOUT12 HOWN12 HR12 H8
    go_upto_region 15 with (fail)
    clear hx31
    have HT13 := Lib.hid (HT.out.below (HB6.out.trans (HB13.out.mono HB6.out.size)) hlow)
    have HO13 := Lib.hid (HO6.out.below HB13.out)
    have HOUT13 := Lib.hid (HROW.out.below HB13.out)
    have H213 := Lib.hid (H26.out.below HB13.out H26.out.lt)
    obtain ⟨WH, hWH⟩ : ∃ D, D = whatK KS SS (hfs OW) r := ⟨_, rfl⟩
    have hwh : IsHash WH := by rw [hWH]; exact tagD_hash KS SS (by decide) _ _
    obtain ⟨TK, hTK⟩ : ∃ D, D = tokenK KS SS oneH WH := ⟨_, rfl⟩
    have htk : IsHash TK := by rw [hTK]; exact tagD_hash KS SS (by decide) _ _
    obtain ⟨LK, hLK⟩ : ∃ L, L = bcells TK := ⟨_, rfl⟩
    have hl32 : LK.length = 32 := by rw [hLK, bcells_length, htk.1]
    have SZK := Lib.hid (show (Tryd.prog.info? 39).map (·.size) = some LK.toArray.size by rw [List.size_toArray, hl32]; kernel_rfl)
    have SZ2 := Lib.hid (show zk.size = LK.length by rw [HZS.out, hl32])
    have HONEK := Lib.hid (show LK.toArray.all (·.oneCell') = true by rw [hLK]; exact all_oneCell_toArray (bcells_one _))
    have SZSL := Lib.hid (show (Tryd.prog.info? 39).map (·.size) = some LS.length by rw [← List.size_toArray]; exact SZS.out)
    have SZN := Lib.hid (show (Tryd.prog.info? 79).map (·.size) = some (ndV r).length by rw [ndV_len HRH.out.1]; kernel_rfl)
    have hrow0 : ∀ v, Kept (fun j => j = g ∨ j = mb) w13 v → v.rangeAt B2 0 LS ∧ v.rangeAt b 66 (ndV r) := fun v hv => by
     have hgb := HGB.out
     refine ⟨(H213.out.kept hv (fun e => e.elim (fun e => H213.out.ne HO13.out.at_.row (by decide) e) (fun e => has_ne_map H213.out HO13.out.at_.map e))).row0, ?_⟩
     obtain ⟨bb, bo', he, hbl, hrr⟩ := HOUT13.out.at_ (by decide)
     injection he with he
     injection he with he1 he2
     subst he1 he2
     have h0 := hrr 0 sl (by rw [HSL.out.1]; rfl)
     rw [Nat.zero_mul, Nat.add_zero] at h0
     have h1 := leaf_sp (HSO.out sl (by rw [HSL.out.1]; exact List.mem_cons_self)) h0
     rw [HSL.out.2, Nat.zero_add] at h1
     exact rangeAt_kept h1 hv (fun e => by rcases e with e | e <;> omega)
    have HX15 := Lib.hid hrow0
    have HTK := Lib.hid (show ∀ v, Kept (fun j => j = g ∨ j = mb) w13 v → Tabs KS SS v from fun v hv => HT13.out.kept hv (fun k e => by have := HG.out; rcases e with e | e <;> omega))
    have hgl := HO6.out.at_.row.lt
    have hml := HO6.out.at_.map.lt
    have HGL := Lib.hid (And.intro hgl hml)
    have HWHAT := Lib.hid (show ∀ v, Kept (fun j => j = g ∨ j = mb) w13 v → Calls Tryd.prog 28 #[.slice (some ⟨bo, 0, none⟩) 2 oc, .agg (ndV r).toArray] v fun e w' => e = .returned (.agg (bcells WH).toArray) ∧ Below v.heap.size v w' from fun v hv => by
     have := psWhat_is KS SS v (HTK.out v hv) (some ⟨bo, 0, none⟩) 2 oc (hfs OW) (HR13.out.kept hv (fun a ha e => by injection ha with ha; subst ha; have := HBO.out; have h2 := HGL.out; rcases e with e | e <;> (dsimp only at e; omega))) hoks (by decide) r HRH.out.1 HRH.out.2
     unfold arr at this
     rw [← hWH] at this
     exact this)
    have hof : OfficeAt w13.drew g mb [] 0 := HO13.out.below (below_drew (Below.refl _ _))
    have EWH := Lib.hid hWH
    have HWHH := Lib.hid hwh
    have ETK := Lib.hid hTK
    have HTKH := Lib.hid htk
    have ELK := Lib.hid hLK
    have hat0 := leaf_at0 b 1 cp (by decide)
    have HAT0 := Lib.hid hat0
    have HOKS := Lib.hid hoks
    clear hWH hwh hTK htk hLK hl32 hrow0 hgl hml hat0 hoks
    go_cut [9] from 54 (fun tv wx => ∃ G9, tv = .pointer (some ⟨G9, 0, none⟩) ∧ Has wx G9 39 LK.toArray ∧ w13.heap.size ≤ G9 ∧ (∃ m, OfficeAt wx g mb [(TK, OW, WH)] m) ∧ Kept (fun j => j = g ∨ j = mb) w13 wx)
    case first =>
     have hS0 : Kept (fun j => j = g ∨ j = mb) w13 w13.drew := (Kept.refl _ _).drew
     refine wp_region_noPanic ?_
     refine wp_region_held_drew (S := (fun v => Kept (fun j => j = g ∨ j = mb) w13 v)) (by kernel_rfl) hS0 (fun hH0 => ?_)
     apply tk 0 (v := _) rfl (Or.inl ⟨by kernel_rfl, ?hv⟩) hH0 ?_
     case hv => intro w' hS; have z0 := HAT0.out w'; go_simp; try exact rfl
     simp only [Act.put, qa]
     refine tk 1 (v := (.agg LS.toArray)) rfl (yieldsIf_load_mid (by kernel_rfl) 39 (.tmp 2) rfl B2 0 rfl LS _ (fun w' h => (HX15.out _ h).1) Tryd.underlying39 rfl SZSL.out) hH0 ?_
     simp only [Act.put, qa]
     apply tk 2 (v := _) rfl (Or.inl ⟨by kernel_rfl, ?hv⟩) hH0 ?_
     case hv => intro w' hS; have z0 := HAT0.out w'; go_simp; try exact rfl
     simp only [Act.put, qa]
     apply tk 3 (v := _) rfl (Or.inl ⟨by kernel_rfl, ?hv⟩) hH0 ?_
     case hv => intro w' hS; have z0 := HAT0.out w'; go_simp; try exact rfl
     simp only [Act.put, qa]
     apply tk 4 (v := _) rfl (Or.inl ⟨by kernel_rfl, ?hv⟩) hH0 ?_
     case hv => intro w' hS; have z0 := HAT0.out w'; go_simp; try exact rfl
     simp only [Act.put, qa]
     apply tk 5 (v := _) rfl (Or.inl ⟨by kernel_rfl, ?hv⟩) hH0 ?_
     case hv => intro w' hS; have z0 := HAT0.out w'; go_simp; try exact rfl
     simp only [Act.put, qa]
     refine tk 6 (v := (.agg (ndV r).toArray)) rfl (yieldsIf_load_mid (by kernel_rfl) 79 (.tmp 59) rfl b 66 rfl (ndV r) _ (fun w' h => (HX15.out _ h).2) Tryd.underlying79 rfl SZN.out) hH0 ?_
     simp only [Act.put, qa]
     refine wpAnyH_ready (rs := [7, 9]) (by kernel_rfl) (by simp) ?_
     refine AllReadyH.cons rfl (fun KK hKK => ?_) (AllReadyH.cons rfl (fun KK hKK => ?_) AllReadyH.nil)
     · go_simp
       refine (HWHAT.out _ hH0).mono ?_
       rintro _ x7 ⟨rfl, hx7⟩
       have hs7 : Kept (fun j => j = g ∨ j = mb) w13 x7 := hH0.trans (Kept.of_below hx7)
       have hof7 := hof.below hx7
       try replace hz := hz.below hx7 hz.lt
       clear hx7 hof
       refine Shut.out hKK _ _ hs7 (fun hH1 => ?_)
       clear hKK KK
       try simp only [Act.put, qa]
       refine wpAnyH_ready (rs := [8, 9]) (by kernel_rfl) (by simp) ?_
       refine AllReadyH.cons rfl (fun KK hKK => ?_) (AllReadyH.cons rfl (fun KK hKK => ?_) AllReadyH.nil)
       · go_simp
         have hcl := tkAllow_is KS SS _ (HTK.out _ hH1) g mb [] 0 hof7 (by decide) (by decide) oneH WH oneH_hash HWHH.out
         unfold arr at hcl
         rw [← ELS.out, ← ETK.out, ← ELK.out] at hcl
         refine hcl.mono ?_
         rintro _ x8 ⟨rfl, ⟨m8, ho8, hm8a, hm8b⟩, hk8⟩
         rw [allow_one, ← ETK.out, ← EOW.out] at ho8
         have hs8 : Kept (fun j => j = g ∨ j = mb) w13 x8 := hH1.trans hk8
         try replace hz := hz.kept hk8 (fun e => by have := HGL.out; have h2 := HB13.out.size; rcases e with e | e <;> omega)
         clear hcl hof7 hk8
         refine Shut.out hKK _ _ hs8 (fun hH2 => ?_)
         clear hKK KK
         try simp only [Act.put, qa]
         refine wpAnyH_ready (rs := [9]) (by kernel_rfl) (by simp) ?_
         refine AllReadyH.cons rfl (fun KK hKK => ?_) AllReadyH.nil
         go_simp
         obtain ⟨xz, hxz⟩ : ∃ y, y = x8.alloc (.cells zk 39) := ⟨_, rfl⟩
         first | rw [← hxz] | (change KK _ (x8.alloc (.cells zk 39)); rw [← hxz])
         have hnxz : Below x8.heap.size x8 xz := by rw [hxz]; exact (Below.refl _ _).alloc (Nat.le_refl _) _
         have hz : Has xz x8.heap.size 39 zk := by rw [hxz]; exact Has.new _ _ _
         have hzb : w13.heap.size ≤ x8.heap.size := hH2.size
         obtain ⟨G9, hG9⟩ : ∃ y, y = x8.heap.size := ⟨_, rfl⟩
         first | rw [← hG9] | (have hq : w13.heap.size = G9 := hG9.symm; rw [hq]; clear hq)
         rw [← hG9] at hz hzb
         clear hG9
         try replace hof := hof.below hnxz
         try replace hof7 := hof7.below hnxz
         try replace ho8 := ho8.below hnxz
         have hsxz : Kept (fun j => j = g ∨ j = mb) w13 xz := hH2.trans (Kept.of_below hnxz)
         clear hxz hnxz
         refine Shut.out hKK _ _ hsxz (fun hH3 => ?_)
         clear hKK KK
         try simp only [Act.put, qa]
         refine wpAnyH_ready (rs := [10]) (by kernel_rfl) (by simp) ?_
         refine AllReadyH.cons rfl (fun KK hKK => ?_) AllReadyH.nil
         refine step_store_mid rfl 39 (.tmp 9) (.tmp 62) rfl G9 0 LK.toArray rfl rfl (hz.there 0 _ (by rw [List.size_toArray, SZ2.out]; exact Nat.le_of_eq (Nat.zero_add _))) SZK.out HONEK.out ?_
         have hset := set_box (Below.refl 0 xz) hz (Nat.zero_le _) (Nat.zero_le _) SZ2.out
         obtain ⟨xb, hxb⟩ : ∃ y, y = xz.setCells G9 0 LK := ⟨_, rfl⟩
         rw [← hxb] at hset
         change KK _ (xz.setCells G9 0 LK)
         rw [← hxb]
         have hsxb : Kept (fun j => j = g ∨ j = mb) w13 xb := hH3.step hset.2.2 (fun k e => .inr (by have e' : k = G9 := e; omega))
         have hof9 : OfficeAt xb g mb [(TK, OW, WH)] m8 := ho8.kept hset.2.2 (fun e => by have e' : g = G9 := e; have := HGL.out; have h2 := HB13.out.size; omega) (fun e => by have e' : mb = G9 := e; have := HGL.out; have h2 := HB13.out.size; omega)
         clear hxb
         refine Shut.out hKK _ _ hsxb (fun hH4 => ?_)
         clear hKK KK
         try simp only [Act.put, qa]
         refine wpAnyH_done (by kernel_rfl) ?_ _
         refine NoPanic.normal ?_
         have HF := Lib.hid hset.2.1
         have HS := Lib.hid hsxb
         have HF9 := Lib.hid hof9
         have HZ9 := Lib.hid hzb
         clear hset hsxb hof9 ho8 hz hzb
         go_wp2_with fail
         go_meet
         case rel => exact ⟨_, rfl, HF.out, HZ9.out, ⟨_, HF9.out⟩, HS.out⟩
       · go_simp
         obtain ⟨xz, hxz⟩ : ∃ y, y = x7.alloc (.cells zk 39) := ⟨_, rfl⟩
         first | rw [← hxz] | (change KK _ (x7.alloc (.cells zk 39)); rw [← hxz])
         have hnxz : Below x7.heap.size x7 xz := by rw [hxz]; exact (Below.refl _ _).alloc (Nat.le_refl _) _
         have hz : Has xz x7.heap.size 39 zk := by rw [hxz]; exact Has.new _ _ _
         have hzb : w13.heap.size ≤ x7.heap.size := hH1.size
         obtain ⟨G9, hG9⟩ : ∃ y, y = x7.heap.size := ⟨_, rfl⟩
         first | rw [← hG9] | (have hq : w13.heap.size = G9 := hG9.symm; rw [hq]; clear hq)
         rw [← hG9] at hz hzb
         clear hG9
         try replace hof := hof.below hnxz
         try replace hof7 := hof7.below hnxz
         try replace ho8 := ho8.below hnxz
         have hsxz : Kept (fun j => j = g ∨ j = mb) w13 xz := hH1.trans (Kept.of_below hnxz)
         clear hxz hnxz
         refine Shut.out hKK _ _ hsxz (fun hH2 => ?_)
         clear hKK KK
         try simp only [Act.put, qa]
         refine wpAnyH_ready (rs := [8]) (by kernel_rfl) (by simp) ?_
         refine AllReadyH.cons rfl (fun KK hKK => ?_) AllReadyH.nil
         go_simp
         have hcl := tkAllow_is KS SS _ (HTK.out _ hH2) g mb [] 0 hof7 (by decide) (by decide) oneH WH oneH_hash HWHH.out
         unfold arr at hcl
         rw [← ELS.out, ← ETK.out, ← ELK.out] at hcl
         refine hcl.mono ?_
         rintro _ x8 ⟨rfl, ⟨m8, ho8, hm8a, hm8b⟩, hk8⟩
         rw [allow_one, ← ETK.out, ← EOW.out] at ho8
         have hs8 : Kept (fun j => j = g ∨ j = mb) w13 x8 := hH2.trans hk8
         try replace hz := hz.kept hk8 (fun e => by have := HGL.out; have h2 := HB13.out.size; rcases e with e | e <;> omega)
         clear hcl hof7 hk8
         refine Shut.out hKK _ _ hs8 (fun hH3 => ?_)
         clear hKK KK
         try simp only [Act.put, qa]
         refine wpAnyH_ready (rs := [10]) (by kernel_rfl) (by simp) ?_
         refine AllReadyH.cons rfl (fun KK hKK => ?_) AllReadyH.nil
         refine step_store_mid rfl 39 (.tmp 9) (.tmp 62) rfl G9 0 LK.toArray rfl rfl (hz.there 0 _ (by rw [List.size_toArray, SZ2.out]; exact Nat.le_of_eq (Nat.zero_add _))) SZK.out HONEK.out ?_
         have hset := set_box (Below.refl 0 x8) hz (Nat.zero_le _) (Nat.zero_le _) SZ2.out
         obtain ⟨xb, hxb⟩ : ∃ y, y = x8.setCells G9 0 LK := ⟨_, rfl⟩
         rw [← hxb] at hset
         change KK _ (x8.setCells G9 0 LK)
         rw [← hxb]
         have hsxb : Kept (fun j => j = g ∨ j = mb) w13 xb := hH3.step hset.2.2 (fun k e => .inr (by have e' : k = G9 := e; omega))
         have hof9 : OfficeAt xb g mb [(TK, OW, WH)] m8 := ho8.kept hset.2.2 (fun e => by have e' : g = G9 := e; have := HGL.out; have h2 := HB13.out.size; omega) (fun e => by have e' : mb = G9 := e; have := HGL.out; have h2 := HB13.out.size; omega)
         clear hxb
         refine Shut.out hKK _ _ hsxb (fun hH4 => ?_)
         clear hKK KK
         try simp only [Act.put, qa]
         refine wpAnyH_done (by kernel_rfl) ?_ _
         refine NoPanic.normal ?_
         have HF := Lib.hid hset.2.1
         have HS := Lib.hid hsxb
         have HF9 := Lib.hid hof9
         have HZ9 := Lib.hid hzb
         clear hset hsxb hof9 ho8 hz hzb
         go_wp2_with fail
         go_meet
         case rel => exact ⟨_, rfl, HF.out, HZ9.out, ⟨_, HF9.out⟩, HS.out⟩
     · go_simp
       obtain ⟨xz, hxz⟩ : ∃ y, y = w13.drew.alloc (.cells zk 39) := ⟨_, rfl⟩
       first | rw [← hxz] | (change KK _ (w13.drew.alloc (.cells zk 39)); rw [← hxz])
       have hnxz : Below w13.drew.heap.size w13.drew xz := by rw [hxz]; exact (Below.refl _ _).alloc (Nat.le_refl _) _
       have hz : Has xz w13.drew.heap.size 39 zk := by rw [hxz]; exact Has.new _ _ _
       have hzb : w13.heap.size ≤ w13.drew.heap.size := hH0.size
       obtain ⟨G9, hG9⟩ : ∃ y, y = w13.drew.heap.size := ⟨_, rfl⟩
       first | rw [← hG9] | (have hq : w13.heap.size = G9 := hG9.symm; rw [hq]; clear hq)
       rw [← hG9] at hz hzb
       clear hG9
       try replace hof := hof.below hnxz
       try replace hof7 := hof7.below hnxz
       try replace ho8 := ho8.below hnxz
       have hsxz : Kept (fun j => j = g ∨ j = mb) w13 xz := hH0.trans (Kept.of_below hnxz)
       clear hxz hnxz
       refine Shut.out hKK _ _ hsxz (fun hH1 => ?_)
       clear hKK KK
       try simp only [Act.put, qa]
       refine wpAnyH_ready (rs := [7]) (by kernel_rfl) (by simp) ?_
       refine AllReadyH.cons rfl (fun KK hKK => ?_) AllReadyH.nil
       go_simp
       refine (HWHAT.out _ hH1).mono ?_
       rintro _ x7 ⟨rfl, hx7⟩
       have hs7 : Kept (fun j => j = g ∨ j = mb) w13 x7 := hH1.trans (Kept.of_below hx7)
       have hof7 := hof.below hx7
       try replace hz := hz.below hx7 hz.lt
       clear hx7 hof
       refine Shut.out hKK _ _ hs7 (fun hH2 => ?_)
       clear hKK KK
       try simp only [Act.put, qa]
       refine wpAnyH_ready (rs := [8]) (by kernel_rfl) (by simp) ?_
       refine AllReadyH.cons rfl (fun KK hKK => ?_) AllReadyH.nil
       go_simp
       have hcl := tkAllow_is KS SS _ (HTK.out _ hH2) g mb [] 0 hof7 (by decide) (by decide) oneH WH oneH_hash HWHH.out
       unfold arr at hcl
       rw [← ELS.out, ← ETK.out, ← ELK.out] at hcl
       refine hcl.mono ?_
       rintro _ x8 ⟨rfl, ⟨m8, ho8, hm8a, hm8b⟩, hk8⟩
       rw [allow_one, ← ETK.out, ← EOW.out] at ho8
       have hs8 : Kept (fun j => j = g ∨ j = mb) w13 x8 := hH2.trans hk8
       try replace hz := hz.kept hk8 (fun e => by have := HGL.out; have h2 := HB13.out.size; rcases e with e | e <;> omega)
       clear hcl hof7 hk8
       refine Shut.out hKK _ _ hs8 (fun hH3 => ?_)
       clear hKK KK
       try simp only [Act.put, qa]
       refine wpAnyH_ready (rs := [10]) (by kernel_rfl) (by simp) ?_
       refine AllReadyH.cons rfl (fun KK hKK => ?_) AllReadyH.nil
       refine step_store_mid rfl 39 (.tmp 9) (.tmp 62) rfl G9 0 LK.toArray rfl rfl (hz.there 0 _ (by rw [List.size_toArray, SZ2.out]; exact Nat.le_of_eq (Nat.zero_add _))) SZK.out HONEK.out ?_
       have hset := set_box (Below.refl 0 x8) hz (Nat.zero_le _) (Nat.zero_le _) SZ2.out
       obtain ⟨xb, hxb⟩ : ∃ y, y = x8.setCells G9 0 LK := ⟨_, rfl⟩
       rw [← hxb] at hset
       change KK _ (x8.setCells G9 0 LK)
       rw [← hxb]
       have hsxb : Kept (fun j => j = g ∨ j = mb) w13 xb := hH3.step hset.2.2 (fun k e => .inr (by have e' : k = G9 := e; omega))
       have hof9 : OfficeAt xb g mb [(TK, OW, WH)] m8 := ho8.kept hset.2.2 (fun e => by have e' : g = G9 := e; have := HGL.out; have h2 := HB13.out.size; omega) (fun e => by have e' : mb = G9 := e; have := HGL.out; have h2 := HB13.out.size; omega)
       clear hxb
       refine Shut.out hKK _ _ hsxb (fun hH4 => ?_)
       clear hKK KK
       try simp only [Act.put, qa]
       refine wpAnyH_done (by kernel_rfl) ?_ _
       refine NoPanic.normal ?_
       have HF := Lib.hid hset.2.1
       have HS := Lib.hid hsxb
       have HF9 := Lib.hid hof9
       have HZ9 := Lib.hid hzb
       clear hset hsxb hof9 ho8 hz hzb
       go_wp2_with fail
       go_meet
       case rel => exact ⟨_, rfl, HF.out, HZ9.out, ⟨_, HF9.out⟩, HS.out⟩
    case rest =>
    obtain ⟨W15, hW15⟩ : ∃ y, y = wc := ⟨_, rfl⟩
    subst hW15
    obtain ⟨G9, rfl, h9, hg9, ⟨m9, ho9⟩, hk15⟩ := hcut
    have hgl := HGL.out
    have hw13 := HB13.out.size
    have HO15 := Lib.hid ho9
    have H9 := Lib.hid h9
    have hk6 : Kept (fun j => j = g ∨ j = mb) w6 W15 := (Kept.of_below HB13.out).trans hk15
    have HOWN15 := Lib.hid (own_kept HOWN13.out hk15 (fun k e ee => by have := own_blk HOWN13.out k e; rcases ee with ee | ee <;> omega))
    have h815 := H813.out.kept hk15 (fun ee => by have := HG8.out; rcases ee with ee | ee <;> omega)
    have H815 := Lib.hid h815
    have hout15 := HROW.out.kept hk6 (fun a ha ee => by injection ha with ha; subst ha; have := HGB.out; rcases ee with ee | ee <;> (dsimp only at ee; omega))
    have HOUT15 := Lib.hid hout15
    have HT15 := Lib.hid (HTK.out W15 hk15)
    have HBF := Lib.hid (show ∀ v, Below w6.heap.size W15 v → Below w.heap.size w v from fun v hv => by
     have h1 : Below w.heap.size w6 W15 := hk6.below HB6.out.size (fun k e => by have := HG.out; rcases e with e | e <;> omega)
     exact HB6.out.trans (h1.trans (hv.mono HB6.out.size)))
    have HS15 := Lib.hid hk15.size
    have hc80 : W15.cell? ⟨B8, 0, none⟩ = some (.slice (some ⟨bo, 0, none⟩) 2 oc) := h815.cell_is (by rw [EPC.out]; rfl)
    clear h9 hg9 ho9 hk15 hk6 h815 hout15
    go_wp2_with fail
    clear hc80
    go_loopw [66] (fun iv wr => ∃ k : Nat, iv = .int .i64 (k : Int) ∧ k ≤ 2 ∧ wr.ownsRow w6.heap.size 86 164 (.slice (some ⟨bo, 0, none⟩) 2 oc) 2 ((turnTo (tkF TK) k (hfs OW)).flatMap FromT.cells) ∧ Has wr G9 39 LK.toArray ∧ Has wr B8 88 PC ∧ Below w6.heap.size W15 wr) (fun iv _ => 2 - (intOf iv).toNat)
    case atStart => exact ⟨0, rfl, Nat.zero_le _, by rw [turnTo_zero]; exact HOWN15.out, H9.out, H815.out, Below.refl _ _⟩
    case round =>
     obtain ⟨k, rfl, hk, hown, hh9, hh8, hbel⟩ := hrel
     have HOK2 := Lib.hid (show ∀ x ∈ turnTo (tkF TK) k (hfs OW), x.ok from turnTo_ok (tkF TK) k (hfs OW) FromT.ok HOKS.out (fun i x hi hx => tkF_ok hx HTKH.out i))
     by_cases hlt : k < 2
     · have hlt' : (k : Int) < 2 := by omega
       obtain ⟨x, hx⟩ : ∃ x, (hfs OW)[k]? = some x := ⟨_, List.getElem?_eq_getElem (show k < (hfs OW).length from hlt)⟩
       have hx2 := turnTo_get (tkF TK) k (hfs OW) k x hx
       rw [if_neg (Nat.lt_irrefl k)] at hx2
       have hxok := HOKS.out x (List.mem_of_getElem? hx)
       obtain ⟨b', hA, hbb, hth, hown2, hk2⟩ := own_set hown (by rw [turnTo_len]; rfl) (tkFlen HOK2.out) hlt x (tkF TK k x) hx2 (FromT.len (tkF_ok hxok HTKH.out k)) 132 LK (by have := SZ2.out; rw [HZS.out] at this; omega) (by rw [ELK.out]; exact tkF_cells hxok HTKH.out k)
       injection hA with hA
       injection hA with hA1 hA2
       subst hA1
       rw [turnTo_succ (tkF TK) k (hfs OW) x hx] at hown2
       have hne9 : bo ≠ G9 := own_has_ne hown hh9 (by decide) bo rfl
       have hne8 : bo ≠ B8 := own_has_ne hown hh8 (by decide) bo rfl
       have hat := at_from0 bo 2 oc k hlt
       have hc80 : wr.cell? ⟨B8, 0, none⟩ = some (.slice (some ⟨bo, 0, none⟩) 2 oc) := hh8.cell_is (by rw [EPC.out]; rfl)
       have HTH := Lib.hid hth
       have HOW2 := Lib.hid hown2
       have HX9 := Lib.hid hh9
       have H92 := Lib.hid (hh9.kept hk2 (fun e => hne9 e.symm))
       have H82 := Lib.hid (hh8.kept hk2 (fun e => hne8 e.symm))
       have HBE2 := Lib.hid (hbel.trans (hk2.below (Nat.le_trans (Nat.le_trans HB13.out.size HS15.out) hbel.size) (fun j e => by rw [show j = bo from e]; exact hbb)))
       have HLTK := Lib.hid hlt
       clear hown2 hk2 hown hx hx2 hxok hth hh9 hh8 hbel hne9 hne8 hlt hk
       go_wp2_with (first
         | (refine wpList_load_row rfl 39 (.tmp 9) rfl G9 rfl 39 LK.toArray (0, 0) _ HX9.out Tryd.underlying39 rfl SZK.out ?_)
         | (refine wpList_store_mid rfl 39 (.tmp 74) (.tmp 72) rfl bo (k * 164 + 132) LK.toArray rfl rfl (by rw [List.size_toArray]; exact HTH.out) SZK.out HONEK.out ?_))
       go_roundw
       case rel => exact ⟨k + 1, by go_num, HLTK.out, HOW2.out, H92.out, H82.out, HBE2.out⟩
       case measure => have := HLTK.out; simp [intOf]; omega
     · obtain rfl : k = 2 := by omega
       have hno2 : ¬ ((2 : Nat) : Int) < 2 := by decide
       have hown3 : wr.ownsRow w6.heap.size 86 164 (.slice (some ⟨bo, 0, none⟩) 2 oc) 2 ((tokd TK (hfs OW)).flatMap FromT.cells) := hown
       obtain ⟨hrow3, -⟩ := own_rows hown3 (by rw [tokd_len]; rfl) (tkFlen (tokd_ok HTKH.out HOKS.out))
       have hof3 : OfficeAt wr g mb [(TK, OW, WH)] m9 := HO15.out.kept (S := fun j => w6.heap.size ≤ j) ⟨hbel.os, hbel.tape, hbel.output, hbel.size, fun k _ hn => hbel.block k (by omega)⟩ (by show ¬ w6.heap.size ≤ g; omega) (by show ¬ w6.heap.size ≤ mb; omega)
       have hout3 := HOUT15.out.kept (S := fun j => w6.heap.size ≤ j) (w' := wr) ⟨hbel.os, hbel.tape, hbel.output, hbel.size, fun k _ hn => hbel.block k (by omega)⟩ (fun a ha ee => by injection ha with ha; subst ha; have h1 := (HROW.out.at_ (by decide)); obtain ⟨q1, q2, q3, q4, -⟩ := h1; injection q3 with q3; injection q3 with q3; subst q3; have ee' : w6.heap.size ≤ b := ee; omega)
       have ht3 := HT.out.below (HBF.out wr hbel) hlow
       have hch := psCheck_is KS SS wr ht3 (.pointer (some ⟨g, 0, none⟩)) (allowedG [(TK, OW, WH)]) (offV_some hof3) (some ⟨bo, 0, none⟩) 2 oc (tokd TK (hfs OW)) hrow3 (tokd_ok HTKH.out HOKS.out) HCAP.out (by decide) (some ⟨b, 0, none⟩) 1 cp outs hout3 HSO.out (by decide)
       rw [HPE.out, came_hfs (k := TK) (fun f hf => by
         show allowedG [(TK, OW, WH)] f.l.ow (whatK KS SS (tokd TK (hfs OW)) (outs.headD ⟨[], 0, [], 0, zNd⟩).sp) f.tok = true
         obtain ⟨i, hi⟩ := List.getElem?_of_mem hf
         have hil := (List.getElem?_eq_some_iff.1 hi).1
         rw [tokd_len] at hil
         have hx := List.getElem?_eq_getElem hil
         rw [tokd_get hx] at hi
         injection hi with hi
         have how : (hfs OW)[i].l.ow = OW := hfs_ow OW _ (List.getElem_mem hil)
         rw [← hi, tokd_what, HSL.out.1]
         show allowedG [(TK, OW, WH)] (hfs OW)[i].l.ow (whatK KS SS (hfs OW) sl.sp) TK = true
         rw [how, HSL.out.2, ← EWH.out]
         exact allowed_one TK OW WH) HRS.out, ← EPC.out] at hch
       have HCH := Lib.hid hch
       have HH8 := Lib.hid hh8
       have HBFN := Lib.hid (HBF.out wr hbel)
       clear hown hown3 hrow3 hof3 hout3 ht3 hch hh8 hh9 hbel hlt hk
       go_wp2_with (refine wpList_load_row rfl 88 (.tmp 8) rfl B8 rfl 88 PC (0, 0) _ HH8.out Tryd.underlying88 rfl SZP.out ?_)
       refine HCH.out.mono ?_
       rintro _ w21 ⟨rfl, hb21⟩
       have HFN := Lib.hid (HBFN.out.trans (hb21.mono HBFN.out.size))
       clear hb21 HCH
       go_wp2_with fail
       go_ret
       exact ⟨rfl, HFN.out⟩
end Go.Proofs.YtniakgoefkbkhaaDoor

