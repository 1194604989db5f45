/- The walk of the reference's Read. -/
import Derived.Test.YtngmpcmeebcdmaaDoorDec1
import Derived.Test.YtngmpcmeebcdmaaDoorRp1
namespace Go.Proofs.YtngmpcmeebcdmaaDoor
set_option linter.unusedVariables false
set_option linter.unusedSimpArgs false
open Go.ChangeShapes Go.WideShapes Go.ChangeAt Go.RowKit Go.Maps

theorem zero_rnodeB : ∃ Z : Array Value, (∀ w, (zeroValue 62).run Tryd.prog w = .ok (.agg Z) w) ∧ (∀ w, (Instr.build 62 #[]).run Tryd.prog w = .ok (.agg Z) w) ∧ Z.size = 33 ∧ ¬ Z = #[] ∧ Z = (ncells (List.replicate 32 0) 0).toArray := by
  have hs : (ncells (List.replicate 32 0) 0).toArray.size = 33 := by kernel_rfl
  exact ⟨_, fun w => by kernel_rfl, fun w => by kernel_rfl, hs, fun e => (by rw [e] at hs; cases hs), rfl⟩
/-- the first bytes of a digest that is being filled. -/
def fillB (hv : List Nat) (i : Nat) : List Nat := hv.take i ++ List.replicate (32 - i) 0
theorem fillB_len {hv : List Nat} (h : hv.length = 32) (i : Nat) (hi : i ≤ 32) : (fillB hv i).length = 32 := by
  unfold fillB; rw [List.length_append, List.length_take, List.length_replicate, h]; omega
theorem fillB_zero (hv : List Nat) : fillB hv 0 = List.replicate 32 0 := rfl
theorem fillB_full {hv : List Nat} (h : hv.length = 32) : fillB hv 32 = hv := by
  unfold fillB; rw [List.take_of_length_le (by omega)]; simp
theorem fillB_at {hv : List Nat} (h : hv.length = 32) (i j : Nat) (hi : i ≤ 32) : (fillB hv i).getD j 0 = if j < i then hv.getD j 0 else 0 := by
  unfold fillB
  rw [List.getD_eq_getElem?_getD]
  by_cases hj : j < i
  · rw [if_pos hj, List.getElem?_append_left (by rw [List.length_take]; omega), List.getElem?_take_of_lt hj, List.getD_eq_getElem?_getD]
  · rw [if_neg hj, List.getElem?_append_right (by rw [List.length_take]; omega), List.getElem?_replicate]
    split <;> rfl
theorem fillB_set {hv : List Nat} (h : hv.length = 32) (i : Nat) (hi : i < 32) : (fillB hv i).set i (hv.getD i 0) = fillB hv (i + 1) := by
  refine getD_ext (n := 32) (by rw [List.length_set, fillB_len h i (by omega)]) (fillB_len h (i + 1) hi) fun j hj => ?_
  rw [getD_set _ _ _ _ (by rw [fillB_len h i (by omega)]; exact hi), fillB_at h (i + 1) j hi, fillB_at h i j (by omega)]
  by_cases e : j = i
  · subst e; rw [if_pos rfl, if_pos (by omega)]
  · rw [if_neg e]
    by_cases e2 : j < i
    · rw [if_pos e2, if_pos (by omega)]
    · rw [if_neg e2, if_neg (by omega)]
theorem nc_byte {l : List Nat} (h : l.length = 32) (i y x : Nat) (hi : i < 32) : (ncells l x).toArray.setIfInBounds i (.int .u8 (y : Int)) = (ncells (l.set i y) x).toArray := by
  rw [List.setIfInBounds_toArray]
  congr 1
  unfold ncells bcells
  rw [List.set_append_left _ _ (by rw [List.length_map, h]; exact hi), List.map_set]
/-- what Read gives. -/
def RdOut (w : World) (bs : List Nat) (e : Ending) (w' : World) : Prop :=
  ∃ a c, e = .returned (.tuple #[.agg (rpcells (bareB (decB bs)) a (decX bs).length c).toArray, .int .i64 (decE bs : Nat)]) ∧ NodesAt w' a (decX bs).length (decX bs) ∧ (∀ A, a = some A → w.heap.size ≤ A.block) ∧ Below w.heap.size w w'
theorem rp_zero : (rpcells (fun _ => false) none 0 0) = rpcells (bareB (List.replicate 32 0)) none 0 0 := rpcells_congr (fun j hj => (bareB_zero j hj).symm) none 0 0
theorem RdOut.err {w w' : World} {bs : List Nat} {e : Nat} (h : decP bs = .error e) (hb : Below w.heap.size w w') : RdOut w bs (.returned (.tuple #[.agg (rpcells (fun _ => false) none 0 0).toArray, .int .i64 (e : Int)])) w' := by
  obtain ⟨h1, h2, h3⟩ := dec_err h
  refine ⟨none, 0, ?_, ?_, (fun A hA => by cases hA), hb⟩
  · rw [h1, h2, h3, rp_zero]; rfl
  · rw [h3]; exact nodes_nil _ _
structure RdW (w : World) (bs : List Nat) (B2 B4 : Nat) (Zr : Array Value) (n : Nat) (f : Nat → Bool) (a : Option Addr) (c : Nat) (wr : World) : Prop where
  p : Has wr B4 74 (rpcells f a n c).toArray
  r : Has wr B2 74 Zr
  own : wr.ownsRow w.heap.size 62 33 (.slice a n c) n ((decNds bs n).flatMap ndV)
  bel : Below w.heap.size w wr
section
variable {w : World} {bs : List Nat} {B2 B4 : Nat} {Zr : Array Value} {n : Nat} {f : Nat → Bool} {a : Option Addr} {c : Nat} {wr wr' : World}
theorem RdW.below (h : RdW w bs B2 B4 Zr n f a c wr) (hb : Below wr.heap.size wr wr') : RdW w bs B2 B4 Zr n f a c wr' :=
  ⟨h.p.below hb h.p.lt, h.r.below hb h.r.lt, own_kept h.own (Kept.of_below (S := fun _ => False) hb) (fun _ _ e => e), h.bel.trans (hb.mono h.bel.size)⟩
theorem RdW.kept {S : Nat → Prop} (h : RdW w bs B2 B4 Zr n f a c wr) (hk : Kept S wr wr') (h2 : ¬ S B2) (h4 : ¬ S B4) (ho : ∀ j, (Value.slice a n c).ownBlock = some j → ¬ S j) (hb : ∀ j, S j → w.heap.size ≤ j) : RdW w bs B2 B4 Zr n f a c wr' :=
  ⟨h.p.kept hk h4, h.r.kept hk h2, own_kept h.own hk ho, h.bel.trans (hk.below h.bel.size hb)⟩
theorem RdW.bit (h : RdW w bs B2 B4 Zr n f a c wr) (hpl : w.heap.size ≤ B2 ∧ B2 < B4) {k : Nat} (hk : k < 256) (b : Bool) {f' : Nat → Bool} (hf : ∀ j, j < 256 → (if j = k then b else f j) = f' j) : RdW w bs B2 B4 Zr n f' a c (wr.setCell ⟨B4, k, none⟩ (.bool b)) := by
  have hs := h.p.set k (.bool b)
  rw [rpcells_set _ _ _ _ _ _ hk, rpcells_congr (f' := f') hf] at hs
  have hkk : Kept (· = B4) wr (wr.setCell ⟨B4, k, none⟩ (.bool b)) := (Kept.refl (· = B4) wr).set (p := ⟨B4, k, none⟩) (.inl rfl) _
  exact ⟨hs, h.r.kept hkk (by show ¬ B2 = B4; omega), own_kept h.own hkk (fun j e1 e2 => own_has_ne h.own h.p (by decide) j e1 e2), h.bel.trans (hkk.below h.bel.size (fun j e => by have e' : j = B4 := e; omega))⟩
theorem RdW.put (h : RdW w bs B2 B4 Zr n f a c wr) (hpl : w.heap.size ≤ B2 ∧ B2 < B4) {C : Obj} {g7 cap7 : Nat} {w7 : World}
    (ho : w7.ownsRow w.heap.size 62 33 (.slice (some ⟨g7, 0, none⟩) (n + 1) cap7) (n + 1) ((decNds bs n).flatMap ndV ++ ndV (decNd bs n))) (hg : (wr.alloc C).grownBy w7 (Value.slice a n c).ownBlock) :
    Has w7 B4 74 (rpcells f a n c).toArray ∧ RdW w bs B2 B4 Zr (n + 1) f (some ⟨g7, 0, none⟩) cap7 (w7.setCell ⟨B4, 256, none⟩ (.slice (some ⟨g7, 0, none⟩) (n + 1) cap7)) := by
  have hk1 : Kept (fun j => (Value.slice a n c).ownBlock = some j) wr w7 := ((Kept.refl _ wr).alloc _).grown hg (fun j e => .inl e)
  have hp7 := h.p.kept hk1 (fun e => own_has_ne h.own h.p (by decide) B4 e rfl)
  have hp8 := hp7.set 256 (.slice (some ⟨g7, 0, none⟩) (n + 1) cap7)
  rw [rpcells_put] at hp8
  have hk2 : Kept (· = B4) w7 (w7.setCell ⟨B4, 256, none⟩ (.slice (some ⟨g7, 0, none⟩) (n + 1) cap7)) := (Kept.refl (· = B4) w7).set (p := ⟨B4, 256, none⟩) (.inl rfl) _
  have hk3 : Kept (fun j => j = B4 ∨ (Value.slice a n c).ownBlock = some j) wr (w7.setCell ⟨B4, 256, none⟩ (.slice (some ⟨g7, 0, none⟩) (n + 1) cap7)) := (hk1.mono (fun _ _ e => .inr e)).step hk2 (fun j e => .inl (.inl e))
  refine ⟨hp7, hp8, h.r.kept hk3 (fun e => e.elim (fun e => by omega) (fun e => own_has_ne h.own h.r (by decide) B2 e rfl)), ?_, h.bel.trans (hk3.below h.bel.size (fun j e => ?_))⟩
  · rw [decNds_succ, List.flatMap_append]
    refine own_kept (by rw [List.flatMap_singleton]; exact ho) hk2 (fun j e1 e2 => own_has_ne ho hp7 (by decide) j e1 e2)
  · rcases e with e | e
    · omega
    · exact (h.own.lt j e).1
theorem RdW.done (h : RdW w bs B2 B4 Zr n f a c wr) (hpl : w.heap.size ≤ B2 ∧ B2 < B4) (hf : ∀ j, j < 256 → f j = bareB (bs.take 32) j) (hx : ∀ x ∈ bs, x < 256) (h32 : ¬ bs.length < 32) (hn : n = cntF (bareB (bs.take 32)) 256) (hl : 32 + 40 * n = bs.length) {cs : Array Value} :
    RdOut w bs (.returned (.tuple #[.agg (rpcells f a n c).toArray, .int .i64 0])) (wr.setRow B2 cs) := by
  have hd := decP_done h32 (by rw [← hn]; exact hl)
  rw [← hn] at hd
  obtain ⟨h1, h2, h3⟩ := dec_okE hd
  have hk := kept_setRow (g := B2) wr cs
  have hno := own_nodesE (own_kept h.own hk (fun j e1 e2 => own_has_ne h.own h.r (by decide) j e1 e2)) (decNds_len bs n) (fun x hxx => (nds_hash hx (by omega) x hxx).1) (fun x hxx => (nds_hash hx (by omega) x hxx).2)
  refine ⟨a, c, ?_, ?_, fun A hA => (h.own.lt A.block (by rw [hA]; rfl)).1, h.bel.trans (hk.below h.bel.size (fun j e => by have e' : j = B2 := e; omega))⟩
  · rw [h1, h2, h3, decNds_len, rpcells_congr (f' := bareB (bs.take 32)) hf]; rfl
  · rw [h3, decNds_len]; exact hno
end
set_option maxRecDepth 100000 in
set_option maxHeartbeats 8000000 in
theorem rread_is (w : World) (v : Value) (bs : List Nat) (hB : Bytes w w.heap.size v bs) (hl : bs.length ≤ 1000000) :
    Calls Tryd.prog 44 #[v] w (RdOut w bs) := by
  obtain ⟨Zr, hzr, hbr, hZrs, hZrn, hZre⟩ := zero_rproof
  obtain ⟨Z, hz, hbz, hZs, hZn, hZ⟩ := zero_rnodeB
  obtain ⟨inode, his, his0, his1, his2⟩ := info_parts info_rnp
  have SZP := Lib.hid (show ∀ (f : Nat → Bool) (a : Option Addr) (n c : Nat), (Tryd.prog.info? 74).map (·.size) = some (rpcells f a n c).toArray.size ∧ Zr.size = (rpcells f a n c).toArray.size from fun f a n c => by rw [List.size_toArray, rpcells_len, hZrs]; exact ⟨by kernel_rfl, rfl⟩)
  have SZZ := Lib.hid (show (Tryd.prog.info? 74).map (·.size) = some Zr.size by rw [hZrs]; kernel_rfl)
  have ONEP := Lib.hid (show Zr.all (·.oneCell') = true by rw [hZre]; exact rpcells_one _ _ _ _)
  have SZN := Lib.hid (show (Tryd.prog.info? 62).map (·.size) = some Z.size by rw [hZs]; kernel_rfl)
  have ONEN := Lib.hid (show Z.all (·.oneCell') = true by rw [hZ]; exact ndV_one ⟨List.replicate 32 0, 0⟩)
  have EZP := Lib.hid hZre
  have EZN := Lib.hid hZ
  have EZS := Lib.hid hZs
  have HBP := Lib.hid hbr
  have HBN := Lib.hid hbz
  obtain ⟨L, hL⟩ : ∃ L, L = bs.length := ⟨_, rfl⟩
  obtain ⟨a0, c0, rfl, -, hx, -⟩ := id hB
  rw [← hL] at hB ⊢
  have HB := Lib.hid hB
  have HX := Lib.hid hx
  have HL := Lib.hid hL
  rw [← hL] at hl
  clear hZre hbr hZrs hx hL hB hZs hZ hbz
  by_cases h32 : L < 32
  · have h32' : (L : Int) < 32 := by omega
    have HP := Lib.hid (decP_less (b := bs) (by rw [← HL.out]; exact h32))
    go_enter Tryd.func44, Tryd.ntmps44
    go_upto_region 1 with (fail)
    have H0 := Lib.hid (Has.new w 74 Zr)
    have HB0 := Lib.hid (show Below w.heap.size w (w.alloc (.cells Zr 74)) from (Below.refl _ _).alloc (Nat.le_refl _) _)
    obtain ⟨B2, hB2⟩ : ∃ b, b = w.heap.size := ⟨_, rfl⟩
    have HPL := Lib.hid (show w.heap.size ≤ B2 by omega)
    generalize w.alloc (.cells Zr 74) = W1 at H0 HB0 ⊢
    rw [← hB2] at H0 ⊢
    clear hB2
    go_upto_region 2 with (first
      | (refine wpList_build_run (by kernel_rfl) 74 _ rfl #[] (by kernel_rfl) (.agg Zr) (HBP.out _) ?_)
      | (refine wpList_store_row rfl 74 (.tmp 4) (.tmp 12) rfl W1.heap.size Zr rfl rfl 74 Zr (heap_alloc_new W1 _) SZZ.out rfl ONEP.out ?_))
    have hnw : Has ((W1.alloc (.cells Zr 74)).setRow W1.heap.size Zr) W1.heap.size 74 Zr ∧ Below W1.heap.size W1 ((W1.alloc (.cells Zr 74)).setRow W1.heap.size Zr) := by
      rw [World.setRow_alloc_new]
      exact ⟨Has.new _ _ _, (Below.refl _ _).alloc (Nat.le_refl _) _⟩
    generalize (W1.alloc (.cells Zr 74)).setRow W1.heap.size Zr = W2 at hnw ⊢
    have H20 := Lib.hid (H0.out.below hnw.2 H0.out.lt)
    have HB20 := Lib.hid (HB0.out.trans (hnw.2.mono HB0.out.size))
    have HN := Lib.hid hnw.1
    generalize W1.heap.size = B4 at HN ⊢
    have hset : Has (W2.setRow B2 Zr) B2 74 Zr ∧ Below w.heap.size w (W2.setRow B2 Zr) :=
      ⟨H20.out.setRow, HB20.out.trans ((kept_setRow (g := B2) _ Zr).below HB20.out.size (fun j e => by have e' : j = B2 := e; have := HPL.out; omega))⟩
    have HSET := Lib.hid hset
    clear hnw hset h32 H0 HB0
    go_wp2_with (first
      | (refine wpList_load_row rfl 74 (.tmp 4) rfl B4 rfl 74 Zr (0, 0) _ HN.out Tryd.underlying74 rfl SZZ.out ?_)
      | (refine wpList_store_row rfl 74 (.tmp 2) (.tmp 16) rfl B2 Zr rfl rfl 74 Zr H20.out SZZ.out rfl ONEP.out ?_))
    refine bodyPost_ret (results_cell_tmp rfl _ _ B2 74 Zr (0, 0) _ rfl rfl HSET.out.1 Tryd.underlying74 SZZ.out) rfl ?_
    have := RdOut.err HP.out HSET.out.2
    rw [← EZP.out] at this
    exact this
  have HH := Lib.hid (show IsHash (bs.take 32) from ⟨by rw [List.length_take, ← HL.out]; omega, fun x hx => HX.out x (List.mem_of_mem_take hx)⟩)
  have H32 := Lib.hid (show ¬ bs.length < 32 by rw [← HL.out]; exact h32)
  obtain ⟨-, hcap, -, hop⟩ := HB.out.opened
  obtain ⟨bg, bo, rfl, hbg, hcell⟩ := hop (by omega)
  have h32' : ¬ (L : Int) < 32 := by omega
  have HCL := Lib.hid (show ∀ W', Below w.heap.size w W' → ∀ i, i < L → W'.cell? ⟨bg, bo + i, none⟩ = some (.int .u8 (bs.getD i 0 : Nat)) from fun W' hW' i hi => by
    rw [hW'.cell (p := ⟨bg, bo + i, none⟩) hbg]; exact hcell i hi)
  clear hcell hbg hop
  go_enter Tryd.func44, Tryd.ntmps44
  go_upto_region 1 with (fail)
  have H0 := Lib.hid (Has.new w 74 Zr)
  have HB0 := Lib.hid (show Below w.heap.size w (w.alloc (.cells Zr 74)) from (Below.refl _ _).alloc (Nat.le_refl _) _)
  obtain ⟨B2, hB2⟩ : ∃ b, b = w.heap.size := ⟨_, rfl⟩
  have hpl1 : w.heap.size ≤ B2 := by omega
  generalize w.alloc (.cells Zr 74) = W1 at H0 HB0 ⊢
  rw [← hB2] at H0 ⊢
  clear hB2
  go_upto_region 2 with (first
    | (refine wpList_build_run (by kernel_rfl) 74 _ rfl #[] (by kernel_rfl) (.agg Zr) (HBP.out _) ?_)
    | (refine wpList_store_row rfl 74 (.tmp 4) (.tmp 12) rfl W1.heap.size Zr rfl rfl 74 Zr (heap_alloc_new W1 _) SZZ.out rfl ONEP.out ?_))
  have hnw : Has ((W1.alloc (.cells Zr 74)).setRow W1.heap.size Zr) W1.heap.size 74 Zr ∧ Below W1.heap.size W1 ((W1.alloc (.cells Zr 74)).setRow W1.heap.size Zr) := by
    rw [World.setRow_alloc_new]
    exact ⟨Has.new _ _ _, (Below.refl _ _).alloc (Nat.le_refl _) _⟩
  generalize (W1.alloc (.cells Zr 74)).setRow W1.heap.size Zr = W2 at hnw ⊢
  have HPL := Lib.hid (show w.heap.size ≤ B2 ∧ B2 < W1.heap.size from ⟨hpl1, H0.out.lt⟩)
  have hd0 : RdW w bs B2 W1.heap.size Zr 0 (fun j => decide (j < 0) && bareB (bs.take 32) j) none 0 W2 :=
    ⟨by rw [rpcells_congr (f' := fun _ => false) (fun j _ => by simp), ← EZP.out]; exact hnw.1, H0.out.below hnw.2 H0.out.lt, ⟨rfl, .inl ⟨rfl, rfl⟩⟩, HB0.out.trans (hnw.2.mono HB0.out.size)⟩
  generalize W1.heap.size = B4 at hd0 HPL ⊢
  have HD0 := Lib.hid hd0
  clear hnw hd0 H0 HB0 hpl1
  go_wp2_with fail
  go_loopw [5, 6] (fun av iv wr => ∃ (h n : Nat) (a : Option Addr) (c : Nat), iv = .int .i64 (h : Int) ∧ av = .int .i64 ((32 + 40 * n : Nat) : Int) ∧ h ≤ 256 ∧ n = cntF (bareB (bs.take 32)) h ∧ 32 + 40 * n ≤ bs.length ∧ RdW w bs B2 B4 Zr n (fun j => decide (j < h) && bareB (bs.take 32) j) a c wr) (fun _ iv _ => 256 - (intOf iv).toNat)
  case atStart => exact ⟨0, 0, none, 0, rfl, rfl, Nat.zero_le _, rfl, by have := HL.out; omega, HD0.out⟩
  case round =>
    clear HD0
    obtain ⟨h, n, a, c, rfl, rfl, hh, hn, hfit, hd⟩ := hrel
    obtain ⟨at_, hat⟩ : ∃ t, t = 32 + 40 * n := ⟨_, rfl⟩
    rw [← hat] at hfit ⊢
    rw [← HL.out] at hfit
    have HD := Lib.hid hd
    have HN := Lib.hid hn
    have HAT := Lib.hid hat
    clear hd hn hat
    by_cases hlt : h < 256
    · have hlt' : (h : Int) < 256 := by omega
      obtain ⟨bt, hbt⟩ : ∃ b, b = bareB (bs.take 32) h := ⟨_, rfl⟩
      have HBT := Lib.hid hbt
      obtain ⟨r, hr⟩ : ∃ r, r = h % 8 := ⟨_, rfl⟩
      obtain ⟨q, hq⟩ : ∃ q, q = h / 8 := ⟨_, rfl⟩
      have hr8 : r < 8 := by omega
      have hq32 : q < 32 := by omega
      have hri : (h : Int) % 8 = (r : Int) := by omega
      have hqi : (h : Int) / 8 = (q : Int) := by omega
      have hqL : q < L := by omega
      have cb := HCL.out wr HD.out.bel q hqL
      have hy0 := HX.out (bs.getD q 0) (by rw [List.getD_eq_getElem?_getD, List.getElem?_eq_getElem (by rw [← HL.out]; exact hqL)]; exact List.getElem_mem _)
      obtain ⟨y0, hye⟩ : ∃ y, y = bs.getD q 0 := ⟨_, rfl⟩
      rw [← hye] at cb hy0
      have HBN := Lib.hid (show decide (y0 / 2 ^ r % 2 = 1) = bt by rw [hbt, bareB, bare_take H32.out h hlt, hye, hr, hq])
      clear hbt hr hq hye
      go_wp2_with fail
      obtain ⟨wo, hwo⟩ : ∃ x, x = wr := ⟨_, rfl⟩
      subst hwo
      go_loopw [7, 8] (fun cv iv wx => ∃ j y : Nat, iv = .int .i64 (j : Int) ∧ j ≤ r ∧ cv = .int .i64 (y : Int) ∧ y = y0 / 2 ^ j ∧ RdW w bs B2 B4 Zr n (fun j => decide (j < h) && bareB (bs.take 32) j) a c wx) (fun _ iv _ => r - (intOf iv).toNat)
      case atStart => exact ⟨0, y0, rfl, Nat.zero_le _, rfl, by simp, HD.out⟩
      case round =>
        clear HD cb
        obtain ⟨j, y, rfl, hj, rfl, hy, hd⟩ := hrel
        have HD := Lib.hid hd
        clear hd
        have hy8 : y < 256 := by rw [hy]; exact Nat.lt_of_le_of_lt (Nat.div_le_self _ _) hy0
        by_cases hjr : j < r
        · have hjr' : (j : Int) < (r : Int) := by omega
          have HY := Lib.hid (show y / 2 = y0 / 2 ^ (j + 1) by rw [hy, Nat.div_div_eq_div_mul, Nat.pow_succ])
          obtain ⟨y2, hy2⟩ : ∃ z, z = y / 2 := ⟨_, rfl⟩
          have hyi : (y : Int) / 2 = (y2 : Int) := by omega
          rw [← hy2] at HY
          clear hy hy2
          go_wp2_with fail
          go_roundw
          case rel => exact ⟨j + 1, y2, by go_num, by omega, rfl, HY.out, HD.out⟩
          case measure => simp [intOf]; omega
        · obtain rfl : j = r := by omega
          have hjr' : ¬ (j : Int) < (j : Int) := by omega
          have hbn : (((y : Int) % 2) == 1) = bt := by
            rw [← HBN.out, ← hy, Bool.eq_iff_iff, beq_iff_eq, decide_eq_true_eq]; omega
          have chh : wr.cell? ⟨B4, h, none⟩ = some (.bool (decide (h < h) && bareB (bs.take 32) h)) := HD.out.p.cell_is (by rw [List.getElem?_toArray]; exact rpcells_bit _ a n c h hlt)
          have fh := HD.out.p.free h
          have hd3 := HD.out.bit HPL.out hlt bt (f' := fun j => decide (j < h + 1) && bareB (bs.take 32) j) (fun j hj => by
            show (if j = h then bt else (decide (j < h) && bareB (bs.take 32) j)) = (decide (j < h + 1) && bareB (bs.take 32) j)
            by_cases e : j = h
            · subst e
              rw [if_pos rfl, decide_eq_true (Nat.lt_succ_self j), Bool.true_and]; exact HBT.out
            · rw [if_neg e]
              congr 1
              rw [decide_eq_decide]; omega)
          obtain ⟨q0, hq0⟩ : ∃ q, q = (decide (h < h) && bareB (bs.take 32) h) := ⟨_, rfl⟩
          rw [← hq0] at chh
          have HD3 := Lib.hid hd3
          clear hd3 hq0 hy
          cases bt with
          | true =>
            go_wp2_with fail
            go_roundw
            case rel => exact ⟨h + 1, n, a, c, by go_num, by rw [HAT.out], by omega, by rw [cnt_bare HBT.out.symm]; exact HN.out, by have := HAT.out; have := HL.out; omega, HD3.out⟩
            case measure => simp [intOf]; omega
          | false =>
            go_upto_region 15 with (fail)
            generalize wr.setCell ⟨B4, h, none⟩ (.bool false) = W3 at HD3 ⊢
            clear chh fh hbn
            by_cases hs : L < at_ + 40
            · have hs' : (at_ : Int) + 40 > (L : Int) := by omega
              have HP := Lib.hid (decP_short (b := bs) H32.out hlt HBT.out.symm (by have h1 := HAT.out; have h2 := HL.out; rw [← HN.out]; omega))
              have hk := kept_setRow (g := B2) W3 Zr
              have hset : Has (W3.setRow B2 Zr) B2 74 Zr ∧ Below w.heap.size w (W3.setRow B2 Zr) := ⟨HD3.out.r.setRow, HD3.out.bel.trans (hk.below HD3.out.bel.size (fun j e => by have e' : j = B2 := e; have := HPL.out; omega))⟩
              have HSET := Lib.hid hset
              clear hset hk
              go_wp2_with (first
                | (refine wpList_build_run (by kernel_rfl) 74 _ rfl #[] (by kernel_rfl) (.agg Zr) (HBP.out _) ?_)
                | (refine wpList_store_row rfl 74 (.tmp 2) (.tmp 50) rfl B2 Zr rfl rfl 74 Zr HD3.out.r SZZ.out rfl ONEP.out ?_))
              refine bodyPost_ret (results_cell_tmp rfl _ _ B2 74 Zr (0, 0) _ rfl rfl HSET.out.1 Tryd.underlying74 SZZ.out) rfl ?_
              have := RdOut.err HP.out HSET.out.2
              rw [← EZP.out] at this
              exact this
            · have hs' : ¬ (at_ : Int) + 40 > (L : Int) := by omega
              obtain ⟨hv, hhv⟩ : ∃ l, l = (bs.drop at_).take 32 := ⟨_, rfl⟩
              obtain ⟨tl, htl⟩ : ∃ l, l = (bs.drop (at_ + 32)).take 8 := ⟨_, rfl⟩
              have HVH := Lib.hid (show IsHash hv from ⟨by rw [hhv, List.length_take, List.length_drop, ← HL.out]; omega, fun x hx => by rw [hhv] at hx; exact HX.out x (List.mem_of_mem_drop (List.mem_of_mem_take hx))⟩)
              have HTL := Lib.hid (show tl.length = 8 ∧ ∀ x ∈ tl, x < 256 from ⟨by rw [htl, List.length_take, List.length_drop, ← HL.out]; omega, fun x hx => by rw [htl] at hx; exact HX.out x (List.mem_of_mem_drop (List.mem_of_mem_take hx))⟩)
              have HND := Lib.hid (show ncells hv (num8 tl) = ndV (decNd bs n) by rw [hhv, htl, HAT.out]; rfl)
              have HVC := Lib.hid (show ∀ i, i < 32 → bs.getD (at_ + i) 0 = hv.getD i 0 from fun i hi => by
                rw [hhv, List.getD_eq_getElem?_getD, List.getD_eq_getElem?_getD, List.getElem?_take_of_lt hi, List.getElem?_drop])
              have HTC := Lib.hid (show ∀ j, j < 8 → bs.getD (at_ + 32 + j) 0 = tl.getD j 0 from fun j hj => by
                rw [htl, List.getD_eq_getElem?_getD, List.getD_eq_getElem?_getD, List.getElem?_take_of_lt hj, List.getElem?_drop])
              clear hhv htl
              go_upto_region 18 with (first
                | (refine wpList_build_run (by kernel_rfl) 62 _ rfl #[] (by kernel_rfl) (.agg Z) (HBN.out _) ?_)
                | (refine wpList_store_row rfl 62 (.tmp 9) (.tmp 51) rfl W3.heap.size Z rfl rfl 62 Z (heap_alloc_new W3 _) SZN.out rfl ONEN.out ?_))
              have hnw : Has ((W3.alloc (.cells Z 62)).setRow W3.heap.size Z) W3.heap.size 62 (ncells (fillB hv 0) 0).toArray ∧ RdW w bs B2 B4 Zr n (fun j => decide (j < h + 1) && bareB (bs.take 32) j) a c ((W3.alloc (.cells Z 62)).setRow W3.heap.size Z) := by
                rw [World.setRow_alloc_new, fillB_zero, ← EZN.out]
                exact ⟨Has.new _ _ _, HD3.out.below ((Below.refl _ _).alloc (Nat.le_refl _) _)⟩
              generalize (W3.alloc (.cells Z 62)).setRow W3.heap.size Z = W5 at hnw ⊢
              have HG6 := Lib.hid (show w.heap.size ≤ W3.heap.size ∧ B4 < W3.heap.size ∧ B2 < W3.heap.size from ⟨HD3.out.bel.size, HD3.out.p.lt, HD3.out.r.lt⟩)
              have HOB := Lib.hid (show ∀ k, (Value.slice a n c).ownBlock = some k → k < W3.heap.size from fun k e => (HD3.out.own.lt k e).2)
              generalize W3.heap.size = G6 at hnw HG6 HOB ⊢
              have HNW := Lib.hid hnw
              clear hnw HD3
              go_wp2_with fail
              go_loopw [10] (fun iv wx => ∃ i : Nat, iv = .int .i64 (i : Int) ∧ i ≤ 32 ∧ Has wx G6 62 (ncells (fillB hv i) 0).toArray ∧ RdW w bs B2 B4 Zr n (fun j => decide (j < h + 1) && bareB (bs.take 32) j) a c wx) (fun iv _ => 32 - (intOf iv).toNat)
              case atStart => exact ⟨0, rfl, Nat.zero_le _, HNW.out.1, HNW.out.2⟩
              case round =>
                clear HNW
                obtain ⟨i, rfl, hi, hg6, hdx⟩ := hrel
                have HGX := Lib.hid hg6
                have HDX := Lib.hid hdx
                clear hg6 hdx
                by_cases hi32 : i < 32
                · have hi32' : (i : Int) < 32 := by omega
                  obtain ⟨k, hk⟩ : ∃ k, k = at_ + i := ⟨_, rfl⟩
                  have hki : (at_ : Int) + (i : Int) = (k : Int) := by omega
                  have hkL : k < L := by omega
                  have cb := HCL.out wr HDX.out.bel k hkL
                  rw [hk, HVC.out i hi32, ← hk] at cb
                  obtain ⟨y, hy⟩ : ∃ y, y = hv.getD i 0 := ⟨_, rfl⟩
                  rw [← hy] at cb
                  have hy8 : y < 256 := by rw [hy]; exact HVH.out.byte i hi32
                  have c9 : wr.cell? ⟨G6, i, none⟩ = some (.int .u8 ((fillB hv i).getD i 0 : Nat)) := HGX.out.cell_is (by
                    rw [List.getElem?_toArray, ncells, List.getElem?_append_left (by rw [bcells_length, fillB_len HVH.out.1 i hi]; exact hi32)]
                    exact bcells_get _ i (by rw [fillB_len HVH.out.1 i hi]; exact hi32))
                  have f9 := HGX.out.free i
                  have hs9 : Has (wr.setCell ⟨G6, i, none⟩ (.int .u8 (y : Int))) G6 62 (ncells (fillB hv (i + 1)) 0).toArray := by
                    rw [← fillB_set HVH.out.1 i hi32, ← hy, ← nc_byte (fillB_len HVH.out.1 i hi) i y 0 hi32]
                    exact HGX.out.set i (.int .u8 (y : Int))
                  have hk6 : Kept (· = G6) wr (wr.setCell ⟨G6, i, none⟩ (.int .u8 (y : Int))) := (Kept.refl (· = G6) wr).set (p := ⟨G6, i, none⟩) (.inl rfl) _
                  have HFIN := Lib.hid (And.intro hs9 (HDX.out.kept hk6 (by have := HG6.out; show ¬ B2 = G6; omega) (by have := HG6.out; show ¬ B4 = G6; omega) (fun k e e2 => by have e' : k = G6 := e2; have := HOB.out k e; omega) (fun k e => by have := HG6.out; have e' : k = G6 := e; omega)))
                  obtain ⟨z9, hz9⟩ : ∃ z, z = (fillB hv i).getD i 0 := ⟨_, rfl⟩
                  rw [← hz9] at c9
                  clear hk hy hs9 hk6 hz9
                  go_wp2_with fail
                  go_roundw
                  case rel => exact ⟨i + 1, by go_num, by omega, HFIN.out⟩
                  case measure => simp [intOf]; omega
                · obtain rfl : i = 32 := by omega
                  have hi32' : ¬ ((32 : Nat) : Int) < 32 := by omega
                  have hg := HGX.out
                  rw [fillB_full HVH.out.1] at hg
                  obtain ⟨wv, hwv⟩ : ∃ x, x = wr := ⟨_, rfl⟩
                  subst hwv
                  have HGY := Lib.hid hg
                  clear hg HGX hi hi32
                  go_wp2_with fail
                  go_loopw [11] (fun iv wx => ∃ i : Nat, iv = .int .i64 (i : Int) ∧ 32 ≤ i ∧ i ≤ 40 ∧ Has wx G6 62 (ncells hv (num8 (tl.take (i - 32)))).toArray ∧ RdW w bs B2 B4 Zr n (fun j => decide (j < h + 1) && bareB (bs.take 32) j) a c wx) (fun iv _ => 40 - (intOf iv).toNat)
                  case atStart => exact ⟨32, rfl, Nat.le_refl _, by decide, HGY.out, HDX.out⟩
                  case round =>
                    clear HGY HDX
                    obtain ⟨i, rfl, hi0, hi, hg6, hdx⟩ := hrel
                    have HGX := Lib.hid hg6
                    have HDX := Lib.hid hdx
                    clear hg6 hdx
                    by_cases hi40 : i < 40
                    · have hi40' : (i : Int) < 40 := by omega
                      obtain ⟨j, hj⟩ : ∃ j, j = i - 32 := ⟨_, rfl⟩
                      have hj8 : j < 8 := by omega
                      obtain ⟨k, hk⟩ : ∃ k, k = at_ + i := ⟨_, rfl⟩
                      have hkL : k < L := by omega
                      have cb := HCL.out wr HDX.out.bel k hkL
                      rw [show k = at_ + 32 + j by omega, HTC.out j hj8, show at_ + 32 + j = k by omega] at cb
                      have hct := HTL.out.2 (tl.getD j 0) (by rw [List.getD_eq_getElem?_getD, List.getElem?_eq_getElem (by rw [HTL.out.1]; exact hj8)]; exact List.getElem_mem _)
                      obtain ⟨ct, hce⟩ : ∃ x, x = tl.getD j 0 := ⟨_, rfl⟩
                      rw [← hce] at cb hct
                      have hgx := HGX.out
                      rw [← hj] at hgx
                      obtain ⟨x, hxe⟩ : ∃ x, x = num8 (tl.take j) := ⟨_, rfl⟩
                      have c6 : wr.cell? ⟨G6, 32, none⟩ = some (.int .u64 (x : Int)) := hgx.cell_is (by
                        rw [List.getElem?_toArray, ncells, List.getElem?_append_right (by rw [bcells_length, HVH.out.1]; exact Nat.le_refl _), bcells_length, HVH.out.1, ← hxe]; rfl)
                      have hx7 : x < 72057594037927936 := by
                        have h1 := num8_lt j (tl.take j) (by rw [List.length_take, HTL.out.1]; omega) (fun y hy => HTL.out.2 y (List.mem_of_mem_take hy))
                        rw [← hxe] at h1
                        have h2 : 256 ^ j ≤ 256 ^ 7 := Nat.pow_le_pow_right (by decide) (by omega)
                        exact Nat.lt_of_lt_of_le h1 h2
                      have hnx : num8 (tl.take (j + 1)) = x * 256 + ct := by
                        rw [List.take_add_one, List.getElem?_eq_getElem (by rw [HTL.out.1]; exact hj8)]
                        show num8 (tl.take j ++ [tl[j]'(by rw [HTL.out.1]; exact hj8)]) = _
                        rw [num8_snoc, ← hxe, hce, List.getD_eq_getElem?_getD, List.getElem?_eq_getElem (by rw [HTL.out.1]; exact hj8)]; rfl
                      obtain ⟨y, hy⟩ : ∃ y, y = x * 256 + ct := ⟨_, rfl⟩
                      obtain ⟨p, hp⟩ : ∃ p, p = x * 256 := ⟨_, rfl⟩
                      rw [← hy] at hnx
                      have HNX := Lib.hid hnx
                      have HJ := Lib.hid (show i + 1 - 32 = j + 1 by omega)
                      have c7 : wr.drew.cell? ⟨G6, 32, none⟩ = some (.int .u64 (x : Int)) := c6
                      have f7 : wr.drew.frozen? ⟨G6, 32, none⟩ = false := hgx.free 32
                      have hs6 : Has (wr.drew.setCell ⟨G6, 32, none⟩ (.int .u64 (y : Int))) G6 62 (ncells hv (num8 (tl.take (i + 1 - 32)))).toArray := by
                        rw [HJ.out, HNX.out, ← nc_set HVH.out.1 (num8 (tl.take j)) y]
                        exact hgx.drew.set 32 (.int .u64 (y : Int))
                      have hk6 : Kept (· = G6) wr (wr.drew.setCell ⟨G6, 32, none⟩ (.int .u64 (y : Int))) := ((Kept.refl (· = G6) wr).drew).set (p := ⟨G6, 32, none⟩) (.inl rfl) _
                      have HFIN := Lib.hid (And.intro hs6 (HDX.out.kept hk6 (by have := HG6.out; show ¬ B2 = G6; omega) (by have := HG6.out; show ¬ B4 = G6; omega) (fun k e e2 => by have e' : k = G6 := e2; have := HOB.out k e; omega) (fun k e => by have := HG6.out; have e' : k = G6 := e; omega)))
                      have HIN := Lib.hid (show i + 1 ≤ 40 ∧ 32 ≤ i + 1 ∧ 40 - (i + 1) < 40 - i by omega)
                      have hw1 : IntKind.i64.wrap ((at_ : Int) + (i : Int)) = (k : Int) := by rw [IntKind.wrap_i64]; omega
                      have hw2 : IntKind.u64.wrap ((x : Int) * 256) = (p : Int) := by rw [IntKind.wrap_u64]; omega
                      have hw3 : IntKind.u64.wrap ((p : Int) + (ct : Int)) = (y : Int) := by rw [IntKind.wrap_u64]; omega
                      have hkL' : (k : Int) < (L : Int) := by omega
                      have hib : i < 4611686018427387904 := by omega
                      have hiw := wrap64_succ i hib
                      have HIW := Lib.hid hiw
                      clear hk hce hxe hs6 hk6 hy hj hnx hgx hp hiw hx7
                      go_upto_region 25 with (fail)
                      go_still_tail 12, (by kernel_rfl)
                      change wpList _ _ _ _ _ wr.drew
                      have HW3 := Lib.hid hw3
                      clear cb c6 hw1 hw2 hw3
                      generalize hwd : wr.drew = W6 at c7 f7 HFIN ⊢
                      clear hwd
                      go_wp2_with fail
                      go_roundw
                      case rel =>
                        refine ⟨i + 1, by go_num, HIN.out.2.1, HIN.out.1, ?_⟩
                        first | exact HFIN.out | (rw [HW3.out]; exact HFIN.out)
                      case measure => simp [intOf]; omega
                    · obtain rfl : i = 40 := by omega
                      have hi40' : ¬ ((40 : Nat) : Int) < 40 := by omega
                      obtain ⟨LX, hLX⟩ : ∃ l, l = ncells hv (num8 (tl.take (40 - 32))) := ⟨_, rfl⟩
                      have hG := HGX.out
                      rw [← hLX] at hG
                      have hle : LX = ndV (decNd bs n) := by rw [hLX, ← HND.out, List.take_of_length_le (by rw [HTL.out.1]; decide)]
                      have HGZ := Lib.hid hG
                      have hln : LX.length = 33 := by rw [hLX, ncells, List.length_append, bcells_length, HVH.out.1]; rfl
                      have SZX := Lib.hid (show (Tryd.prog.info? 62).map (·.size) = some LX.toArray.size by rw [List.size_toArray, hln]; kernel_rfl)
                      have c256 := HDX.out.p.cell_is (i := 256) (by rw [List.getElem?_toArray]; exact rpcells_row _ a n c)
                      have HZ33 := Lib.hid (show (Value.agg (ncells (List.replicate 32 0) 0).toArray).cells.size = 33 by kernel_rfl)
                      have hn256 : n ≤ 256 := by rw [HN.out]; exact Nat.le_trans (cnt_le _ _) hh
                      have HML := Lib.hid (show n + 1 ≤ maxLen by unfold maxLen; omega)
                      have HBYT := Lib.hid (show (n + 1) * 40 ≤ 140737488355328 by omega)
                      have hB5 : w.heap.size ≤ wr.heap.size := HDX.out.bel.size
                      have HBS := Lib.hid (show ∀ C, w.heap.size ≤ (wr.alloc C).heap.size by intro C; show _ ≤ (wr.heap.push _).size; rw [Array.size_push]; omega)
                      have HLL := Lib.hid (show LX.length = 1 * 33 from hln)
                      have HL1 := Lib.hid (show ∀ v ∈ LX, v.oneCell' = true by rw [hLX]; exact ncells_one _ _)
                      have h0k : 0 < LX.length := by rw [hln]; decide
                      have h24 : LX.length ≤ 16777216 := by rw [hln]; decide
                      have HIL := Lib.hid (show inode.size = LX.length by rw [his1, hln])
                      have HZL := Lib.hid (show (Value.agg (ncells (List.replicate 32 0) 0).toArray).cells.size = LX.length by rw [HZ33.out, hln])
                      have HSUC := Lib.hid (show (wr.alloc (.cells LX.toArray 62)).heap.size = wr.heap.size + 1 by simp)
                      have hend : ∀ g7 cap7 w7, w7.ownsRow w.heap.size 62 33 (.slice (some ⟨g7, 0, none⟩) (n + 1) cap7) (n + 1) ((decNds bs n).flatMap ndV ++ LX) → (wr.alloc (.cells LX.toArray 62)).grownBy w7 (Value.slice a n c).ownBlock →
                          Has w7 B4 74 (rpcells (fun j => decide (j < h + 1) && bareB (bs.take 32) j) a n c).toArray ∧ RdW w bs B2 B4 Zr (n + 1) (fun j => decide (j < h + 1) && bareB (bs.take 32) j) (some ⟨g7, 0, none⟩) cap7 (w7.setCell ⟨B4, 256, none⟩ (.slice (some ⟨g7, 0, none⟩) (n + 1) cap7)) := fun g7 cap7 w7 ho hg =>
                        HDX.out.put HPL.out (by rw [← hle]; exact ho) hg
                      have HEND := Lib.hid hend
                      have HOWN := Lib.hid HDX.out.own
                      have HNX := Lib.hid (show n + 1 = cntF (bareB (bs.take 32)) (h + 1) by rw [cnt_node HBT.out.symm, ← HN.out])
                      have HFT2 := Lib.hid (show 32 + 40 * (n + 1) ≤ bs.length by have h1 := HAT.out; have h2 := HL.out; omega)
                      have HAT2 := Lib.hid (show (at_ : Int) + 40 = ((32 + 40 * (n + 1) : Nat) : Int) by have h1 := HAT.out; omega)
                      clear hend hB5 hG hle hLX hi hi0 hi40
                      go_upto_region 27 with (first
                        | (refine wpList_load_row rfl 62 (.tmp 9) rfl G6 rfl 62 LX.toArray (0, 0) _ HGZ.out Tryd.underlying62 rfl SZX.out ?_)
                        | (refine wpList_build1 rfl 72 62 (.tmp 83) rfl inode _ Tryd.underlying72 his his0 LX HIL.out HZL.out h0k h24 rfl ?_)
                        | (at_builtin; refine wpList_append_lies _ rfl (.tmp 82) (.tmp 84) 72 rfl w.heap.size 62 inode _ 33 40 Tryd.underlying72 his his0 his1 his2 HZ33.out (by decide) _ n _ rfl (HOWN.out.alloc _) ⟨wr.heap.size, 0, none⟩ 1 1 LX rfl HLL.out (World.news_of_block (cs := LX.toArray) (heap_alloc_new wr _)) HL1.out (by decide) HML.out HBYT.out (HBS.out _) (wr.heap.size + 1) HSUC.out ?_; intro g7 cap7 w7 hown7 hgr7 hat7 hlt7; (have hq7 := HEND.out g7 cap7 w7 hown7 hgr7); (have c732 := hq7.1.cell_is (i := 256) (by rw [List.getElem?_toArray]; exact rpcells_row _ a n c)); (have f732 := hq7.1.free 256); (have HQ7 := Lib.hid hq7); clear hq7 hown7 hgr7 hat7 hlt7))
                      generalize w7.setCell ⟨B4, 256, none⟩ (.slice (some ⟨g7, 0, none⟩) (n + 1) cap7) = W8 at HQ7 ⊢
                      clear c732 f732 c256
                      go_wp2_with fail
                      go_roundw
                      case rel => exact ⟨h + 1, n + 1, _, _, by go_num, by rw [HAT2.out], by omega, HNX.out, HFT2.out, HQ7.out.2⟩
                      case measure => simp [intOf]; omega
    · obtain rfl : h = 256 := by omega
      have hlt' : ¬ ((256 : Nat) : Int) < 256 := by omega
      by_cases hm0 : at_ < L
      · have hm0' : (at_ : Int) < (L : Int) := by omega
        have HP := Lib.hid (decP_trail (b := bs) H32.out (by rw [← HN.out]; have h1 := HAT.out; have h2 := HL.out; omega))
        have hk := kept_setRow (g := B2) wr Zr
        have hset : Has (wr.setRow B2 Zr) B2 74 Zr ∧ Below w.heap.size w (wr.setRow B2 Zr) := ⟨HD.out.r.setRow, HD.out.bel.trans (hk.below HD.out.bel.size (fun j e => by have e' : j = B2 := e; have := HPL.out; omega))⟩
        have HSET := Lib.hid hset
        clear hset hk
        go_wp2_with (first
          | (refine wpList_build_run (by kernel_rfl) 74 _ rfl #[] (by kernel_rfl) (.agg Zr) (HBP.out _) ?_)
          | (refine wpList_store_row rfl 74 (.tmp 2) (.tmp 93) rfl B2 Zr rfl rfl 74 Zr HD.out.r SZZ.out rfl ONEP.out ?_))
        refine bodyPost_ret (results_cell_tmp rfl _ _ B2 74 Zr (0, 0) _ rfl rfl HSET.out.1 Tryd.underlying74 SZZ.out) rfl ?_
        have := RdOut.err HP.out HSET.out.2
        rw [← EZP.out] at this
        exact this
      · have hm0' : ¬ (at_ : Int) < (L : Int) := by omega
        obtain ⟨LR, hLR⟩ : ∃ l, l = rpcells (fun j => decide (j < 256) && bareB (bs.take 32) j) a n c := ⟨_, rfl⟩
        have hfin := HD.out.done HPL.out (fun j hj => by show (decide (j < 256) && bareB (bs.take 32) j) = _; rw [decide_eq_true hj, Bool.true_and]) HX.out H32.out HN.out (by have h1 := HAT.out; have h2 := HL.out; omega) (cs := LR.toArray)
        have hset : Has (wr.setRow B2 LR.toArray) B2 74 LR.toArray := HD.out.r.setRow
        have hsp := SZP.out (fun j => decide (j < 256) && bareB (bs.take 32) j) a n c
        have hone : LR.toArray.all (·.oneCell') = true := by rw [hLR]; exact rpcells_one _ _ _ _
        have hp := HD.out.p
        rw [← hLR] at hfin hsp hp
        have HSET := Lib.hid hset
        have HFIN := Lib.hid hfin
        have HSP := Lib.hid hsp
        have HONE := Lib.hid hone
        have HPP := Lib.hid hp
        clear hset hfin hsp hone hp hLR
        go_wp2_with (first
          | (refine wpList_load_row rfl 74 (.tmp 4) rfl B4 rfl 74 LR.toArray (0, 0) _ HPP.out Tryd.underlying74 rfl HSP.out.1 ?_)
          | (refine wpList_store_row rfl 74 (.tmp 2) (.tmp 94) rfl B2 LR.toArray rfl rfl 74 Zr HD.out.r HSP.out.1 HSP.out.2 HONE.out ?_))
        refine bodyPost_ret (results_cell_tmp rfl _ _ B2 74 LR.toArray (0, 0) _ rfl rfl HSET.out Tryd.underlying74 HSP.out.1) rfl ?_
        exact HFIN.out
end Go.Proofs.YtngmpcmeebcdmaaDoor
