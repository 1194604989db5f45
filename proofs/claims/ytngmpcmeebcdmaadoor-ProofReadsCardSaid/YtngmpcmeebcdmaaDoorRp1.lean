/- The walk of plain: a proof as the reference has it. -/
import Derived.Test.YtngmpcmeebcdmaaDoorPf5
import Derived.Test.YtngmpcmeebcdmaaDoorMem
namespace Go.Proofs.YtngmpcmeebcdmaaDoor
set_option linter.unusedVariables false
set_option linter.unusedSimpArgs false
open Go.ChangeShapes Go.WideShapes Go.ChangeAt Go.RowKit Go.Maps

theorem rnb (D : List Nat) (s : Nat) (h : D.length = 32) (w : World) : (Instr.build 62 #[(0, .agg (bcells D).toArray), (1, .int .u64 (s : Int))]).run Tryd.prog w = .ok (.agg (ncells D s).toArray) w := by
  obtain ⟨d0, d1, d2, d3, d4, d5, d6, d7, d8, d9, d10, d11, d12, d13, d14, d15, d16, d17, d18, d19, d20, d21, d22, d23, d24, d25, d26, d27, d28, d29, d30, d31, rfl⟩ := thirty_two D h
  exact run_build w 62 _ _ (by kernel_rfl)
theorem info_rnp : (Tryd.prog.info? 62).map (fun i => (i.zero, i.size, i.bytes)) = some (some (.agg (ncells (List.replicate 32 0) 0).toArray), 33, 40) := by kernel_rfl
/-- nodes of one's own, of whichever type. -/
theorem own_nodesE {w : World} {e : TypeId} {base : Nat} {a : Option Addr} {n c : Nat} {xs : List Nd} (h : w.ownsRow base e 33 (.slice a n c) n (xs.flatMap ndV)) (hl : xs.length = n) (hh : ∀ x ∈ xs, IsHash x.h) (hs : ∀ x ∈ xs, x.s < 18446744073709551616) :
    NodesAt w a n xs := by
  refine ⟨hl, hh, hs, fun hn => ?_⟩
  obtain ⟨b, cap, cur, e, hB, hhas, h1, h2, h3, h4⟩ := own_open h hn
  injection e with e1 e2 e3
  refine ⟨b, 0, e1, hhas.lt, fun i x hx j u hu => ?_⟩
  have hj := (List.getElem?_eq_some_iff.1 hu).1
  rw [ndV_len (hh x (List.mem_of_getElem? hx))] at hj
  have hi := (List.getElem?_eq_some_iff.1 hx).1
  have hlt : i * 33 + j < n * 33 := by
    have : (i + 1) * 33 ≤ n * 33 := Nat.mul_le_mul_right 33 (by omega)
    omega
  rw [Nat.zero_add]
  exact hhas.cell_is (by rw [h4 _ hlt, flatN_get xs hh i j x hx hj]; exact hu)
/-- what plain gives. -/
def PlainP (w : World) (bb : List Nat) (n : Nat) (xs : List Nd) (e : Ending) (w' : World) : Prop := ∃ a c, e = .returned (.agg (rpcells (bareB bb) a n c).toArray) ∧ NodesAt w' a n xs ∧ (∀ A, a = some A → w.heap.size ≤ A.block) ∧ Below w.heap.size w w'
structure PlW (w : World) (B1 B2 B3 : Nat) (LP : List Value) (Zr : Array Value) (bb : List Nat) (xs : List Nd) (k : Nat) (a : Option Addr) (c : Nat) (wr : World) : Prop where
  p : Has wr B1 56 LP.toArray
  r : Has wr B2 74 Zr
  o : Has wr B3 74 (rpcells (bareB bb) a k c).toArray
  own : wr.ownsRow w.heap.size 62 33 (.slice a k c) k ((xs.take k).flatMap ndV)
  bel : Below w.heap.size w wr
set_option maxRecDepth 100000 in
set_option maxHeartbeats 8000000 in
theorem plainP_is (w : World) (bb : List Nat) (hbb : IsHash bb) (a : Option Addr) (n c : Nat) (xs : List Nd) (hxs : NodesAt w a n xs) (hn : n ≤ 100000) :
    Calls Tryd.prog 30 #[.agg (pcells bb a n c).toArray] w (PlainP w bb n xs) := by
  obtain ⟨Z, hz, hZs, hZn, -⟩ := zero_node
  obtain ⟨Zr, hzr, hbr, hZrs, hZrn, hZre⟩ := zero_rproof
  obtain ⟨irn, his, his0, his1, his2⟩ := info_parts info_rnp
  obtain ⟨LP, hLP⟩ : ∃ L, L = pcells bb a n c := ⟨_, rfl⟩
  have lp : LP.length = 33 := by rw [hLP]; exact pcells_len hbb a n c
  have hrow : LP[32]? = some (.slice a n c) := by rw [hLP]; exact pcells_row hbb a n c
  have hbyte : ∀ i, i < 32 → LP[i]? = some (.int .u8 (bb.getD i 0 : Nat)) := fun i hi => by rw [hLP]; exact pcells_byte hbb a n c i hi
  rw [← hLP]
  have SZR := Lib.hid (show (Tryd.prog.info? 74).map (·.size) = some Zr.size by rw [hZrs]; kernel_rfl)
  have SZRR := Lib.hid (show ∀ (f : Nat → Bool) (a : Option Addr) (n c : Nat), (Tryd.prog.info? 74).map (·.size) = some (rpcells f a n c).toArray.size ∧ Zr.size = (rpcells f a n c).toArray.size from fun f a n c => by rw [List.size_toArray, rpcells_len, hZrs]; exact ⟨by kernel_rfl, rfl⟩)
  have ONER := Lib.hid (show Zr.all (·.oneCell') = true by rw [hZre]; exact rpcells_one _ _ _ _)
  have SZN := Lib.hid (show ∀ x : Nd, IsHash x.h → (Tryd.prog.info? 58).map (·.size) = some (ndV x).toArray.size from fun x hx => by rw [List.size_toArray, ndV_len hx]; kernel_rfl)
  have SZL := Lib.hid (show ∀ x : Nd, IsHash x.h → (Tryd.prog.info? 58).map (·.size) = some (ndV x).length from fun x hx => by rw [ndV_len hx]; kernel_rfl)
  have HZN := Lib.hid (show ∀ x : Nd, IsHash x.h → Z.size = (ndV x).toArray.size from fun x hx => by rw [hZs, List.size_toArray, ndV_len hx])
  have HBR := Lib.hid hbr
  have EZR := Lib.hid hZre
  have HXS := Lib.hid hxs
  have HROW := Lib.hid hrow
  have HBY := Lib.hid hbyte
  have HBB := Lib.hid hbb
  clear hLP lp hrow hbyte hZrs hZre hZs hbr hxs hbb
  go_enter Tryd.func30, Tryd.ntmps30
  go_upto_region 1 with (fail)
  have h1 : Has ((w.alloc (.cells LP.toArray 56)).alloc (.cells Zr 74)) w.heap.size 56 LP.toArray := (Has.new w _ _).alloc _
  have h2 : Has ((w.alloc (.cells LP.toArray 56)).alloc (.cells Zr 74)) (w.heap.size + 1) 74 Zr := by
    have := Has.new (w.alloc (.cells LP.toArray 56)) 74 Zr
    simpa using this
  have hb1 : Below w.heap.size w ((w.alloc (.cells LP.toArray 56)).alloc (.cells Zr 74)) := ((Below.refl _ _).alloc (Nat.le_refl _) _).alloc (by simp) _
  have hs1 : ((w.alloc (.cells LP.toArray 56)).alloc (.cells Zr 74)).heap.size = w.heap.size + 1 + 1 := by simp
  generalize (w.alloc (.cells LP.toArray 56)).alloc (.cells Zr 74) = W1 at h1 h2 hb1 hs1 ⊢
  have H1 := Lib.hid h1
  have H2 := Lib.hid h2
  have HB1 := Lib.hid hb1
  have HS1 := Lib.hid hs1
  clear h1 h2 hb1 hs1
  go_upto_region 2 with (first
    | (refine wpList_build_run (by kernel_rfl) 74 _ rfl #[] (by kernel_rfl) (.agg Zr) (HBR.out _) ?_)
    | (refine wpList_store_row rfl 74 (.tmp 3) (.tmp 7) rfl W1.heap.size Zr rfl rfl 74 Zr (heap_alloc_new W1 _) SZR.out rfl ONER.out ?_))
  have hnw : Has ((W1.alloc (.cells Zr 74)).setRow W1.heap.size Zr) W1.heap.size 74 Zr ∧ Below W1.heap.size W1 ((W1.alloc (.cells Zr 74)).setRow W1.heap.size Zr) := by
    rw [World.setRow_alloc_new]
    exact ⟨Has.new _ _ _, (Below.refl _ _).alloc (Nat.le_refl _) _⟩
  generalize (W1.alloc (.cells Zr 74)).setRow W1.heap.size Zr = W2 at hnw ⊢
  obtain ⟨B3, hB3⟩ : ∃ b, b = W1.heap.size := ⟨_, rfl⟩
  obtain ⟨B2, hB2⟩ : ∃ b, b = w.heap.size + 1 := ⟨_, rfl⟩
  obtain ⟨B1, hB1⟩ : ∃ b, b = w.heap.size := ⟨_, rfl⟩
  have HPL := Lib.hid (show w.heap.size ≤ B1 ∧ B1 < B2 ∧ B2 < B3 by have := HS1.out; omega)
  have H12 := Lib.hid (show Has W2 B1 56 LP.toArray by rw [hB1]; exact H1.out.below hnw.2 H1.out.lt)
  have H22 := Lib.hid (show Has W2 B2 74 Zr by rw [hB2]; exact H2.out.below hnw.2 H2.out.lt)
  have H32 := Lib.hid (show Has W2 B3 74 (rpcells (fun j => decide (j < 0) && bareB bb j) none 0 0).toArray by
    rw [hB3, rpcells_congr (f' := fun _ => false) (fun j _ => by simp), ← EZR.out]; exact hnw.1)
  have HB2 := Lib.hid (HB1.out.trans (hnw.2.mono HB1.out.size))
  rw [← hB3, ← hB2, ← hB1]
  clear hnw hB3 hB2 hB1 H1 H2 HB1 HS1
  go_wp2_with fail
  go_loopw [4] (fun v wr => ∃ h : Nat, v = .int .i64 (h : Int) ∧ h ≤ 256 ∧ Has wr B1 56 LP.toArray ∧ Has wr B2 74 Zr ∧ Has wr B3 74 (rpcells (fun j => decide (j < h) && bareB bb j) none 0 0).toArray ∧ Below w.heap.size w wr) (fun v _ => 256 - (intOf v).toNat)
  case atStart => exact ⟨0, rfl, Nat.zero_le _, H12.out, H22.out, H32.out, HB2.out⟩
  case round =>
    clear H12 H22 H32 HB2
    obtain ⟨h, rfl, hh, h1, h2, h3, hb⟩ := hrel
    have H1 := Lib.hid h1
    have H2 := Lib.hid h2
    have H3 := Lib.hid h3
    have HB := Lib.hid hb
    clear h1 h2 h3 hb
    by_cases hlt : h < 256
    · have hlt' : (h : Int) < 256 := by omega
      obtain ⟨x, hx⟩ : ∃ x, x = bb.getD (h / 8) 0 := ⟨_, rfl⟩
      have ck8 := H1.out.cell_is (i := h / 8) (by rw [List.getElem?_toArray]; exact HBY.out (h / 8) (by omega))
      rw [← hx] at ck8
      have hx8 : x < 256 := by rw [hx]; exact HBB.out.byte _ (by omega)
      have ch := H3.out.cell_is (i := h) (by rw [List.getElem?_toArray]; exact rpcells_bit _ none 0 0 h hlt)
      obtain ⟨q0, hq0⟩ : ∃ q, q = (decide (h < h) && bareB bb h) := ⟨_, rfl⟩
      rw [← hq0] at ch
      have fh := H3.out.free h
      obtain ⟨bt, hbt⟩ : ∃ b, b = bareB bb h := ⟨_, rfl⟩
      have hbn := bare_num bb h
      rw [← hx, ← hbt] at hbn
      have HBN := Lib.hid hbn
      have hs3 := H3.out.set h (.bool bt)
      rw [rpcells_set _ none 0 0 h bt hlt, rpcells_congr (f' := fun j => decide (j < h + 1) && bareB bb j) (fun j _ => by
        show (if j = h then bt else (decide (j < h) && bareB bb j)) = _
        by_cases e : j = h
        · subst e
          rw [if_pos rfl, hbt, decide_eq_true (Nat.lt_succ_self j), Bool.true_and]
        · rw [if_neg e]
          congr 1
          rw [decide_eq_decide]; omega)] at hs3
      have hk3 : Kept (fun j => j = B3) wr (wr.setCell ⟨B3, h, none⟩ (.bool bt)) := (Kept.refl (· = B3) wr).set (p := ⟨B3, h, none⟩) (.inl rfl) _
      have hpl := HPL.out
      have HFIN := Lib.hid (show Has (wr.setCell ⟨B3, h, none⟩ (.bool bt)) B1 56 LP.toArray ∧ Has (wr.setCell ⟨B3, h, none⟩ (.bool bt)) B2 74 Zr ∧ Has (wr.setCell ⟨B3, h, none⟩ (.bool bt)) B3 74 (rpcells (fun j => decide (j < h + 1) && bareB bb j) none 0 0).toArray ∧ Below w.heap.size w (wr.setCell ⟨B3, h, none⟩ (.bool bt)) from
        ⟨H1.out.kept hk3 (by show ¬ B1 = B3; omega), H2.out.kept hk3 (by show ¬ B2 = B3; omega), hs3, HB.out.trans (hk3.below HB.out.size (fun j e => by have e' : j = B3 := e; omega))⟩)
      clear hx hq0 hbt hbn hs3 hk3 hpl
      go_wp2
      go_roundw
      case rel =>
        have hf := HFIN.out
        rw [← HBN.out] at hf
        exact ⟨h + 1, by go_num, by omega, hf⟩
      case measure => simp [intOf]; omega
    · obtain ⟨wv, hwv⟩ : ∃ y, y = wr := ⟨_, rfl⟩
      subst hwv
      have H256 := Lib.hid (show h = 256 by omega)
      have hlt' : ¬ (h : Int) < 256 := by omega
      have c32 := H1.out.cell_is (i := 32) (by rw [List.getElem?_toArray]; exact HROW.out)
      have hpw : PlW w B1 B2 B3 LP Zr bb xs 0 none 0 wv := ⟨H1.out, H2.out, by
        have := H3.out
        rwa [rpcells_congr (f' := bareB bb) (fun j hj => by show (decide (j < h) && bareB bb j) = _; rw [decide_eq_true (by rw [H256.out]; exact hj), Bool.true_and])] at this, ⟨rfl, .inl ⟨rfl, rfl⟩⟩, HB.out⟩
      have HPW := Lib.hid hpw
      clear hpw H1 H2 H3 HB hh hlt
      go_wp2_with fail
      clear c32
      go_loopw [29] (fun v wx => ∃ (k : Nat) (a' : Option Addr) (c' : Nat), v = .int .i64 (k : Int) ∧ k ≤ n ∧ PlW w B1 B2 B3 LP Zr bb xs k a' c' wx) (fun v _ => n - (intOf v).toNat)
      case atStart => exact ⟨0, none, 0, rfl, Nat.zero_le _, HPW.out⟩
      case round =>
        clear HPW
        obtain ⟨k, a', c', rfl, hk, hpw⟩ := hrel
        have HPW := Lib.hid hpw
        clear hpw
        by_cases hkn : k < n
        · have hkn' : (k : Int) < (n : Int) := by omega
          obtain ⟨x, hx⟩ : ∃ x, xs[k]? = some x := ⟨_, List.getElem?_eq_getElem (by rw [HXS.out.len]; exact hkn)⟩
          have hxh : IsHash x.h := HXS.out.hash x (List.mem_of_getElem? hx)
          obtain ⟨b, o, ha, hbl, hr⟩ := (HXS.out.below HPW.out.bel).at_ (by omega)
          have hrx := hr k x hx
          have hat := at_nodeo b o n c k hkn
          rw [← ha] at hat
          have hnw : Has ((wr.alloc (.cells Z 58)).setRow wr.heap.size (ndV x).toArray) wr.heap.size 58 (ndV x).toArray ∧ Below wr.heap.size wr ((wr.alloc (.cells Z 58)).setRow wr.heap.size (ndV x).toArray) := by
            rw [World.setRow_alloc_new]
            exact ⟨Has.new _ _ _, (Below.refl _ _).alloc (Nat.le_refl _) _⟩
          have hts : xs.take (k + 1) = xs.take k ++ [x] := by rw [List.take_add_one, hx]; rfl
          have HRX := Lib.hid hrx
          have HXH := Lib.hid hxh
          have HTS := Lib.hid hts
          have HNW := Lib.hid hnw
          clear hx hxh hr hrx hbl hts hnw ha
          go_upto_region 9 with (first
            | (refine wpList_load_mid rfl 58 (.tmp 31) rfl b (o + k * 33) rfl (ndV x) _ HRX.out Tryd.underlying58 rfl (SZL.out x HXH.out) ?_)
            | (refine wpList_store_row rfl 58 (.tmp 6) (.tmp 32) rfl wr.heap.size (ndV x).toArray rfl rfl 58 Z (heap_alloc_new wr _) (SZN.out _ HXH.out) (HZN.out _ HXH.out) (ndV_one _) ?_))
          generalize hW5 : (wr.alloc (.cells Z 58)).setRow wr.heap.size (ndV x).toArray = W5 at HNW ⊢
          generalize wr.heap.size = G6 at HNW ⊢
          have hpw5 : PlW w B1 B2 B3 LP Zr bb xs k a' c' W5 := by
            have hb : Below wr.heap.size wr W5 := by rw [← hW5, World.setRow_alloc_new]; exact (Below.refl _ _).alloc (Nat.le_refl _) _
            exact ⟨HPW.out.p.below hb HPW.out.p.lt, HPW.out.r.below hb HPW.out.r.lt, HPW.out.o.below hb HPW.out.o.lt, own_kept HPW.out.own (Kept.of_below (S := fun _ => False) hb) (fun _ _ e => e), HPW.out.bel.trans (hb.mono HPW.out.bel.size)⟩
          have HP5 := Lib.hid hpw5
          clear hpw5 hW5
          obtain ⟨sx, hsx⟩ : ∃ v, v = x.s := ⟨_, rfl⟩
          obtain ⟨hv, hhv⟩ : ∃ v, v = x.h := ⟨_, rfl⟩
          have hnd : ndV x = ncells hv sx := by rw [hhv, hsx]; rfl
          have hhl : hv.length = 32 := by rw [hhv]; exact HXH.out.1
          have hrh : W5.rangeAt G6 0 (bcells hv) := fun j u hu => by
            refine HNW.out.1.cell_is ?_
            rw [List.getElem?_toArray, Nat.zero_add, hnd, ncells, List.getElem?_append_left (List.getElem?_eq_some_iff.1 hu).1]
            exact hu
          have c632 : W5.cell? ⟨G6, 32, none⟩ = some (.int .u64 (sx : Int)) := HNW.out.1.cell_is (by
            rw [List.getElem?_toArray, hnd, ncells, List.getElem?_append_right (by rw [bcells_length, hhl]; exact Nat.le_refl _), bcells_length, hhl]; rfl)
          have c3 := HP5.out.o.cell_is (i := 256) (by rw [List.getElem?_toArray]; exact rpcells_row _ a' k c')
          have SZB := Lib.hid (show (Tryd.prog.info? 28).map (·.size) = some (bcells hv).length by rw [bcells_length, hhl]; kernel_rfl)
          have HRH := Lib.hid hrh
          have HBLD := Lib.hid (rnb hv sx hhl)
          obtain ⟨LN, hLN⟩ : ∃ L, L = ncells hv sx := ⟨_, rfl⟩
          have hln : LN.length = 33 := by rw [hLN]; simp [ncells, bcells_length, hhl]
          rw [← hLN] at HBLD
          have HZ33 := Lib.hid (show (Value.agg (ncells (List.replicate 32 0) 0).toArray).cells.size = 33 by kernel_rfl)
          have HML := Lib.hid (show k + 1 ≤ maxLen by unfold maxLen; omega)
          have HBYT := Lib.hid (show (k + 1) * 40 ≤ 140737488355328 by omega)
          have hB5 : w.heap.size ≤ W5.heap.size := HP5.out.bel.size
          have HBS := Lib.hid (show ∀ C, w.heap.size ≤ (W5.alloc C).heap.size by intro C; show _ ≤ (W5.heap.push _).size; rw [Array.size_push]; omega)
          have HLL := Lib.hid (show LN.length = 1 * 33 from hln)
          have HL1 := Lib.hid (show ∀ v ∈ LN, v.oneCell' = true by rw [hLN]; exact ncells_one _ _)
          have h0k : 0 < LN.length := by rw [hln]; decide
          have h24 : LN.length ≤ 16777216 := by rw [hln]; decide
          have HIL := Lib.hid (show irn.size = LN.length by rw [his1, hln])
          have HZL := Lib.hid (show (Value.agg (ncells (List.replicate 32 0) 0).toArray).cells.size = LN.length by rw [HZ33.out, hln])
          have HSUC := Lib.hid (show (W5.alloc (.cells LN.toArray 62)).heap.size = W5.heap.size + 1 by simp)
          have hend : ∀ g7 cap7 w7, w7.ownsRow w.heap.size 62 33 (.slice (some ⟨g7, 0, none⟩) (k + 1) cap7) (k + 1) ((xs.take k).flatMap ndV ++ LN) → (W5.alloc (.cells LN.toArray 62)).grownBy w7 (Value.slice a' k c').ownBlock →
              Has w7 B3 74 (rpcells (bareB bb) a' k c').toArray ∧ PlW w B1 B2 B3 LP Zr bb xs (k + 1) (some ⟨g7, 0, none⟩) cap7 (w7.setCell ⟨B3, 256, none⟩ (.slice (some ⟨g7, 0, none⟩) (k + 1) cap7)) := fun g7 cap7 w7 ho hg => by
            have hpl := HPL.out
            have hk1 : Kept (fun j => (Value.slice a' k c').ownBlock = some j) W5 w7 := ((Kept.refl _ W5).alloc _).grown hg (fun j e => .inl e)
            have hp7 := HP5.out.o.kept hk1 (fun e => own_has_ne HP5.out.own HP5.out.o (by decide) B3 e rfl)
            have hp8 := hp7.set 256 (.slice (some ⟨g7, 0, none⟩) (k + 1) cap7)
            rw [rpcells_put] at hp8
            have hk2 : Kept (· = B3) w7 (w7.setCell ⟨B3, 256, none⟩ (.slice (some ⟨g7, 0, none⟩) (k + 1) cap7)) := (Kept.refl (· = B3) w7).set (p := ⟨B3, 256, none⟩) (.inl rfl) _
            have hk3 : Kept (fun j => j = B3 ∨ (Value.slice a' k c').ownBlock = some j) W5 (w7.setCell ⟨B3, 256, none⟩ (.slice (some ⟨g7, 0, none⟩) (k + 1) cap7)) := (hk1.mono (fun _ _ e => .inr e)).step hk2 (fun j e => .inl (.inl e))
            refine ⟨hp7, HP5.out.p.kept hk3 (fun e => e.elim (fun e => by omega) (fun e => own_has_ne HP5.out.own HP5.out.p (by decide) B1 e rfl)), HP5.out.r.kept hk3 (fun e => e.elim (fun e => by omega) (fun e => own_has_ne HP5.out.own HP5.out.r (by decide) B2 e rfl)), hp8, ?_, HP5.out.bel.trans (hk3.below HP5.out.bel.size (fun j e => ?_))⟩
            · rw [HTS.out, List.flatMap_append]
              refine own_kept (by rw [List.flatMap_singleton, hnd, ← hLN]; exact ho) hk2 (fun j e1 e2 => own_has_ne ho hp7 (by decide) j e1 e2)
            · rcases e with e | e
              · omega
              · exact (HP5.out.own.lt j e).1
          have HEND := Lib.hid hend
          have HOWN := Lib.hid HP5.out.own
          clear hend hB5 hrh hnd hLN hsx hhv
          go_upto_region 10 with (first
            | (refine wpList_load_mid rfl 28 (.tmp 35) rfl G6 0 rfl (bcells hv) _ HRH.out Tryd.underlying28 rfl SZB.out ?_)
            | (refine wpList_build_run (by kernel_rfl) 62 _ rfl #[(0, .agg (bcells hv).toArray), (1, .int .u64 (sx : Int))] (by kernel_rfl) (.agg LN.toArray) (HBLD.out _) ?_)
            | (refine wpList_build1 rfl 72 62 (.tmp 39) rfl irn _ Tryd.underlying72 his his0 LN HIL.out HZL.out h0k h24 rfl ?_)
            | (at_builtin; refine wpList_append_lies _ rfl (.tmp 34) (.tmp 40) 72 rfl w.heap.size 62 irn _ 33 40 Tryd.underlying72 his his0 his1 his2 HZ33.out (by decide) _ k _ rfl (HOWN.out.alloc _) ⟨W5.heap.size, 0, none⟩ 1 1 LN rfl HLL.out (World.news_of_block (cs := LN.toArray) (heap_alloc_new W5 _)) HL1.out (by decide) HML.out HBYT.out (HBS.out _) (W5.heap.size + 1) HSUC.out ?_; intro g7 cap7 w7 hown7 hgr7 hat7 hlt7; (have hq7 := HEND.out g7 cap7 w7 hown7 hgr7); (have c732 := hq7.1.cell_is (i := 256) (by rw [List.getElem?_toArray]; exact rpcells_row _ a' k c')); (have f732 := hq7.1.free 256); (have HQ7 := Lib.hid hq7); clear hq7 hown7 hgr7 hat7 hlt7))
          generalize w7.setCell ⟨B3, 256, none⟩ (.slice (some ⟨g7, 0, none⟩) (k + 1) cap7) = W8 at HQ7 ⊢
          go_wp2
          go_roundw
          case rel =>
            have hfin : ∃ (k1 : Nat) (a1 : Option Addr) (c1 : Nat), Value.int .i64 ((k : Int) + 1) = .int .i64 (k1 : Int) ∧ k1 ≤ n ∧ PlW w B1 B2 B3 LP Zr bb xs k1 a1 c1 W8 := ⟨k + 1, _, _, rfl, by omega, HQ7.out.2⟩
            first | exact hfin | ((repeat apply Exists.intro); exact ⟨hfin, rfl⟩)
          case measure => simp [intOf]; omega
        · obtain rfl : k = n := by omega
          have hkn' : ¬ (k : Int) < (k : Int) := by omega
          have hset : Has (wr.setRow B2 (rpcells (bareB bb) a' k c').toArray) B2 74 (rpcells (bareB bb) a' k c').toArray := HPW.out.r.setRow
          have hk2 := kept_setRow (g := B2) wr (rpcells (bareB bb) a' k c').toArray
          have hpl := HPL.out
          have hall : xs.take k = xs := List.take_of_length_le (by rw [HXS.out.len]; exact Nat.le_refl _)
          have hown := HPW.out.own
          rw [hall] at hown
          have hno := own_nodesE (own_kept hown hk2 (fun j e1 e2 => own_has_ne HPW.out.own HPW.out.r (by decide) j e1 e2)) HXS.out.len HXS.out.hash HXS.out.fits
          have hfin : PlainP w bb k xs (.returned (.agg (rpcells (bareB bb) a' k c').toArray)) (wr.setRow B2 (rpcells (bareB bb) a' k c').toArray) :=
            ⟨a', c', rfl, hno, fun A hA => (HPW.out.own.lt A.block (by rw [hA]; rfl)).1, HPW.out.bel.trans (hk2.below HPW.out.bel.size (fun j e => by have e' : j = B2 := e; omega))⟩
          have HFIN := Lib.hid hfin
          have HSET := Lib.hid hset
          have HSZ := Lib.hid (SZRR.out (bareB bb) a' k c')
          clear hset hk2 hpl hall hown hno hfin hkn
          go_wp2_with (first
            | (refine wpList_load_row rfl 74 (.tmp 3) rfl B3 rfl 74 (rpcells (bareB bb) a' k c').toArray (0, 0) _ HPW.out.o Tryd.underlying74 rfl HSZ.out.1 ?_)
            | (refine wpList_store_row rfl 74 (.tmp 2) (.tmp 44) rfl B2 (rpcells (bareB bb) a' k c').toArray rfl rfl 74 Zr HPW.out.r HSZ.out.1 HSZ.out.2 (rpcells_one _ _ _ _) ?_))
          refine bodyPost_ret (results_cell_row rfl _ _ B2 74 (rpcells (bareB bb) a' k c').toArray (0, 0) _ rfl HSET.out Tryd.underlying74 rfl HSZ.out.1) rfl ?_
          exact HFIN.out
end Go.Proofs.YtngmpcmeebcdmaaDoor
