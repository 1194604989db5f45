/- The walk of Check: whether a leaf stands at a key of the tree with a root. -/
import Derived.Test.YtbhnnoejhbihhaaGreatDoorPf3
import Derived.Test.YtbhnnoejhbihhaaGreatDoorApp
import Derived.Deep.AppendLies
namespace Go.Proofs.YtbhnnoejhbihhaaGreatDoor
set_option linter.unusedVariables false
set_option linter.unusedSimpArgs false
open Go.ChangeShapes Go.WideShapes Go.ChangeAt Go.RowKit Go.Maps

theorem pfAt_errs {K s0 : List Wd} {bare : Nat → Bool} {key : List Nat} {nodes : List Nd} {n0 : Nd} : ∀ (h : Nat) {e : Nat}, pfAt K s0 bare key nodes n0 h = .error e → e = 10 ∨ e = 20 ∨ e = 21 := by
  intro h
  induction h with
  | zero => intro e he; cases he
  | succ h ih =>
    intro e he
    cases e0 : pfAt K s0 bare key nodes n0 h with
    | error e' => rw [pfAt_err e0 1] at he; cases he; exact ih e0
    | ok p =>
      obtain ⟨m, v⟩ := p
      rw [pfAt_succ h e0] at he
      unfold pfStep pfBr at he
      split at he
      · split at he
        · cases he
        · cases he; exact .inl rfl
      · split at he
        · cases he; exact .inr (.inl rfl)
        · split at he
          · cases he; exact .inr (.inr rfl)
          · split at he
            · cases he
            · cases he; exact .inl rfl
theorem pf_errs {K s0 : List Wd} {bare : Nat → Bool} {key : List Nat} {nodes : List Nd} {n0 : Nd} {e : Nat} (he : pfRoot K s0 bare key nodes n0 = .error e) : e = 10 ∨ e = 20 ∨ e = 21 ∨ e = 24 := by
  unfold pfRoot at he
  cases e0 : pfAt K s0 bare key nodes n0 256 with
  | error e' => rw [e0] at he; cases he; rcases pfAt_errs 256 e0 with h | h | h <;> simp [h]
  | ok p =>
    rw [e0] at he
    change (if p.2 < nodes.length then (Except.error 24 : Except Nat Nd) else .ok p.1) = .error e at he
    split at he
    · cases he; simp
    · cases he
/-- what Check answers. -/
def chkE (R : Except Nat Nd) (r : Nd) : Nat := match R with
  | .error e => e
  | .ok n => if ndSame n r = true then 0 else 30
theorem chk_ok (n r : Nd) : chkE (.ok n) r = if ndSame n r = true then 0 else 30 := rfl
theorem chk_err (e : Nat) (r : Nd) : chkE (.error e) r = e := rfl
set_option maxRecDepth 100000 in
set_option maxHeartbeats 8000000 in
theorem check_is (K s0 : List Wd) (w : World) (hT : Tabs K s0 w) (bb : List Nat) (hbb : IsHash bb) (a : Option Addr) (n c : Nat) (xs : List Nd) (hxs : NodesAt w a n xs) (hn : n ≤ 1000000) (r : Nd) (hr : IsHash r.h)
    (key : List Nat) (hkey : IsHash key) (av : Option Addr) (bs : List Nat) (cv s : Nat) (hB : Bytes w w.heap.size (.slice av bs.length cv) bs) (hl : bs.length ≤ 1000000) (hs : s < 18446744073709551616) (R : Except Nat Nd)
    (hR : R = pfRoot K s0 (bareB bb) key xs (leafNd K s0 bs s)) :
    Calls Tryz.prog 100 #[.agg (pcells bb a n c).toArray, .agg (ndV r).toArray, arr key, leafV (.slice av bs.length cv) s] w fun e w' => e = .returned (.int .i64 (chkE R r : Nat)) ∧ Below w.heap.size w w' := by
  obtain ⟨Z, hz, hZs, hZn, hZ⟩ := zero_node
  have hroot : ∀ W, Below w.heap.size w W → Calls Tryz.prog 42 #[.agg (pcells bb a n c).toArray, arr key, leafV (.slice av bs.length cv) s] W fun e w' => e = .returned (.tuple #[.agg (ndV (pfN R)).toArray, .int .i64 (pfE R : Nat)]) ∧ Below W.heap.size W w' := fun W hW =>
    pfRoot_is K s0 W (hT.below hW hT.low) bb hbb a n c xs (hxs.below hW) hn key hkey av bs cv s (hB.alive hW hW.size) hl hs R hR
  have hrh : IsHash (pfN R).h := by rw [hR]; exact pf_hash hT.len (leaf_hash K s0 hT.len bs s)
  have herr : ∀ e, R = .error e → ¬ e = 0 := fun e he => by rw [he] at hR; rcases pf_errs hR.symm with h | h | h | h <;> omega
  obtain ⟨LP, hLP⟩ : ∃ L, L = pcells bb a n c := ⟨_, rfl⟩
  obtain ⟨CK, hCK⟩ : ∃ L, L = bcells key := ⟨_, rfl⟩
  obtain ⟨nb, hnb⟩ : ∃ x, x = bs.length := ⟨_, rfl⟩
  have lp : LP.length = 33 := by rw [hLP]; exact pcells_len hbb a n c
  have lk : CK.length = 32 := by rw [hCK, bcells_length, hkey.1]
  unfold arr leafV at hroot ⊢
  rw [← hLP, ← hCK, ← hnb] at hroot ⊢
  have HROOT := Lib.hid hroot
  have HRH := Lib.hid hrh
  have HR := Lib.hid hr
  have HERR := Lib.hid herr
  have SZP := Lib.hid (show (Tryz.prog.info? 90).map (·.size) = some LP.toArray.size by rw [List.size_toArray, lp]; kernel_rfl)
  have SZK := Lib.hid (show (Tryz.prog.info? 26).map (·.size) = some CK.toArray.size by rw [List.size_toArray, lk]; kernel_rfl)
  have SZN := Lib.hid (show ∀ x : Nd, IsHash x.h → (Tryz.prog.info? 29).map (·.size) = some (ndV x).toArray.size from fun x hx => by rw [List.size_toArray, ndV_len hx]; kernel_rfl)
  have HZN := Lib.hid (show ∀ x : Nd, IsHash x.h → Z.size = (ndV x).toArray.size from fun x hx => by rw [hZs, List.size_toArray, ndV_len hx])
  have SZF := Lib.hid (show (Tryz.prog.info? 58).map (·.size) = some (#[Value.slice av nb cv, .int .u64 (s : Int)] : Array Value).size by kernel_rfl)
  clear hroot hrh hr hLP hCK hnb hT hxs hB hl hs hR hZs lp lk hkey hbb herr hZ
  go_enter Tryz.func100, Tryz.ntmps100
  go_upto_region 1 with (fail)
  have h4 : Has ((((w.alloc (.cells LP.toArray 90)).alloc (.cells (ndV r).toArray 29)).alloc (.cells CK.toArray 26)).alloc (.cells #[.slice av nb cv, .int .u64 (s : Int)] 58)) w.heap.size 90 LP.toArray := (((Has.new w _ _).alloc _).alloc _).alloc _
  have h5 : Has ((((w.alloc (.cells LP.toArray 90)).alloc (.cells (ndV r).toArray 29)).alloc (.cells CK.toArray 26)).alloc (.cells #[.slice av nb cv, .int .u64 (s : Int)] 58)) (w.heap.size + 1) 29 (ndV r).toArray := by
    have := Has.new (w.alloc (.cells LP.toArray 90)) 29 (ndV r).toArray
    exact ((by simpa using this : Has _ (w.heap.size + 1) _ _).alloc _).alloc _
  have h6 : Has ((((w.alloc (.cells LP.toArray 90)).alloc (.cells (ndV r).toArray 29)).alloc (.cells CK.toArray 26)).alloc (.cells #[.slice av nb cv, .int .u64 (s : Int)] 58)) (w.heap.size + 1 + 1) 26 CK.toArray := by
    have := Has.new ((w.alloc (.cells LP.toArray 90)).alloc (.cells (ndV r).toArray 29)) 26 CK.toArray
    exact (by simpa using this : Has _ (w.heap.size + 1 + 1) _ _).alloc _
  have h7 : Has ((((w.alloc (.cells LP.toArray 90)).alloc (.cells (ndV r).toArray 29)).alloc (.cells CK.toArray 26)).alloc (.cells #[.slice av nb cv, .int .u64 (s : Int)] 58)) (w.heap.size + 1 + 1 + 1) 58 #[.slice av nb cv, .int .u64 (s : Int)] := by
    have := Has.new (((w.alloc (.cells LP.toArray 90)).alloc (.cells (ndV r).toArray 29)).alloc (.cells CK.toArray 26)) 58 #[.slice av nb cv, .int .u64 (s : Int)]
    simpa using this
  have hb1 : Below w.heap.size w ((((w.alloc (.cells LP.toArray 90)).alloc (.cells (ndV r).toArray 29)).alloc (.cells CK.toArray 26)).alloc (.cells #[.slice av nb cv, .int .u64 (s : Int)] 58)) :=
    ((((Below.refl _ _).alloc (Nat.le_refl _) _).alloc (by simp) _).alloc (by simp; omega) _).alloc (by simp; omega) _
  generalize (((w.alloc (.cells LP.toArray 90)).alloc (.cells (ndV r).toArray 29)).alloc (.cells CK.toArray 26)).alloc (.cells #[.slice av nb cv, .int .u64 (s : Int)] 58) = W1 at h4 h5 h6 h7 hb1 ⊢
  have H4 := Lib.hid h4
  have H5 := Lib.hid h5
  have H6 := Lib.hid h6
  have H7 := Lib.hid h7
  have HB1 := Lib.hid hb1
  clear h4 h5 h6 h7 hb1
  go_wp2_with (first
    | (refine wpList_load_row rfl 90 (.tmp 4) rfl w.heap.size rfl 90 LP.toArray (0, 0) _ H4.out Tryz.underlying90 rfl SZP.out ?_)
    | (refine wpList_load_row rfl 26 (.tmp 6) rfl (w.heap.size + 1 + 1) rfl 26 CK.toArray (0, 0) _ H6.out Tryz.underlying26 rfl SZK.out ?_)
    | (refine wpList_load_row rfl 58 (.tmp 7) rfl (w.heap.size + 1 + 1 + 1) rfl 58 #[.slice av nb cv, .int .u64 (s : Int)] (0, 0) _ H7.out Tryz.underlying58 rfl SZF.out ?_))
  refine (HROOT.out _ HB1.out).mono ?_
  rintro _ w2 ⟨rfl, hb2⟩
  have hnw : Has ((w2.alloc (.cells Z 29)).setRow w2.heap.size (ndV (pfN R)).toArray) w2.heap.size 29 (ndV (pfN R)).toArray ∧ Has ((w2.alloc (.cells Z 29)).setRow w2.heap.size (ndV (pfN R)).toArray) (w.heap.size + 1) 29 (ndV r).toArray ∧ Below w.heap.size w ((w2.alloc (.cells Z 29)).setRow w2.heap.size (ndV (pfN R)).toArray) := by
    rw [World.setRow_alloc_new]
    exact ⟨Has.new _ _ _, (H5.out.below hb2 H5.out.lt).alloc _, (HB1.out.trans (hb2.mono HB1.out.size)).alloc (by have := HB1.out.size; have := hb2.size; omega) _⟩
  have HNW := Lib.hid hnw
  clear hb2 hnw H4 H5 H6 H7 HROOT
  go_upto_region 2 with (refine wpList_store_row rfl 29 (.tmp 9) (.tmp 16) rfl w2.heap.size (ndV (pfN R)).toArray rfl rfl 29 Z (heap_alloc_new w2 _) (SZN.out _ HRH.out) (HZN.out _ HRH.out) (ndV_one _) ?_)
  generalize (w2.alloc (.cells Z 29)).setRow w2.heap.size (ndV (pfN R)).toArray = W3 at HNW ⊢
  cases R with
  | error e =>
    have he : ¬ e = 0 := HERR.out e rfl
    have hne : ((e : Int) != 0) = true := by rw [bne_iff_ne]; omega
    unfold pfE
    go_wp2
    go_ret
    exact ⟨rfl, HNW.out.2.2⟩
  | ok m =>
    have hcmp := nd_any m r HRH.out HR.out
    unfold pfE
    have hz0 : (((0 : Nat) : Int) != 0) = false := rfl
    obtain ⟨sm, hsm⟩ : ∃ b, b = ndSame m r := ⟨_, rfl⟩
    rw [← hsm] at hcmp
    have ESM := Lib.hid hsm
    have HHN := Lib.hid (show Has W3 w2.heap.size 29 (ndV m).toArray from HNW.out.1)
    have SZM := Lib.hid (show (Tryz.prog.info? 29).map (·.size) = some (ndV m).toArray.size from SZN.out m HRH.out)
    clear hsm
    cases sm with
    | true =>
      go_wp2_with (first
        | (refine wpList_load_row rfl 29 (.tmp 9) rfl w2.heap.size rfl 29 (ndV m).toArray (0, 0) _ HHN.out Tryz.underlying29 rfl SZM.out ?_)
        | (refine wpList_load_row rfl 29 (.tmp 5) rfl (w.heap.size + 1) rfl 29 (ndV r).toArray (0, 0) _ HNW.out.2.1 Tryz.underlying29 rfl (SZN.out _ HR.out) ?_))
      go_ret
      exact ⟨ret_int (by rw [chk_ok, ← ESM.out, if_pos rfl]; rfl), HNW.out.2.2⟩
    | false =>
      go_wp2_with (first
        | (refine wpList_load_row rfl 29 (.tmp 9) rfl w2.heap.size rfl 29 (ndV m).toArray (0, 0) _ HHN.out Tryz.underlying29 rfl SZM.out ?_)
        | (refine wpList_load_row rfl 29 (.tmp 5) rfl (w.heap.size + 1) rfl 29 (ndV r).toArray (0, 0) _ HNW.out.2.1 Tryz.underlying29 rfl (SZN.out _ HR.out) ?_))
      go_ret
      exact ⟨ret_int (by rw [chk_ok, ← ESM.out, if_neg (by decide)]; rfl), HNW.out.2.2⟩
end Go.Proofs.YtbhnnoejhbihhaaGreatDoor

/- Parts of Make: bits that are set, nodes that are gathered. -/
namespace Go.Proofs.YtbhnnoejhbihhaaGreatDoor
set_option linter.unusedVariables false
set_option linter.unusedSimpArgs false
open Go.ChangeShapes Go.WideShapes Go.ChangeAt Go.RowKit Go.Maps

theorem bareB_test (bb : List Nat) (h : Nat) : bareB bb h = (bb.getD (h / 8) 0).testBit (h % 8) := by
  unfold bareB
  rw [Nat.testBit_eq_decide_div_mod_eq]
theorem bare_set {bb : List Nat} (hb : IsHash bb) (k : Nat) (hk : k < 256) :
    IsHash (bb.set (k / 8) (bb.getD (k / 8) 0 ||| 2 ^ (k % 8))) ∧ ∀ h, h < 256 → bareB (bb.set (k / 8) (bb.getD (k / 8) 0 ||| 2 ^ (k % 8))) h = (bareB bb h || decide (h = k)) := by
  have hy : bb.getD (k / 8) 0 ||| 2 ^ (k % 8) < 256 := by
    have h1 := hb.byte (k / 8) (by omega)
    have h2 : 2 ^ (k % 8) < 2 ^ 8 := Nat.pow_lt_pow_right (by decide) (Nat.mod_lt _ (by decide))
    exact Nat.or_lt_two_pow (n := 8) h1 h2
  refine ⟨⟨by rw [List.length_set, hb.1], fun x hx => ?_⟩, fun h hh => ?_⟩
  · rcases List.mem_or_eq_of_mem_set hx with e | e
    · exact hb.2 x e
    · rw [e]; exact hy
  · rw [bareB_test, bareB_test]
    by_cases e : h / 8 = k / 8
    · rw [e, List.getD_eq_getElem?_getD, List.getElem?_set_self (by rw [hb.1]; omega), Option.getD_some, Nat.testBit_or, Nat.testBit_two_pow]
      congr 1
      rw [decide_eq_decide]
      omega
    · rw [List.getD_eq_getElem?_getD, List.getElem?_set_ne (by omega), ← List.getD_eq_getElem?_getD, decide_eq_false (show ¬ h = k from fun q => e (by rw [q])), Bool.or_false]
theorem bareB_zero (h : Nat) (hh : h < 256) : bareB (List.replicate 32 0) h = false := by
  rw [bareB_test, List.getD_eq_getElem?_getD, List.getElem?_replicate, if_pos (by omega), Option.getD_some, Nat.zero_testBit]
theorem flatN_get : ∀ (xs : List Nd), (∀ x ∈ xs, IsHash x.h) → ∀ (i j : Nat) x, xs[i]? = some x → j < 33 → (xs.flatMap ndV)[i * 33 + j]? = (ndV x)[j]?
  | [], _, i, j, x, hi, _ => by cases hi
  | y :: ys, hh, 0, j, x, hi, hj => by
    cases hi
    rw [List.flatMap_cons, Nat.zero_mul, Nat.zero_add, List.getElem?_append_left (by rw [ndV_len (hh _ (List.mem_cons_self ..))]; exact hj)]
  | y :: ys, hh, i + 1, j, x, hi, hj => by
    have hl := ndV_len (hh y (List.mem_cons_self ..))
    rw [List.flatMap_cons, List.getElem?_append_right (by rw [hl]; omega), hl, show (i + 1) * 33 + j - 33 = i * 33 + j by omega]
    exact flatN_get ys (fun z hz => hh z (List.mem_cons_of_mem _ hz)) i j x hi hj
theorem flatN_len : ∀ (xs : List Nd), (∀ x ∈ xs, IsHash x.h) → (xs.flatMap ndV).length = xs.length * 33
  | [], _ => rfl
  | y :: ys, hh => by
    rw [List.flatMap_cons, List.length_append, ndV_len (hh y (List.mem_cons_self ..)), flatN_len ys (fun z hz => hh z (List.mem_cons_of_mem _ hz)), List.length_cons]; omega
/-- nodes of one's own. -/
theorem own_nodes {w : World} {base : Nat} {a : Option Addr} {n c : Nat} {xs : List Nd} (h : w.ownsRow base 29 33 (.slice a n c) n (xs.flatMap ndV)) (hl : xs.length = n) (hh : ∀ x ∈ xs, IsHash x.h) (hs : ∀ x ∈ xs, x.s < 18446744073709551616) :
    NodesAt w a n xs ∧ (0 < n → ∀ A, a = some A → base ≤ A.block) := by
  refine ⟨⟨hl, hh, hs, fun hn => ?_⟩, fun hn A hA => ?_⟩
  · obtain ⟨b, cap, cur, e, hB, hhas, h1, h2, h3, h4⟩ := own_open h hn
    injection e with e1 e2 e3
    refine ⟨b, 0, e1, hhas.lt, fun i x hx j u hu => ?_⟩
    have hj := (List.getElem?_eq_some_iff.1 hu).1
    rw [ndV_len (hh x (List.mem_of_getElem? hx))] at hj
    have hi := (List.getElem?_eq_some_iff.1 hx).1
    have hlt : i * 33 + j < n * 33 := by
      have : (i + 1) * 33 ≤ n * 33 := Nat.mul_le_mul_right 33 (by omega)
      omega
    rw [Nat.zero_add]
    exact hhas.cell_is (by rw [h4 _ hlt, flatN_get xs hh i j x hx hj]; exact hu)
  · obtain ⟨b, cap, cur, e, hB, hhas, h1, h2, h3, h4⟩ := own_open h hn
    injection e with e1 e2 e3
    rw [hA] at e1
    injection e1 with e1
    rw [e1]; exact hB
theorem zero_proof : ∃ Z : Array Value, (∀ w, (zeroValue 90).run Tryz.prog w = .ok (.agg Z) w) ∧ Z.size = 33 ∧ ¬ Z = #[] ∧ Z = (pcells (List.replicate 32 0) none 0 0).toArray := by
  have hs : (pcells (List.replicate 32 0) none 0 0).toArray.size = 33 := by kernel_rfl
  exact ⟨_, fun w => by kernel_rfl, hs, fun e => (by rw [e] at hs; cases hs), rfl⟩
/-- a bit set in a byte. -/
theorem or_bit (x j : Nat) (hx : x < 256) (hj : j < 8) : bits BinOp.or .u8 (x : Int) ((2 ^ j : Nat) : Int) = ((x ||| 2 ^ j : Nat) : Int) := by
  have h2 : 2 ^ j < 2 ^ 8 := Nat.pow_lt_pow_right (by decide) hj
  have hy : x ||| 2 ^ j < 256 := Nat.or_lt_two_pow (n := 8) hx h2
  unfold bits
  have e : (BitVec.ofInt IntKind.u8.bits (x : Int) ||| BitVec.ofInt IntKind.u8.bits ((2 ^ j : Nat) : Int)).toNat = x ||| 2 ^ j := by
    show (BitVec.ofInt 8 (x : Int) ||| BitVec.ofInt 8 ((2 ^ j : Nat) : Int)).toNat = x ||| 2 ^ j
    rw [BitVec.ofInt_natCast, BitVec.ofInt_natCast, BitVec.toNat_or, BitVec.toNat_ofNat, BitVec.toNat_ofNat, Nat.mod_eq_of_lt hx, Nat.mod_eq_of_lt h2]
  simp only [e]
  have hw : ∀ b : Int, 0 ≤ b → b < 256 → IntKind.u8.wrap b = b := fun b h0 h1 => by
    simp [IntKind.wrap, IntKind.bits, IntKind.signed]; omega
  exact hw _ (by omega) (by omega)
/-- a proof's cells, of which one byte was set; or its nodes. -/
theorem pcells_set {bb : List Nat} (hb : IsHash bb) (a : Option Addr) (n c i y : Nat) (hi : i < 32) : ((pcells bb a n c).toArray.setIfInBounds i (.int .u8 (y : Int))) = (pcells (bb.set i y) a n c).toArray := by
  rw [List.setIfInBounds_toArray]
  congr 1
  unfold pcells bcells
  rw [List.set_append_left _ _ (by rw [List.length_map, hb.1]; exact hi), List.map_set]
theorem pcells_put {bb : List Nat} (hb : IsHash bb) (a a' : Option Addr) (n c n' c' : Nat) : ((pcells bb a n c).toArray.setIfInBounds 32 (.slice a' n' c')) = (pcells bb a' n' c').toArray := by
  rw [List.setIfInBounds_toArray]
  congr 1
  unfold pcells
  rw [List.set_append_right _ _ (by rw [bcells_length, hb.1]; exact Nat.le_refl _), bcells_length, hb.1]
  rfl
end Go.Proofs.YtbhnnoejhbihhaaGreatDoor

/- What the head of the proofs' laws asks, in plain lists. -/
namespace Go.Proofs.YtbhnnoejhbihhaaGreatDoor
set_option linter.unusedVariables false
set_option linter.unusedSimpArgs false
open Go.ChangeShapes Go.WideShapes Go.ChangeAt Go.RowKit Go.Maps

def K6 : List Nat := 6 :: List.replicate 31 0
theorem k6_is : IsHash K6 := ⟨rfl, by decide⟩
theorem k6_lit (w : World) : (Instr.build 26 #[(0, .int .u8 6)]).run Tryz.prog w = .ok (.agg (bcells K6).toArray) w := by kernel_rfl
theorem leaf0_lit (w : World) : (Instr.build 58 #[]).run Tryz.prog w = .ok (.agg #[.slice none 0 0, .int .u64 0]) w := by kernel_rfl
/-- beside a leaf's own way there is nothing. -/
theorem beside_own (t : Lf) (h : Nat) : besideT [t] t.k h = [] := by
  unfold besideT
  apply List.filter_eq_nil_iff.2
  intro x hx
  have hx2 : x = t := by
    obtain ⟨p, hp⟩ := own_sub [t] t.k (255 - h)
    rw [hp] at hx
    exact List.mem_singleton.1 (List.mem_filter.1 hx).1
  have hb := bitAt_lt t.k h
  rw [hx2, decide_eq_true_eq]
  omega
theorem bes_own (K s0 : List Wd) (t : Lf) (h : Nat) : besF K s0 [t] t.k h = emptyNd K s0 h := by
  unfold besF
  rw [beside_own, part_nil]
theorem bareF_own (K s0 : List Wd) (t : Lf) (h : Nat) : bareF K s0 (besF K s0 [t] t.k) h = true := by
  unfold bareF
  rw [bes_own]
  exact ndSame_iff.2 rfl
theorem nodesF_all {K s0 : List Wd} {f : Nat → Nd} : ∀ n, (∀ h, h < n → bareF K s0 f h = true) → nodesF K s0 f n = []
  | 0, _ => rfl
  | n + 1, hh => by
    rw [nodesF_succ, if_pos (hh n (Nat.lt_succ_self n)), nodesF_all n (fun h e => hh h (Nat.lt_succ_of_lt e))]; rfl
theorem nodesF_one {K s0 : List Wd} {f : Nat → Nd} (m : Nat) (hf : bareF K s0 f m = false) : ∀ n, (∀ h, h < n → ¬ h = m → bareF K s0 f h = true) → (nodesF K s0 f n).length = if m < n then 1 else 0
  | 0, _ => by rw [if_neg (by omega)]; rfl
  | n + 1, hh => by
    have ih := nodesF_one m hf n (fun h e => hh h (Nat.lt_succ_of_lt e))
    rw [nodesF_succ, List.length_append, ih]
    by_cases e : n = m
    · subst e
      rw [if_neg (Nat.lt_irrefl n), if_pos (Nat.lt_succ_self n), if_neg (show ¬ bareF K s0 f n = true by rw [hf]; decide)]; rfl
    · rw [if_pos (hh n (Nat.lt_succ_self n) e)]
      by_cases e2 : m < n
      · rw [if_pos e2, if_pos (by omega)]; rfl
      · rw [if_neg e2, if_neg (by omega)]; rfl
theorem one_keyed : Keyed ([l5].map (·.k)) := ⟨fun k hk => by rw [List.mem_singleton.1 hk]; exact k5_is, by simp⟩
theorem part_one (K s0 : List Wd) (h : Nat) (T : List Lf) (hT : T = [l5]) : (partNd K s0 h T).s = 7 := by
  subst hT
  rw [part_sum K s0 h [l5] one_keyed (fun a ha b hb j _ _ => by rw [List.mem_singleton.1 ha, List.mem_singleton.1 hb])]
  rfl
theorem bits_56 : ∀ j, j < 256 → ¬ j = 249 → ¬ j = 248 → bitAt K5 j = bitAt K6 j := by decide +kernel
theorem bes6_mem (h : Nat) (hh : h < 256) (hn : ¬ h = 249) : besideT [l5] K6 h = [] := by
  apply List.eq_nil_iff_forall_not_mem.2
  intro t ht
  unfold besideT side at ht
  obtain ⟨h1, h2⟩ := List.mem_filter.1 ht
  rw [own_mem [l5] K6 (255 - h) (by omega)] at h1
  have ht5 := List.mem_singleton.1 h1.1
  subst ht5
  rw [decide_eq_true_eq] at h2
  have e2 : bitAt K5 h = 1 - bitAt K6 h := h2
  have hbt := bitAt_lt K6 h
  rcases Nat.lt_or_ge h 249 with e | e
  · have h3 := h1.2 249 (by omega) (by decide)
    exact absurd (show bitAt K5 249 = bitAt K6 249 from h3) (by decide)
  · have := bits_56 h hh hn (by omega)
    omega
theorem bes6_at : besideT [l5] K6 249 = [l5] := by
  obtain ⟨p, hp⟩ := own_sub [l5] K6 (255 - 249)
  have hm : l5 ∈ ownT [l5] K6 (255 - 249) := (own_mem [l5] K6 (255 - 249) (by decide) l5).2 ⟨List.mem_singleton.2 rfl, fun j h1 h2 => bits_56 j h2 (by omega) (by omega)⟩
  have hpl : p l5 = true := by rw [hp] at hm; exact (List.mem_filter.1 hm).2
  have ho : ownT [l5] K6 (255 - 249) = [l5] := by rw [hp, List.filter_cons, if_pos hpl]; rfl
  unfold besideT side
  rw [ho, List.filter_cons, if_pos (by rw [decide_eq_true_eq]; show bitAt K5 249 = 1 - bitAt K6 249; decide)]; rfl
theorem bare6 (K s0 : List Wd) : bareF K s0 (besF K s0 [l5] K6) 249 = false := by
  unfold bareF besF
  cases h : ndSame (partNd K s0 249 (besideT [l5] K6 249)) (emptyNd K s0 249) with
  | false => rfl
  | true =>
    have h1 := congrArg Nd.s (ndSame_iff.1 h)
    rw [part_one K s0 249 _ bes6_at, empty_sum] at h1
    exact absurd h1 (by decide)
theorem nodes6 (K s0 : List Wd) : (nodesF K s0 (besF K s0 [l5] K6) 256).length = 1 := by
  rw [nodesF_one 249 (bare6 K s0) 256 (fun h hh hn => by
    unfold bareF besF
    rw [bes6_mem h hh hn, part_nil]
    exact ndSame_iff.2 rfl)]
  rfl
theorem nodes5 (K s0 : List Wd) : nodesF K s0 (besF K s0 [l5] K5) 256 = [] := nodesF_all 256 (fun h _ => bareF_own K s0 l5 h)
/-- where all is bare the zero leaf leads to the empty root. -/
theorem pf_bare (K s0 : List Wd) (bb : List Nat) (key : List Nat) (hb : ∀ h, h < 256 → bareB bb h = true) : pfRoot K s0 (bareB bb) key [] (leafNd K s0 [] 0) = .ok (emptyNd K s0 256) := by
  have h1 : ∀ h, h < 256 → bareF K s0 (emptyNd K s0) h = true := fun h _ => ndSame_iff.2 rfl
  have := pf_made (K := K) (s0 := s0) (f := emptyNd K s0) (bare := bareB bb) (key := key) (n0 := leafNd K s0 [] 0) (emptyNd K s0) rfl (fun h hh => by split <;> rfl) (fun h hh => by rw [empty_sum]; decide) (fun h hh => by rw [hb h hh, h1 h hh])
  rwa [nodesF_all 256 h1] at this
theorem byte_all {bb : List Nat} (hb : IsHash bb) (h : ∀ h, h < 256 → bareB bb h = true) : bb.getD 0 0 = 255 := by
  have h0 := hb.byte 0 (by decide)
  have key : ∀ x, x < 256 → (∀ j, j < 8 → x / 2 ^ j % 2 = 1) → x = 255 := by decide +kernel
  refine key _ h0 (fun j hj => ?_)
  have := h j (by omega)
  unfold bareB at this
  rw [decide_eq_true_eq, show j / 8 = 0 by omega, Nat.mod_eq_of_lt hj] at this
  exact this
end Go.Proofs.YtbhnnoejhbihhaaGreatDoor

/- A proof as the reference has it. -/
namespace Go.Proofs.YtbhnnoejhbihhaaGreatDoor
set_option linter.unusedVariables false
set_option linter.unusedSimpArgs false
open Go.ChangeShapes Go.WideShapes Go.ChangeAt Go.RowKit Go.Maps

/-- the cells of a proof, as the reference has it. -/
def blist (f : Nat → Bool) : List Value := (List.range 256).map fun h => .bool (f h)
def rpcells (f : Nat → Bool) (a : Option Addr) (n c : Nat) : List Value := blist f ++ [.slice a n c]
theorem blist_len (f : Nat → Bool) : (blist f).length = 256 := by unfold blist; rw [List.length_map, List.length_range]
theorem rpcells_len (f : Nat → Bool) (a : Option Addr) (n c : Nat) : (rpcells f a n c).length = 257 := by unfold rpcells; rw [List.length_append, blist_len]; rfl
theorem rpcells_one (f : Nat → Bool) (a : Option Addr) (n c : Nat) : (rpcells f a n c).toArray.all (·.oneCell') = true :=
  all_oneCell_toArray (fun v hv => by
    rcases List.mem_append.1 hv with h | h
    · obtain ⟨j, _, rfl⟩ := List.mem_map.1 h; rfl
    · rw [List.mem_singleton.1 h]; rfl)
theorem rpcells_bit (f : Nat → Bool) (a : Option Addr) (n c h : Nat) (hh : h < 256) : (rpcells f a n c)[h]? = some (.bool (f h)) := by
  unfold rpcells
  rw [List.getElem?_append_left (by rw [blist_len]; exact hh)]
  unfold blist
  rw [List.getElem?_map, List.getElem?_range hh]; rfl
theorem rpcells_row (f : Nat → Bool) (a : Option Addr) (n c : Nat) : (rpcells f a n c)[256]? = some (.slice a n c) := by
  unfold rpcells
  rw [List.getElem?_append_right (by rw [blist_len]; exact Nat.le_refl _), blist_len]; rfl
theorem rpcells_set (f : Nat → Bool) (a : Option Addr) (n c k : Nat) (b : Bool) (hk : k < 256) : ((rpcells f a n c).toArray.setIfInBounds k (.bool b)) = (rpcells (fun h => if h = k then b else f h) a n c).toArray := by
  rw [List.setIfInBounds_toArray]
  refine congrArg List.toArray (List.ext_getElem? ?_)
  intro j
  by_cases e : j = k
  · subst e
    rw [List.getElem?_set_self (by rw [rpcells_len]; omega), rpcells_bit _ _ _ _ _ hk, if_pos rfl]
  · rw [List.getElem?_set_ne (fun h => e h.symm)]
    rcases Nat.lt_or_ge j 256 with h1 | h1
    · rw [rpcells_bit _ _ _ _ _ h1, rpcells_bit _ _ _ _ _ h1, if_neg e]
    · unfold rpcells
      rw [List.getElem?_append_right (by rw [blist_len]; exact h1), List.getElem?_append_right (by rw [blist_len]; exact h1), blist_len, blist_len]
theorem rpcells_put (f : Nat → Bool) (a a' : Option Addr) (n c n' c' : Nat) : ((rpcells f a n c).toArray.setIfInBounds 256 (.slice a' n' c')) = (rpcells f a' n' c').toArray := by
  rw [List.setIfInBounds_toArray]
  refine congrArg List.toArray ?_
  unfold rpcells
  rw [List.set_append_right _ _ (by rw [blist_len]; exact Nat.le_refl _), blist_len, Nat.sub_self, List.set_cons_zero]
theorem rpcells_congr {f f' : Nat → Bool} (h : ∀ j, j < 256 → f j = f' j) (a : Option Addr) (n c : Nat) : rpcells f a n c = rpcells f' a n c := by
  have e : blist f = blist f' := List.map_congr_left fun j hj => by rw [h j (List.mem_range.1 hj)]
  unfold rpcells
  rw [e]
end Go.Proofs.YtbhnnoejhbihhaaGreatDoor
