/- The walk of Check: whether a leaf stands at a key of the tree with a root. -/
import Derived.Test.YtngmpcmeebcdmaaDoorPf3
namespace Go.Proofs.YtngmpcmeebcdmaaDoor
set_option linter.unusedVariables false
set_option linter.unusedSimpArgs false
open Go.ChangeShapes Go.WideShapes Go.ChangeAt Go.RowKit Go.Maps

theorem pfAt_errs {K s0 : List Wd} {bare : Nat → Bool} {key : List Nat} {nodes : List Nd} {n0 : Nd} : ∀ (h : Nat) {e : Nat}, pfAt K s0 bare key nodes n0 h = .error e → e = 10 ∨ e = 20 ∨ e = 21 := by
  intro h
  induction h with
  | zero => intro e he; cases he
  | succ h ih =>
    intro e he
    cases e0 : pfAt K s0 bare key nodes n0 h with
    | error e' => rw [pfAt_err e0 1] at he; cases he; exact ih e0
    | ok p =>
      obtain ⟨m, v⟩ := p
      rw [pfAt_succ h e0] at he
      unfold pfStep pfBr at he
      split at he
      · split at he
        · cases he
        · cases he; exact .inl rfl
      · split at he
        · cases he; exact .inr (.inl rfl)
        · split at he
          · cases he; exact .inr (.inr rfl)
          · split at he
            · cases he
            · cases he; exact .inl rfl
theorem pf_errs {K s0 : List Wd} {bare : Nat → Bool} {key : List Nat} {nodes : List Nd} {n0 : Nd} {e : Nat} (he : pfRoot K s0 bare key nodes n0 = .error e) : e = 10 ∨ e = 20 ∨ e = 21 ∨ e = 24 := by
  unfold pfRoot at he
  cases e0 : pfAt K s0 bare key nodes n0 256 with
  | error e' => rw [e0] at he; cases he; rcases pfAt_errs 256 e0 with h | h | h <;> simp [h]
  | ok p =>
    rw [e0] at he
    change (if p.2 < nodes.length then (Except.error 24 : Except Nat Nd) else .ok p.1) = .error e at he
    split at he
    · cases he; simp
    · cases he
/-- what Check answers. -/
def chkE (R : Except Nat Nd) (r : Nd) : Nat := match R with
  | .error e => e
  | .ok n => if ndSame n r = true then 0 else 30
theorem chk_ok (n r : Nd) : chkE (.ok n) r = if ndSame n r = true then 0 else 30 := rfl
theorem chk_err (e : Nat) (r : Nd) : chkE (.error e) r = e := rfl
set_option maxRecDepth 100000 in
set_option maxHeartbeats 8000000 in
theorem check_is (K s0 : List Wd) (w : World) (hT : Tabs K s0 w) (bb : List Nat) (hbb : IsHash bb) (a : Option Addr) (n c : Nat) (xs : List Nd) (hxs : NodesAt w a n xs) (hn : n ≤ 1000000) (r : Nd) (hr : IsHash r.h)
    (key : List Nat) (hkey : IsHash key) (av : Option Addr) (bs : List Nat) (cv s : Nat) (hB : Bytes w w.heap.size (.slice av bs.length cv) bs) (hl : bs.length ≤ 1000000) (hs : s < 18446744073709551616) (R : Except Nat Nd)
    (hR : R = pfRoot K s0 (bareB bb) key xs (leafNd K s0 bs s)) :
    Calls Tryd.prog 31 #[.agg (pcells bb a n c).toArray, .agg (ndV r).toArray, arr key, leafV (.slice av bs.length cv) s] w fun e w' => e = .returned (.int .i64 (chkE R r : Nat)) ∧ Below w.heap.size w w' := by
  obtain ⟨Z, hz, hZs, hZn, hZ⟩ := zero_node
  have hroot : ∀ W, Below w.heap.size w W → Calls Tryd.prog 27 #[.agg (pcells bb a n c).toArray, arr key, leafV (.slice av bs.length cv) s] W fun e w' => e = .returned (.tuple #[.agg (ndV (pfN R)).toArray, .int .i64 (pfE R : Nat)]) ∧ Below W.heap.size W w' := fun W hW =>
    root_is K s0 W (hT.below hW hT.low) bb hbb a n c xs (hxs.below hW) hn key hkey av bs cv s (hB.alive hW hW.size) hl hs R hR
  have hrh : IsHash (pfN R).h := by rw [hR]; exact pf_hash hT.len (leaf_hash K s0 hT.len bs s)
  have herr : ∀ e, R = .error e → ¬ e = 0 := fun e he => by rw [he] at hR; rcases pf_errs hR.symm with h | h | h | h <;> omega
  obtain ⟨LP, hLP⟩ : ∃ L, L = pcells bb a n c := ⟨_, rfl⟩
  obtain ⟨CK, hCK⟩ : ∃ L, L = bcells key := ⟨_, rfl⟩
  obtain ⟨nb, hnb⟩ : ∃ x, x = bs.length := ⟨_, rfl⟩
  have lp : LP.length = 33 := by rw [hLP]; exact pcells_len hbb a n c
  have lk : CK.length = 32 := by rw [hCK, bcells_length, hkey.1]
  unfold arr leafV at hroot ⊢
  rw [← hLP, ← hCK, ← hnb] at hroot ⊢
  have HROOT := Lib.hid hroot
  have HRH := Lib.hid hrh
  have HR := Lib.hid hr
  have HERR := Lib.hid herr
  have SZP := Lib.hid (show (Tryd.prog.info? 56).map (·.size) = some LP.toArray.size by rw [List.size_toArray, lp]; kernel_rfl)
  have SZK := Lib.hid (show (Tryd.prog.info? 28).map (·.size) = some CK.toArray.size by rw [List.size_toArray, lk]; kernel_rfl)
  have SZN := Lib.hid (show ∀ x : Nd, IsHash x.h → (Tryd.prog.info? 58).map (·.size) = some (ndV x).toArray.size from fun x hx => by rw [List.size_toArray, ndV_len hx]; kernel_rfl)
  have HZN := Lib.hid (show ∀ x : Nd, IsHash x.h → Z.size = (ndV x).toArray.size from fun x hx => by rw [hZs, List.size_toArray, ndV_len hx])
  have SZF := Lib.hid (show (Tryd.prog.info? 32).map (·.size) = some (#[Value.slice av nb cv, .int .u64 (s : Int)] : Array Value).size by kernel_rfl)
  clear hroot hrh hr hLP hCK hnb hT hxs hB hl hs hR hZs lp lk hkey hbb herr hZ
  go_enter Tryd.func31, Tryd.ntmps31
  go_upto_region 1 with (fail)
  have h4 : Has ((((w.alloc (.cells LP.toArray 56)).alloc (.cells (ndV r).toArray 58)).alloc (.cells CK.toArray 28)).alloc (.cells #[.slice av nb cv, .int .u64 (s : Int)] 32)) w.heap.size 56 LP.toArray := (((Has.new w _ _).alloc _).alloc _).alloc _
  have h5 : Has ((((w.alloc (.cells LP.toArray 56)).alloc (.cells (ndV r).toArray 58)).alloc (.cells CK.toArray 28)).alloc (.cells #[.slice av nb cv, .int .u64 (s : Int)] 32)) (w.heap.size + 1) 58 (ndV r).toArray := by
    have := Has.new (w.alloc (.cells LP.toArray 56)) 58 (ndV r).toArray
    exact ((by simpa using this : Has _ (w.heap.size + 1) _ _).alloc _).alloc _
  have h6 : Has ((((w.alloc (.cells LP.toArray 56)).alloc (.cells (ndV r).toArray 58)).alloc (.cells CK.toArray 28)).alloc (.cells #[.slice av nb cv, .int .u64 (s : Int)] 32)) (w.heap.size + 1 + 1) 28 CK.toArray := by
    have := Has.new ((w.alloc (.cells LP.toArray 56)).alloc (.cells (ndV r).toArray 58)) 28 CK.toArray
    exact (by simpa using this : Has _ (w.heap.size + 1 + 1) _ _).alloc _
  have h7 : Has ((((w.alloc (.cells LP.toArray 56)).alloc (.cells (ndV r).toArray 58)).alloc (.cells CK.toArray 28)).alloc (.cells #[.slice av nb cv, .int .u64 (s : Int)] 32)) (w.heap.size + 1 + 1 + 1) 32 #[.slice av nb cv, .int .u64 (s : Int)] := by
    have := Has.new (((w.alloc (.cells LP.toArray 56)).alloc (.cells (ndV r).toArray 58)).alloc (.cells CK.toArray 28)) 32 #[.slice av nb cv, .int .u64 (s : Int)]
    simpa using this
  have hb1 : Below w.heap.size w ((((w.alloc (.cells LP.toArray 56)).alloc (.cells (ndV r).toArray 58)).alloc (.cells CK.toArray 28)).alloc (.cells #[.slice av nb cv, .int .u64 (s : Int)] 32)) :=
    ((((Below.refl _ _).alloc (Nat.le_refl _) _).alloc (by simp) _).alloc (by simp; omega) _).alloc (by simp; omega) _
  generalize (((w.alloc (.cells LP.toArray 56)).alloc (.cells (ndV r).toArray 58)).alloc (.cells CK.toArray 28)).alloc (.cells #[.slice av nb cv, .int .u64 (s : Int)] 32) = W1 at h4 h5 h6 h7 hb1 ⊢
  have H4 := Lib.hid h4
  have H5 := Lib.hid h5
  have H6 := Lib.hid h6
  have H7 := Lib.hid h7
  have HB1 := Lib.hid hb1
  clear h4 h5 h6 h7 hb1
  go_wp2_with (first
    | (refine wpList_load_row rfl 56 (.tmp 4) rfl w.heap.size rfl 56 LP.toArray (0, 0) _ H4.out Tryd.underlying56 rfl SZP.out ?_)
    | (refine wpList_load_row rfl 28 (.tmp 6) rfl (w.heap.size + 1 + 1) rfl 28 CK.toArray (0, 0) _ H6.out Tryd.underlying28 rfl SZK.out ?_)
    | (refine wpList_load_row rfl 32 (.tmp 7) rfl (w.heap.size + 1 + 1 + 1) rfl 32 #[.slice av nb cv, .int .u64 (s : Int)] (0, 0) _ H7.out Tryd.underlying32 rfl SZF.out ?_))
  refine (HROOT.out _ HB1.out).mono ?_
  rintro _ w2 ⟨rfl, hb2⟩
  have hnw : Has ((w2.alloc (.cells Z 58)).setRow w2.heap.size (ndV (pfN R)).toArray) w2.heap.size 58 (ndV (pfN R)).toArray ∧ Has ((w2.alloc (.cells Z 58)).setRow w2.heap.size (ndV (pfN R)).toArray) (w.heap.size + 1) 58 (ndV r).toArray ∧ Below w.heap.size w ((w2.alloc (.cells Z 58)).setRow w2.heap.size (ndV (pfN R)).toArray) := by
    rw [World.setRow_alloc_new]
    exact ⟨Has.new _ _ _, (H5.out.below hb2 H5.out.lt).alloc _, (HB1.out.trans (hb2.mono HB1.out.size)).alloc (by have := HB1.out.size; have := hb2.size; omega) _⟩
  have HNW := Lib.hid hnw
  clear hb2 hnw H4 H5 H6 H7 HROOT
  go_upto_region 2 with (refine wpList_store_row rfl 58 (.tmp 9) (.tmp 16) rfl w2.heap.size (ndV (pfN R)).toArray rfl rfl 58 Z (heap_alloc_new w2 _) (SZN.out _ HRH.out) (HZN.out _ HRH.out) (ndV_one _) ?_)
  generalize (w2.alloc (.cells Z 58)).setRow w2.heap.size (ndV (pfN R)).toArray = W3 at HNW ⊢
  cases R with
  | error e =>
    have he : ¬ e = 0 := HERR.out e rfl
    have hne : ((e : Int) != 0) = true := by rw [bne_iff_ne]; omega
    unfold pfE
    go_wp2
    go_ret
    exact ⟨rfl, HNW.out.2.2⟩
  | ok m =>
    have hcmp := nd_any m r HRH.out HR.out
    unfold pfE
    have hz0 : (((0 : Nat) : Int) != 0) = false := rfl
    obtain ⟨sm, hsm⟩ : ∃ b, b = ndSame m r := ⟨_, rfl⟩
    rw [← hsm] at hcmp
    have ESM := Lib.hid hsm
    have HHN := Lib.hid (show Has W3 w2.heap.size 58 (ndV m).toArray from HNW.out.1)
    have SZM := Lib.hid (show (Tryd.prog.info? 58).map (·.size) = some (ndV m).toArray.size from SZN.out m HRH.out)
    clear hsm
    cases sm with
    | true =>
      go_wp2_with (first
        | (refine wpList_load_row rfl 58 (.tmp 9) rfl w2.heap.size rfl 58 (ndV m).toArray (0, 0) _ HHN.out Tryd.underlying58 rfl SZM.out ?_)
        | (refine wpList_load_row rfl 58 (.tmp 5) rfl (w.heap.size + 1) rfl 58 (ndV r).toArray (0, 0) _ HNW.out.2.1 Tryd.underlying58 rfl (SZN.out _ HR.out) ?_))
      go_ret
      exact ⟨ret_int (by rw [chk_ok, ← ESM.out, if_pos rfl]; rfl), HNW.out.2.2⟩
    | false =>
      go_wp2_with (first
        | (refine wpList_load_row rfl 58 (.tmp 9) rfl w2.heap.size rfl 58 (ndV m).toArray (0, 0) _ HHN.out Tryd.underlying58 rfl SZM.out ?_)
        | (refine wpList_load_row rfl 58 (.tmp 5) rfl (w.heap.size + 1) rfl 58 (ndV r).toArray (0, 0) _ HNW.out.2.1 Tryd.underlying58 rfl (SZN.out _ HR.out) ?_))
      go_ret
      exact ⟨ret_int (by rw [chk_ok, ← ESM.out, if_neg (by decide)]; rfl), HNW.out.2.2⟩
end Go.Proofs.YtngmpcmeebcdmaaDoor
