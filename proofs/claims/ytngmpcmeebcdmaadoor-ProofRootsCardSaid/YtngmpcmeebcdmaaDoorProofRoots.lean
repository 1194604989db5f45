/- ProofRoots: the root that any leaf at any key has by any proof, or why it has none: for every input the law returns true. The tables of the digest are laid as the program's text lays them. -/
import Derived.Test.YtngmpcmeebcdmaaDoorRp1
import Derived.Test.YtngmpcmeebcdmaaDoorRp2
import Derived.Test.YtngmpcmeebcdmaaDoorPf8
import Derived.Test.YtngmpcmeebcdmaaDoorOpenR
import Derived.Test.YtngmpcmeebcdmaaDoorRef4
import Derived.Test.YtngmpcmeebcdmaaDoorCards
import Derived.Test.YtngmpcmeebcdmaaDoorTie
import Derived.SevenTiedAt
namespace Go.Proofs.YtngmpcmeebcdmaaDoor
set_option linter.unusedVariables false
set_option linter.unusedSimpArgs false
open Go.ChangeShapes Go.WideShapes Go.ChangeAt Go.RowKit Go.Maps

theorem store9 {W V : World} {G : Nat} {t : TypeId} {Z : Array Value} {L : List Value} (h : Below W.heap.size W V) (hz : Has V G t Z) (hG : W.heap.size ≤ G) (hl : Z.size = L.length) : Below W.heap.size W (V.setCells G 0 L) ∧ Has (V.setCells G 0 L) G t L.toArray := by
  obtain ⟨p1, p2⟩ := row_set hz hl
  exact ⟨h.trans (p2.below h.size (fun j e => by have e' : j = G := e; omega)), p1⟩
theorem boxes3r (w : World) (LP CK : List Value) (LF : Array Value) : ∃ W1, W1 = ((w.alloc (.cells LP.toArray 56)).alloc (.cells CK.toArray 28)).alloc (.cells LF 32) ∧
    Has W1 w.heap.size 56 LP.toArray ∧ Has W1 (w.heap.size + 1) 28 CK.toArray ∧ Has W1 (w.heap.size + 1 + 1) 32 LF ∧ Below w.heap.size w W1 := by
  refine ⟨_, rfl, ((Has.new w _ _).alloc _).alloc _, ?_, ?_, (((Below.refl _ _).alloc (Nat.le_refl _) _).alloc (by simp) _).alloc (by simp; omega) _⟩
  · have := Has.new (w.alloc (.cells LP.toArray 56)) 28 CK.toArray
    exact (by simpa using this : Has _ (w.heap.size + 1) _ _).alloc _
  · have := Has.new ((w.alloc (.cells LP.toArray 56)).alloc (.cells CK.toArray 28)) 32 LF
    simpa using this
theorem nd_hash_rowR {w : World} {g : Nat} {t : TypeId} {x : Nd} (h : Has w g t (ndV x).toArray) : w.rangeAt g 0 (bcells x.h) := fun j u hu => by
  refine h.cell_is ?_
  rw [List.getElem?_toArray, Nat.zero_add, ndV, ncells, List.getElem?_append_left (List.getElem?_eq_some_iff.1 hu).1]
  exact hu
theorem chk_self (R : Except Nat Nd) : chkE R (pfN R) = pfE R := by
  cases R with
  | error e => rfl
  | ok m => rw [chk_ok, show pfN (.ok m) = m from rfl, if_pos (ndSame_iff.2 rfl)]; rfl
theorem ndV_set (z : Nd) (hz : IsHash z.h) (q : Nat) : ((ndV z).toArray.setIfInBounds 32 (.int .u64 (q : Int))) = (ndV ⟨z.h, q⟩).toArray := by
  rw [List.setIfInBounds_toArray]
  refine congrArg List.toArray ?_
  unfold ndV ncells
  rw [List.set_append_right _ _ (by rw [bcells_length, hz.1]; exact Nat.le_refl _), bcells_length, hz.1, Nat.sub_self, List.set_cons_zero]
theorem xor_one (x : Nat) (hx : x < 18446744073709551616) : ∃ q : Nat, bits BinOp.xor .u64 (x : Int) 1 = (q : Int) ∧ q < 18446744073709551616 ∧ ¬ x = q := by
  have h1 : (1 : Nat) < 2 ^ 64 := by decide
  have hx2 : x < 2 ^ 64 := hx
  have hy : x ^^^ 1 < 2 ^ 64 := Nat.xor_lt_two_pow hx2 h1
  refine ⟨x ^^^ 1, ?_, hy, fun e => ?_⟩
  · unfold bits
    have e : (BitVec.ofInt IntKind.u64.bits (x : Int) ^^^ BitVec.ofInt IntKind.u64.bits 1).toNat = x ^^^ 1 := by
      show (BitVec.ofInt 64 (x : Int) ^^^ BitVec.ofInt 64 ((1 : Nat) : Int)).toNat = x ^^^ 1
      rw [BitVec.ofInt_natCast, BitVec.ofInt_natCast, BitVec.toNat_xor, BitVec.toNat_ofNat, BitVec.toNat_ofNat, Nat.mod_eq_of_lt hx2, Nat.mod_eq_of_lt h1]
    simp only [e]
    have hw : ∀ b : Int, 0 ≤ b → b < 18446744073709551616 → IntKind.u64.wrap b = b := fun b h0 h1 => by
      simp [IntKind.wrap, IntKind.bits, IntKind.signed]; omega
    exact hw _ (by omega) (by omega)
  · have h2 := congrArg (fun y : Nat => x ^^^ y) e
    simp only [Nat.xor_self, ← Nat.xor_assoc, Nat.zero_xor] at h2
    exact absurd h2 (by decide)
set_option maxRecDepth 100000 in
set_option maxHeartbeats 8000000 in
theorem rootsP_walk (w : World) (hT : Tabs KS SS w) (bb : List Nat) (hbb : IsHash bb) (a : Option Addr) (n c : Nat) (xs : List Nd) (hxs : NodesAt w a n xs) (hnm : n ≤ 9223372036854775807)
    (key : List Nat) (hkey : IsHash key) (av : Option Addr) (bs : List Nat) (cv s : Nat) (hs : s < 18446744073709551616) (hl : bs.length ≤ 9223372036854775807) (hB : Bytes w w.heap.size (.slice av bs.length cv) bs) :
    Calls Tryd.prog 4 #[.agg (pcells bb a n c).toArray, arr key, leafV (.slice av bs.length cv) s] w fun e w' => e = .returned (.bool true) ∧ Below w.heap.size w w' := by
  obtain ⟨Zm, hzm, hZms, hZmn, -⟩ := zero_node
  obtain ⟨Z, hz, hZs, hZn, -⟩ := rn_zero
  have hlow := hT.low
  obtain ⟨R, hR⟩ : ∃ R, R = pfRoot KS SS (bareB bb) key xs (leafNd KS SS bs s) := ⟨_, rfl⟩
  have hroot : n ≤ 300 → bs.length ≤ 200 → ∀ W, Below w.heap.size w W → Calls Tryd.prog 27 #[.agg (pcells bb a n c).toArray, arr key, leafV (.slice av bs.length cv) s] W fun e w' => e = .returned (.tuple #[.agg (ndV (pfN R)).toArray, .int .i64 (pfE R : Nat)]) ∧ Below W.heap.size W w' := fun h1 h2 W hW =>
    pfRoot_is KS SS W (hT.below hW hlow) bb hbb a n c xs (hxs.below hW) (by omega) key hkey av bs cv s (hB.alive hW hW.size) (by omega) hs R hR
  have hchk : n ≤ 300 → bs.length ≤ 200 → ∀ W (r : Nd), IsHash r.h → Below w.heap.size w W → Calls Tryd.prog 31 #[.agg (pcells bb a n c).toArray, .agg (ndV r).toArray, arr key, leafV (.slice av bs.length cv) s] W fun e w' => e = .returned (.int .i64 (chkE R r : Nat)) ∧ Below W.heap.size W w' := fun h1 h2 W r hr hW =>
    check_is KS SS W (hT.below hW hlow) bb hbb a n c xs (hxs.below hW) (by omega) r hr key hkey av bs cv s (hB.alive hW hW.size) (by omega) hs R hR
  have hplain : n ≤ 300 → ∀ W, Below w.heap.size w W → Calls Tryd.prog 30 #[.agg (pcells bb a n c).toArray] W (PlainP W bb n xs) := fun h1 W hW => plainP_is W bb hbb a n c xs (hxs.below hW) (by omega)
  have hrr : n ≤ 300 → bs.length ≤ 200 → ∀ W (ra : Option Addr) (rc : Nat), Below w.heap.size w W → NodesAt W ra n xs → Calls Tryd.prog 28 #[.agg tabL.toArray, .agg (rpcells (bareB bb) ra n rc).toArray, arr key, .slice av bs.length cv, .int .u64 (s : Int)] W fun e w' => e = .returned (.tuple #[.agg (ndV (pfN R)).toArray, .int .i64 (pfE R : Nat)]) ∧ Below W.heap.size W w' := fun h1 h2 W ra rc hW hn => by
    have := rroot_is KS SS (by kernel_rfl) (by kernel_rfl) W (bareB bb) ra n rc xs hn (by omega) key hkey (.slice av bs.length cv) bs s (hB.alive hW hW.size) (by omega) hs R hR
    rw [← tab_words] at this
    exact this
  have hrh : IsHash (pfN R).h := by rw [hR]; exact pf_hash hT.len (leaf_hash KS SS hT.len bs s)
  have hrs : (pfN R).s < 18446744073709551616 := by rw [hR]; exact pf_fits hs
  have hhead := fun W (hW : Below w.heap.size w W) => headP_is KS SS W (hT.below hW hlow)
  have hmake : ∀ W, Calls Tryd.prog 29 #[] W fun e w' => e = .returned (.agg tabL.toArray) ∧ Below W.heap.size W w' := fun W => make_is W
  obtain ⟨LT, hLT⟩ : ∃ L, L = tabL := ⟨_, rfl⟩
  obtain ⟨LP, hLP⟩ : ∃ L, L = pcells bb a n c := ⟨_, rfl⟩
  obtain ⟨CK, hCK⟩ : ∃ L, L = bcells key := ⟨_, rfl⟩
  obtain ⟨nb, hnb⟩ : ∃ x, x = bs.length := ⟨_, rfl⟩
  obtain ⟨LR, hLR⟩ : ∃ L, L = ndV (pfN R) := ⟨_, rfl⟩
  obtain ⟨fe, hfe⟩ : ∃ x : Int, x = (pfE R : Nat) := ⟨_, rfl⟩
  have lp : LP.length = 33 := by rw [hLP]; exact pcells_len hbb a n c
  have lk : CK.length = 32 := by rw [hCK, bcells_length, hkey.1]
  have lr : LR.length = 33 := by rw [hLR]; exact ndV_len hrh
  have hrow : LP[32]? = some (.slice a n c) := by rw [hLP]; exact pcells_row hbb a n c
  have herr : ∀ e, R = .error e → ¬ e = 0 := fun e he => by rw [he] at hR; rcases pf_errs hR.symm with h | h | h | h <;> omega
  unfold arr leafV at hroot hchk ⊢
  unfold arr at hrr
  rw [← hLP, ← hCK, ← hnb, ← hfe, ← hLR] at hroot
  rw [← hLP, ← hCK, ← hnb] at hchk
  rw [← hLP] at hplain
  rw [← hCK, ← hnb, ← hfe, ← hLR, ← hLT] at hrr
  rw [← hLT] at hmake
  rw [← hLP, ← hCK, ← hnb]
  rw [← hnb] at hl
  have HROOT := Lib.hid hroot
  have HCHK := Lib.hid hchk
  have HPLAIN0 := Lib.hid hplain
  have HRR0 := Lib.hid hrr
  have HMAKE := Lib.hid hmake
  have HRH := Lib.hid hrh
  have HRS := Lib.hid hrs
  have HHEAD := Lib.hid hhead
  have HROW := Lib.hid hrow
  have HERR := Lib.hid herr
  have ELR := Lib.hid hLR
  have EFE := Lib.hid hfe
  have SZP := Lib.hid (show (Tryd.prog.info? 56).map (·.size) = some LP.toArray.size by rw [List.size_toArray, lp]; kernel_rfl)
  have SZPL := Lib.hid (show (Tryd.prog.info? 56).map (·.size) = some LP.length by rw [lp]; kernel_rfl)
  have SZK := Lib.hid (show (Tryd.prog.info? 28).map (·.size) = some CK.toArray.size by rw [List.size_toArray, lk]; kernel_rfl)
  have SZKL := Lib.hid (show (Tryd.prog.info? 28).map (·.size) = some CK.length by rw [lk]; kernel_rfl)
  have SZM := Lib.hid (show (Tryd.prog.info? 58).map (·.size) = some LR.toArray.size by rw [List.size_toArray, lr]; kernel_rfl)
  have SZRA := Lib.hid (show (Tryd.prog.info? 62).map (·.size) = some LR.toArray.size by rw [List.size_toArray, lr]; kernel_rfl)
  have SZRL := Lib.hid (show (Tryd.prog.info? 62).map (·.size) = some LR.length by rw [lr]; kernel_rfl)
  have ONER := Lib.hid (show LR.toArray.all (·.oneCell') = true by rw [hLR]; exact ndV_one _)
  have EZ33 := Lib.hid hZs
  have HLR := Lib.hid (show Z.size = LR.length by rw [hZs, lr])
  have HZR := Lib.hid (show Z.size = LR.toArray.size by rw [hZs, List.size_toArray, lr])
  have HZM := Lib.hid (show Zm.size = LR.toArray.size by rw [hZms, List.size_toArray, lr])
  have SZF := Lib.hid (show (Tryd.prog.info? 32).map (·.size) = some (#[Value.slice av nb cv, .int .u64 (s : Int)] : Array Value).size by kernel_rfl)
  clear hroot hchk hplain hrr hmake hrh hrs hhead hrow hLT hLP hCK hnb hLR hfe hxs hs hT hB hZs hZms lp lk lr hkey hbb hR herr
  go_enter Tryd.func4, Tryd.ntmps4
  go_upto_region 1 with (fail)
  obtain ⟨W1, hW1, h3, h4, h5, hb1⟩ := boxes3r w LP CK #[.slice av nb cv, .int .u64 (s : Int)]
  rw [← hW1]
  clear hW1
  have H3 := Lib.hid h3
  have H4 := Lib.hid h4
  have H5 := Lib.hid h5
  have HB1 := Lib.hid hb1
  clear h3 h4 h5 hb1
  go_wp2_with fail
  refine (HHEAD.out _ HB1.out).mono ?_
  rintro _ w2 ⟨rfl, hb2⟩
  have H32 := Lib.hid (H3.out.below hb2 H3.out.lt)
  have H42 := Lib.hid (H4.out.below hb2 H4.out.lt)
  have H52 := Lib.hid (H5.out.below hb2 H5.out.lt)
  have HB2 := Lib.hid (HB1.out.trans (hb2.mono HB1.out.size))
  clear hb2 H3 H4 H5 HB1
  have c32 := H32.out.cell_is (i := 32) (by rw [List.getElem?_toArray]; exact HROW.out)
  have c50 : w2.cell? ⟨w.heap.size + 1 + 1, 0, none⟩ = some (.slice av nb cv) := H52.out.cell_is rfl
  by_cases hn3 : 300 < n
  · have hn3' : (300 : Int) < (n : Int) := by omega
    go_wp2
    go_ret
    exact ⟨rfl, HB2.out⟩
  have hn3' : ¬ (300 : Int) < (n : Int) := by omega
  by_cases hl3 : 200 < nb
  · have hl3' : (200 : Int) < (nb : Int) := by omega
    go_wp2
    go_ret
    exact ⟨rfl, HB2.out⟩
  have hl3' : ¬ (200 : Int) < (nb : Int) := by omega
  have HRT := Lib.hid (HROOT.out (by omega) (by omega) w2 HB2.out)
  have HCK := Lib.hid (HCHK.out (by omega) (by omega))
  have HPLAIN1 := Lib.hid (HPLAIN0.out (by omega))
  have HRR1 := Lib.hid (HRR0.out (by omega) (by omega))
  clear HROOT HHEAD HCHK HPLAIN0 HRR0
  go_wp2_with (first
    | (refine wpList_load_row rfl 56 (.tmp 3) rfl w.heap.size rfl 56 LP.toArray (0, 0) _ H32.out Tryd.underlying56 rfl SZP.out ?_)
    | (refine wpList_load_row rfl 28 (.tmp 4) rfl (w.heap.size + 1) rfl 28 CK.toArray (0, 0) _ H42.out Tryd.underlying28 rfl SZK.out ?_)
    | (refine wpList_load_row rfl 32 (.tmp 5) rfl (w.heap.size + 1 + 1) rfl 32 #[.slice av nb cv, .int .u64 (s : Int)] (0, 0) _ H52.out Tryd.underlying32 rfl SZF.out ?_))
  refine HRT.out.mono ?_
  rintro _ w3 ⟨rfl, hb3⟩
  have hnw : Has ((w3.alloc (.cells Zm 58)).setRow w3.heap.size LR.toArray) w3.heap.size 58 LR.toArray ∧ Below w2.heap.size w2 ((w3.alloc (.cells Zm 58)).setRow w3.heap.size LR.toArray) := by
    rw [World.setRow_alloc_new]
    exact ⟨Has.new _ _ _, hb3.alloc hb3.size _⟩
  have HNW := Lib.hid hnw
  clear hb3 hnw HRT c32 c50
  go_upto_region 6 with (refine wpList_store_row rfl 58 (.tmp 7) (.tmp 31) rfl w3.heap.size LR.toArray rfl rfl 58 Zm (heap_alloc_new w3 _) SZM.out HZM.out ONER.out ?_)
  generalize (w3.alloc (.cells Zm 58)).setRow w3.heap.size LR.toArray = W5 at HNW ⊢
  generalize w3.heap.size = B7 at HNW ⊢
  obtain ⟨B3, hB3⟩ : ∃ b, b = w.heap.size := ⟨_, rfl⟩
  obtain ⟨B4, hB4⟩ : ∃ b, b = w.heap.size + 1 := ⟨_, rfl⟩
  obtain ⟨B5, hB5⟩ : ∃ b, b = w.heap.size + 1 + 1 := ⟨_, rfl⟩
  have HBE := Lib.hid (HB2.out.trans (HNW.out.2.mono HB2.out.size))
  have hk : ∀ V, Below W5.heap.size W5 V → Has V B3 56 LP.toArray ∧ Has V B4 28 CK.toArray ∧ Has V B5 32 #[.slice av nb cv, .int .u64 (s : Int)] ∧ Has V B7 58 LR.toArray ∧ Below w.heap.size w V := fun V hV => by
    have h1 := H32.out.below HNW.out.2 H32.out.lt
    have h2 := H42.out.below HNW.out.2 H42.out.lt
    have h3 := H52.out.below HNW.out.2 H52.out.lt
    rw [hB3, hB4, hB5]
    exact ⟨h1.below hV h1.lt, h2.below hV h2.lt, h3.below hV h3.lt, HNW.out.1.below hV HNW.out.1.lt, HBE.out.trans (hV.mono HBE.out.size)⟩
  rw [← hB5, ← hB4, ← hB3]
  have HK := Lib.hid hk
  have HRP := Lib.hid (show ∀ V, Below W5.heap.size W5 V → V.rangeAt B3 0 LP from fun V hV => (hk V hV).1.row0)
  have HRK := Lib.hid (show ∀ V, Below W5.heap.size W5 V → V.rangeAt B4 0 CK from fun V hV => (hk V hV).2.1.row0)
  have HC5 := Lib.hid (show ∀ V, Below W5.heap.size W5 V → V.cell? ⟨B5, 0, none⟩ = some (.slice av nb cv) ∧ V.cell? ⟨B5, 1, none⟩ = some (.int .u64 (s : Int)) from fun V hV => ⟨(hk V hV).2.2.1.cell_is rfl, (hk V hV).2.2.1.cell_is rfl⟩)
  have HPLAIN := Lib.hid (show ∀ V, Below W5.heap.size W5 V → Calls Tryd.prog 30 #[.agg LP.toArray] V (PlainP V bb n xs) from fun V hV => HPLAIN1.out V (hk V hV).2.2.2.2)
  have HRR := Lib.hid (show ∀ V (ra : Option Addr) (rc : Nat), Below W5.heap.size W5 V → NodesAt V ra n xs → Calls Tryd.prog 28 #[.agg LT.toArray, .agg (rpcells (bareB bb) ra n rc).toArray, .agg CK.toArray, .slice av nb cv, .int .u64 (s : Int)] V fun e w' => e = .returned (.tuple #[.agg LR.toArray, .int .i64 fe]) ∧ Below V.heap.size V w' from fun V ra rc hV hn => HRR1.out V ra rc (hk V hV).2.2.2.2 hn)
  clear hk hB3 hB4 hB5 H32 H42 H52 HB2 HNW HPLAIN1 HRR1
  go_cut [9, 10] from 14 (fun pv ev wx => ∃ G9, pv = .pointer (some ⟨G9, 0, none⟩) ∧ ev = .int .i64 fe ∧ Has wx G9 62 LR.toArray ∧ Below W5.heap.size W5 wx)
  case first =>
    have hS0 : Below W5.heap.size W5 W5.drew := (Below.refl _ _).drew
    refine wp_region_noPanic ?_
    refine wp_region_held_drew (S := (fun v => Below W5.heap.size W5 v)) (by kernel_rfl) hS0 (fun hH0 => ?_)
    refine wpAnyH_take (i := 1) (v := (.agg LP.toArray)) rfl (by kernel_rfl) (by kernel_rfl) (by kernel_rfl) (fun _ _ _ h => h) (yieldsIf_load_mid (by kernel_rfl) 56 (.tmp 3) rfl B3 0 rfl LP _ (fun w' h => HRP.out _ h) Tryd.underlying56 rfl SZPL.out) hH0 ?_
    simp only [Act.put, List.getElem_toArray, List.getElem_cons_zero, List.getElem_cons_succ, List.setIfInBounds_toArray, List.set_cons_zero, List.set_cons_succ]
    refine wpAnyH_take (i := 3) (v := (.agg CK.toArray)) rfl (by kernel_rfl) (by kernel_rfl) (by kernel_rfl) (fun _ _ _ h => h) (yieldsIf_load_mid (by kernel_rfl) 28 (.tmp 4) rfl B4 0 rfl CK _ (fun w' h => HRK.out _ h) Tryd.underlying28 rfl SZKL.out) hH0 ?_
    simp only [Act.put, List.getElem_toArray, List.getElem_cons_zero, List.getElem_cons_succ, List.setIfInBounds_toArray, List.set_cons_zero, List.set_cons_succ]
    refine wpAnyH_take (i := 4) (v := ((.pointer (some ⟨B5, 0, none⟩)))) rfl (by kernel_rfl) (by kernel_rfl) (by kernel_rfl) (fun _ _ _ h => h) (Or.inl ⟨by kernel_rfl, by intro w' hS; obtain ⟨z0, z1⟩ := HC5.out w' hS; go_simp⟩) hH0 ?_
    simp only [Act.put, List.getElem_toArray, List.getElem_cons_zero, List.getElem_cons_succ, List.setIfInBounds_toArray, List.set_cons_zero, List.set_cons_succ]
    refine wpAnyH_take (i := 5) (v := ((.slice av nb cv))) rfl (by kernel_rfl) (by kernel_rfl) (by kernel_rfl) (fun _ _ _ h => h) (Or.inl ⟨by kernel_rfl, by intro w' hS; obtain ⟨z0, z1⟩ := HC5.out w' hS; go_simp⟩) hH0 ?_
    simp only [Act.put, List.getElem_toArray, List.getElem_cons_zero, List.getElem_cons_succ, List.setIfInBounds_toArray, List.set_cons_zero, List.set_cons_succ]
    refine wpAnyH_take (i := 6) (v := ((.pointer (some ⟨B5, 1, none⟩)))) rfl (by kernel_rfl) (by kernel_rfl) (by kernel_rfl) (fun _ _ _ h => h) (Or.inl ⟨by kernel_rfl, by intro w' hS; obtain ⟨z0, z1⟩ := HC5.out w' hS; go_simp⟩) hH0 ?_
    simp only [Act.put, List.getElem_toArray, List.getElem_cons_zero, List.getElem_cons_succ, List.setIfInBounds_toArray, List.set_cons_zero, List.set_cons_succ]
    refine wpAnyH_take (i := 7) (v := ((.int .u64 (s : Int)))) rfl (by kernel_rfl) (by kernel_rfl) (by kernel_rfl) (fun _ _ _ h => h) (Or.inl ⟨by kernel_rfl, by intro w' hS; obtain ⟨z0, z1⟩ := HC5.out w' hS; go_simp⟩) hH0 ?_
    simp only [Act.put, List.getElem_toArray, List.getElem_cons_zero, List.getElem_cons_succ, List.setIfInBounds_toArray, List.set_cons_zero, List.set_cons_succ]
    refine wpAnyH_ready (rs := [0, 12]) (by kernel_rfl) (by simp) ?_
    refine AllReadyH.cons rfl (fun K hK => ?_) (AllReadyH.cons rfl (fun K hK => ?_) AllReadyH.nil)
    · go_simp
      refine (HMAKE.out W5.drew).mono ?_
      rintro _ x0 ⟨rfl, hc0⟩
      try have hz9 := hz9.below hc0 hz9.lt
      refine Shut.out hK _ _ (hH0.trans (hc0.mono hH0.size)) (fun hH1 => ?_)
      clear hK K
      try simp only [Act.put, List.getElem_toArray, List.getElem_cons_zero, List.getElem_cons_succ, List.setIfInBounds_toArray, List.set_cons_zero, List.set_cons_succ]
      refine wpAnyH_ready (rs := [2, 12]) (by kernel_rfl) (by simp) ?_
      refine AllReadyH.cons rfl (fun K hK => ?_) (AllReadyH.cons rfl (fun K hK => ?_) AllReadyH.nil)
      · go_simp
        refine (HPLAIN.out _ hH1).mono ?_
        rintro _ x2 ⟨ra, rc, rfl, hnod, hnewr, hc2⟩
        have HNOD := Lib.hid hnod
        clear hnod hnewr
        try have hz9 := hz9.below hc2 hz9.lt
        refine Shut.out hK _ _ (hH1.trans (hc2.mono hH1.size)) (fun hH2 => ?_)
        clear hK K
        try simp only [Act.put, List.getElem_toArray, List.getElem_cons_zero, List.getElem_cons_succ, List.setIfInBounds_toArray, List.set_cons_zero, List.set_cons_succ]
        refine wpAnyH_ready (rs := [8, 12]) (by kernel_rfl) (by simp) ?_
        refine AllReadyH.cons rfl (fun K hK => ?_) (AllReadyH.cons rfl (fun K hK => ?_) AllReadyH.nil)
        · go_simp
          refine (HRR.out _ ra rc hH2 (HNOD.out.below (by first | exact Below.refl _ _ | exact (Below.refl _ _).alloc (Nat.le_refl _) _))).mono ?_
          rintro _ x8 ⟨rfl, hc8⟩
          try have hz9 := hz9.below hc8 hz9.lt
          refine Shut.out hK _ _ (hH2.trans (hc8.mono hH2.size)) (fun hH3 => ?_)
          clear hK K
          try simp only [Act.put, List.getElem_toArray, List.getElem_cons_zero, List.getElem_cons_succ, List.setIfInBounds_toArray, List.set_cons_zero, List.set_cons_succ]
          refine wpAnyH_take (i := 9) (v := ((.tuple #[.agg LR.toArray, .int .i64 fe]))) rfl (by kernel_rfl) (by kernel_rfl) (by kernel_rfl) (fun _ _ _ h => h) (Or.inl ⟨by kernel_rfl, by intro w' hS; obtain ⟨z0, z1⟩ := HC5.out w' hS; go_simp⟩) hH3 ?_
          simp only [Act.put, List.getElem_toArray, List.getElem_cons_zero, List.getElem_cons_succ, List.setIfInBounds_toArray, List.set_cons_zero, List.set_cons_succ]
          refine wpAnyH_take (i := 10) (v := ((.agg LR.toArray))) rfl (by kernel_rfl) (by kernel_rfl) (by kernel_rfl) (fun _ _ _ h => h) (Or.inl ⟨by kernel_rfl, by intro w' hS; obtain ⟨z0, z1⟩ := HC5.out w' hS; go_simp⟩) hH3 ?_
          simp only [Act.put, List.getElem_toArray, List.getElem_cons_zero, List.getElem_cons_succ, List.setIfInBounds_toArray, List.set_cons_zero, List.set_cons_succ]
          refine wpAnyH_take (i := 11) (v := ((.int .i64 fe))) rfl (by kernel_rfl) (by kernel_rfl) (by kernel_rfl) (fun _ _ _ h => h) (Or.inl ⟨by kernel_rfl, by intro w' hS; obtain ⟨z0, z1⟩ := HC5.out w' hS; go_simp⟩) hH3 ?_
          simp only [Act.put, List.getElem_toArray, List.getElem_cons_zero, List.getElem_cons_succ, List.setIfInBounds_toArray, List.set_cons_zero, List.set_cons_succ]
          refine wpAnyH_ready (rs := [12]) (by kernel_rfl) (by simp) ?_
          refine AllReadyH.cons rfl (fun K hK => ?_) AllReadyH.nil
          go_simp
          have hz9 := Has.new x8 62 Z
          have hg9 := hH3.size
          refine Shut.out hK _ _ (hH3.alloc hH3.size _) (fun hH4 => ?_)
          clear hK K
          try simp only [Act.put, List.getElem_toArray, List.getElem_cons_zero, List.getElem_cons_succ, List.setIfInBounds_toArray, List.set_cons_zero, List.set_cons_succ]
          refine wpAnyH_ready (rs := [13]) (by kernel_rfl) (by simp) ?_
          refine AllReadyH.cons rfl (fun K hK => ?_) AllReadyH.nil
          refine step_store_mid rfl 62 (.tmp 9) (.tmp 43) rfl x8.heap.size 0 LR.toArray rfl rfl (by rw [← HZR.out]; exact hz9.there 0 Z.size (by omega)) SZRA.out ONER.out ?_
          refine Shut.out hK _ _ (store9 hH4 hz9 hg9 HLR.out).1 (fun hH5 => ?_)
          clear hK K
          try simp only [Act.put, List.getElem_toArray, List.getElem_cons_zero, List.getElem_cons_succ, List.setIfInBounds_toArray, List.set_cons_zero, List.set_cons_succ]
          refine wpAnyH_take (i := 14) (v := ((.int .i64 fe))) rfl (by kernel_rfl) (by kernel_rfl) (by kernel_rfl) (fun _ _ _ h => h) (Or.inl ⟨by kernel_rfl, by intro w' hS; obtain ⟨z0, z1⟩ := HC5.out w' hS; go_simp⟩) hH5 ?_
          simp only [Act.put, List.getElem_toArray, List.getElem_cons_zero, List.getElem_cons_succ, List.setIfInBounds_toArray, List.set_cons_zero, List.set_cons_succ]
          refine wpAnyH_done (by kernel_rfl) ?_ _
          refine NoPanic.normal ?_
          have HFN := Lib.hid (And.intro (row_set hz9 HLR.out).1 hH5)
          go_wp2_with fail
          go_meet
          case rel => exact ⟨_, rfl, rfl, HFN.out.1, HFN.out.2⟩
        · go_simp
          have hz9 := Has.new x2 62 Z
          have hg9 := hH2.size
          refine Shut.out hK _ _ (hH2.alloc hH2.size _) (fun hH3 => ?_)
          clear hK K
          try simp only [Act.put, List.getElem_toArray, List.getElem_cons_zero, List.getElem_cons_succ, List.setIfInBounds_toArray, List.set_cons_zero, List.set_cons_succ]
          refine wpAnyH_ready (rs := [8]) (by kernel_rfl) (by simp) ?_
          refine AllReadyH.cons rfl (fun K hK => ?_) AllReadyH.nil
          go_simp
          refine (HRR.out _ ra rc hH3 (HNOD.out.below (by first | exact Below.refl _ _ | exact (Below.refl _ _).alloc (Nat.le_refl _) _))).mono ?_
          rintro _ x8 ⟨rfl, hc8⟩
          try have hz9 := hz9.below hc8 hz9.lt
          refine Shut.out hK _ _ (hH3.trans (hc8.mono hH3.size)) (fun hH4 => ?_)
          clear hK K
          try simp only [Act.put, List.getElem_toArray, List.getElem_cons_zero, List.getElem_cons_succ, List.setIfInBounds_toArray, List.set_cons_zero, List.set_cons_succ]
          refine wpAnyH_take (i := 9) (v := ((.tuple #[.agg LR.toArray, .int .i64 fe]))) rfl (by kernel_rfl) (by kernel_rfl) (by kernel_rfl) (fun _ _ _ h => h) (Or.inl ⟨by kernel_rfl, by intro w' hS; obtain ⟨z0, z1⟩ := HC5.out w' hS; go_simp⟩) hH4 ?_
          simp only [Act.put, List.getElem_toArray, List.getElem_cons_zero, List.getElem_cons_succ, List.setIfInBounds_toArray, List.set_cons_zero, List.set_cons_succ]
          refine wpAnyH_take (i := 10) (v := ((.agg LR.toArray))) rfl (by kernel_rfl) (by kernel_rfl) (by kernel_rfl) (fun _ _ _ h => h) (Or.inl ⟨by kernel_rfl, by intro w' hS; obtain ⟨z0, z1⟩ := HC5.out w' hS; go_simp⟩) hH4 ?_
          simp only [Act.put, List.getElem_toArray, List.getElem_cons_zero, List.getElem_cons_succ, List.setIfInBounds_toArray, List.set_cons_zero, List.set_cons_succ]
          refine wpAnyH_take (i := 11) (v := ((.int .i64 fe))) rfl (by kernel_rfl) (by kernel_rfl) (by kernel_rfl) (fun _ _ _ h => h) (Or.inl ⟨by kernel_rfl, by intro w' hS; obtain ⟨z0, z1⟩ := HC5.out w' hS; go_simp⟩) hH4 ?_
          simp only [Act.put, List.getElem_toArray, List.getElem_cons_zero, List.getElem_cons_succ, List.setIfInBounds_toArray, List.set_cons_zero, List.set_cons_succ]
          refine wpAnyH_ready (rs := [13]) (by kernel_rfl) (by simp) ?_
          refine AllReadyH.cons rfl (fun K hK => ?_) AllReadyH.nil
          refine step_store_mid rfl 62 (.tmp 9) (.tmp 43) rfl x2.heap.size 0 LR.toArray rfl rfl (by rw [← HZR.out]; exact hz9.there 0 Z.size (by omega)) SZRA.out ONER.out ?_
          refine Shut.out hK _ _ (store9 hH4 hz9 hg9 HLR.out).1 (fun hH5 => ?_)
          clear hK K
          try simp only [Act.put, List.getElem_toArray, List.getElem_cons_zero, List.getElem_cons_succ, List.setIfInBounds_toArray, List.set_cons_zero, List.set_cons_succ]
          refine wpAnyH_take (i := 14) (v := ((.int .i64 fe))) rfl (by kernel_rfl) (by kernel_rfl) (by kernel_rfl) (fun _ _ _ h => h) (Or.inl ⟨by kernel_rfl, by intro w' hS; obtain ⟨z0, z1⟩ := HC5.out w' hS; go_simp⟩) hH5 ?_
          simp only [Act.put, List.getElem_toArray, List.getElem_cons_zero, List.getElem_cons_succ, List.setIfInBounds_toArray, List.set_cons_zero, List.set_cons_succ]
          refine wpAnyH_done (by kernel_rfl) ?_ _
          refine NoPanic.normal ?_
          have HFN := Lib.hid (And.intro (row_set hz9 HLR.out).1 hH5)
          go_wp2_with fail
          go_meet
          case rel => exact ⟨_, rfl, rfl, HFN.out.1, HFN.out.2⟩
      · go_simp
        have hz9 := Has.new x0 62 Z
        have hg9 := hH1.size
        refine Shut.out hK _ _ (hH1.alloc hH1.size _) (fun hH2 => ?_)
        clear hK K
        try simp only [Act.put, List.getElem_toArray, List.getElem_cons_zero, List.getElem_cons_succ, List.setIfInBounds_toArray, List.set_cons_zero, List.set_cons_succ]
        refine wpAnyH_ready (rs := [2]) (by kernel_rfl) (by simp) ?_
        refine AllReadyH.cons rfl (fun K hK => ?_) AllReadyH.nil
        go_simp
        refine (HPLAIN.out _ hH2).mono ?_
        rintro _ x2 ⟨ra, rc, rfl, hnod, hnewr, hc2⟩
        have HNOD := Lib.hid hnod
        clear hnod hnewr
        try have hz9 := hz9.below hc2 hz9.lt
        refine Shut.out hK _ _ (hH2.trans (hc2.mono hH2.size)) (fun hH3 => ?_)
        clear hK K
        try simp only [Act.put, List.getElem_toArray, List.getElem_cons_zero, List.getElem_cons_succ, List.setIfInBounds_toArray, List.set_cons_zero, List.set_cons_succ]
        refine wpAnyH_ready (rs := [8]) (by kernel_rfl) (by simp) ?_
        refine AllReadyH.cons rfl (fun K hK => ?_) AllReadyH.nil
        go_simp
        refine (HRR.out _ ra rc hH3 (HNOD.out.below (by first | exact Below.refl _ _ | exact (Below.refl _ _).alloc (Nat.le_refl _) _))).mono ?_
        rintro _ x8 ⟨rfl, hc8⟩
        try have hz9 := hz9.below hc8 hz9.lt
        refine Shut.out hK _ _ (hH3.trans (hc8.mono hH3.size)) (fun hH4 => ?_)
        clear hK K
        try simp only [Act.put, List.getElem_toArray, List.getElem_cons_zero, List.getElem_cons_succ, List.setIfInBounds_toArray, List.set_cons_zero, List.set_cons_succ]
        refine wpAnyH_take (i := 9) (v := ((.tuple #[.agg LR.toArray, .int .i64 fe]))) rfl (by kernel_rfl) (by kernel_rfl) (by kernel_rfl) (fun _ _ _ h => h) (Or.inl ⟨by kernel_rfl, by intro w' hS; obtain ⟨z0, z1⟩ := HC5.out w' hS; go_simp⟩) hH4 ?_
        simp only [Act.put, List.getElem_toArray, List.getElem_cons_zero, List.getElem_cons_succ, List.setIfInBounds_toArray, List.set_cons_zero, List.set_cons_succ]
        refine wpAnyH_take (i := 10) (v := ((.agg LR.toArray))) rfl (by kernel_rfl) (by kernel_rfl) (by kernel_rfl) (fun _ _ _ h => h) (Or.inl ⟨by kernel_rfl, by intro w' hS; obtain ⟨z0, z1⟩ := HC5.out w' hS; go_simp⟩) hH4 ?_
        simp only [Act.put, List.getElem_toArray, List.getElem_cons_zero, List.getElem_cons_succ, List.setIfInBounds_toArray, List.set_cons_zero, List.set_cons_succ]
        refine wpAnyH_take (i := 11) (v := ((.int .i64 fe))) rfl (by kernel_rfl) (by kernel_rfl) (by kernel_rfl) (fun _ _ _ h => h) (Or.inl ⟨by kernel_rfl, by intro w' hS; obtain ⟨z0, z1⟩ := HC5.out w' hS; go_simp⟩) hH4 ?_
        simp only [Act.put, List.getElem_toArray, List.getElem_cons_zero, List.getElem_cons_succ, List.setIfInBounds_toArray, List.set_cons_zero, List.set_cons_succ]
        refine wpAnyH_ready (rs := [13]) (by kernel_rfl) (by simp) ?_
        refine AllReadyH.cons rfl (fun K hK => ?_) AllReadyH.nil
        refine step_store_mid rfl 62 (.tmp 9) (.tmp 43) rfl x0.heap.size 0 LR.toArray rfl rfl (by rw [← HZR.out]; exact hz9.there 0 Z.size (by omega)) SZRA.out ONER.out ?_
        refine Shut.out hK _ _ (store9 hH4 hz9 hg9 HLR.out).1 (fun hH5 => ?_)
        clear hK K
        try simp only [Act.put, List.getElem_toArray, List.getElem_cons_zero, List.getElem_cons_succ, List.setIfInBounds_toArray, List.set_cons_zero, List.set_cons_succ]
        refine wpAnyH_take (i := 14) (v := ((.int .i64 fe))) rfl (by kernel_rfl) (by kernel_rfl) (by kernel_rfl) (fun _ _ _ h => h) (Or.inl ⟨by kernel_rfl, by intro w' hS; obtain ⟨z0, z1⟩ := HC5.out w' hS; go_simp⟩) hH5 ?_
        simp only [Act.put, List.getElem_toArray, List.getElem_cons_zero, List.getElem_cons_succ, List.setIfInBounds_toArray, List.set_cons_zero, List.set_cons_succ]
        refine wpAnyH_done (by kernel_rfl) ?_ _
        refine NoPanic.normal ?_
        have HFN := Lib.hid (And.intro (row_set hz9 HLR.out).1 hH5)
        go_wp2_with fail
        go_meet
        case rel => exact ⟨_, rfl, rfl, HFN.out.1, HFN.out.2⟩
    · go_simp
      have hz9 := Has.new W5.drew 62 Z
      have hg9 := hH0.size
      refine Shut.out hK _ _ (hH0.alloc hH0.size _) (fun hH1 => ?_)
      clear hK K
      try simp only [Act.put, List.getElem_toArray, List.getElem_cons_zero, List.getElem_cons_succ, List.setIfInBounds_toArray, List.set_cons_zero, List.set_cons_succ]
      refine wpAnyH_ready (rs := [0]) (by kernel_rfl) (by simp) ?_
      refine AllReadyH.cons rfl (fun K hK => ?_) AllReadyH.nil
      go_simp
      refine (HMAKE.out (W5.drew.alloc (.cells Z 62))).mono ?_
      rintro _ x0 ⟨rfl, hc0⟩
      try have hz9 := hz9.below hc0 hz9.lt
      refine Shut.out hK _ _ (hH1.trans (hc0.mono hH1.size)) (fun hH2 => ?_)
      clear hK K
      try simp only [Act.put, List.getElem_toArray, List.getElem_cons_zero, List.getElem_cons_succ, List.setIfInBounds_toArray, List.set_cons_zero, List.set_cons_succ]
      refine wpAnyH_ready (rs := [2]) (by kernel_rfl) (by simp) ?_
      refine AllReadyH.cons rfl (fun K hK => ?_) AllReadyH.nil
      go_simp
      refine (HPLAIN.out _ hH2).mono ?_
      rintro _ x2 ⟨ra, rc, rfl, hnod, hnewr, hc2⟩
      have HNOD := Lib.hid hnod
      clear hnod hnewr
      try have hz9 := hz9.below hc2 hz9.lt
      refine Shut.out hK _ _ (hH2.trans (hc2.mono hH2.size)) (fun hH3 => ?_)
      clear hK K
      try simp only [Act.put, List.getElem_toArray, List.getElem_cons_zero, List.getElem_cons_succ, List.setIfInBounds_toArray, List.set_cons_zero, List.set_cons_succ]
      refine wpAnyH_ready (rs := [8]) (by kernel_rfl) (by simp) ?_
      refine AllReadyH.cons rfl (fun K hK => ?_) AllReadyH.nil
      go_simp
      refine (HRR.out _ ra rc hH3 (HNOD.out.below (by first | exact Below.refl _ _ | exact (Below.refl _ _).alloc (Nat.le_refl _) _))).mono ?_
      rintro _ x8 ⟨rfl, hc8⟩
      try have hz9 := hz9.below hc8 hz9.lt
      refine Shut.out hK _ _ (hH3.trans (hc8.mono hH3.size)) (fun hH4 => ?_)
      clear hK K
      try simp only [Act.put, List.getElem_toArray, List.getElem_cons_zero, List.getElem_cons_succ, List.setIfInBounds_toArray, List.set_cons_zero, List.set_cons_succ]
      refine wpAnyH_take (i := 9) (v := ((.tuple #[.agg LR.toArray, .int .i64 fe]))) rfl (by kernel_rfl) (by kernel_rfl) (by kernel_rfl) (fun _ _ _ h => h) (Or.inl ⟨by kernel_rfl, by intro w' hS; obtain ⟨z0, z1⟩ := HC5.out w' hS; go_simp⟩) hH4 ?_
      simp only [Act.put, List.getElem_toArray, List.getElem_cons_zero, List.getElem_cons_succ, List.setIfInBounds_toArray, List.set_cons_zero, List.set_cons_succ]
      refine wpAnyH_take (i := 10) (v := ((.agg LR.toArray))) rfl (by kernel_rfl) (by kernel_rfl) (by kernel_rfl) (fun _ _ _ h => h) (Or.inl ⟨by kernel_rfl, by intro w' hS; obtain ⟨z0, z1⟩ := HC5.out w' hS; go_simp⟩) hH4 ?_
      simp only [Act.put, List.getElem_toArray, List.getElem_cons_zero, List.getElem_cons_succ, List.setIfInBounds_toArray, List.set_cons_zero, List.set_cons_succ]
      refine wpAnyH_take (i := 11) (v := ((.int .i64 fe))) rfl (by kernel_rfl) (by kernel_rfl) (by kernel_rfl) (fun _ _ _ h => h) (Or.inl ⟨by kernel_rfl, by intro w' hS; obtain ⟨z0, z1⟩ := HC5.out w' hS; go_simp⟩) hH4 ?_
      simp only [Act.put, List.getElem_toArray, List.getElem_cons_zero, List.getElem_cons_succ, List.setIfInBounds_toArray, List.set_cons_zero, List.set_cons_succ]
      refine wpAnyH_ready (rs := [13]) (by kernel_rfl) (by simp) ?_
      refine AllReadyH.cons rfl (fun K hK => ?_) AllReadyH.nil
      refine step_store_mid rfl 62 (.tmp 9) (.tmp 43) rfl W5.drew.heap.size 0 LR.toArray rfl rfl (by rw [← HZR.out]; exact hz9.there 0 Z.size (by omega)) SZRA.out ONER.out ?_
      refine Shut.out hK _ _ (store9 hH4 hz9 hg9 HLR.out).1 (fun hH5 => ?_)
      clear hK K
      try simp only [Act.put, List.getElem_toArray, List.getElem_cons_zero, List.getElem_cons_succ, List.setIfInBounds_toArray, List.set_cons_zero, List.set_cons_succ]
      refine wpAnyH_take (i := 14) (v := ((.int .i64 fe))) rfl (by kernel_rfl) (by kernel_rfl) (by kernel_rfl) (fun _ _ _ h => h) (Or.inl ⟨by kernel_rfl, by intro w' hS; obtain ⟨z0, z1⟩ := HC5.out w' hS; go_simp⟩) hH5 ?_
      simp only [Act.put, List.getElem_toArray, List.getElem_cons_zero, List.getElem_cons_succ, List.setIfInBounds_toArray, List.set_cons_zero, List.set_cons_succ]
      refine wpAnyH_done (by kernel_rfl) ?_ _
      refine NoPanic.normal ?_
      have HFN := Lib.hid (And.intro (row_set hz9 HLR.out).1 hH5)
      go_wp2_with fail
      go_meet
      case rel => exact ⟨_, rfl, rfl, HFN.out.1, HFN.out.2⟩
  case rest =>
  obtain ⟨W6, hW6⟩ : ∃ y, y = wc := ⟨_, rfl⟩
  subst hW6
  obtain ⟨G9, rfl, rfl, h9, hb6⟩ := hcut
  obtain ⟨N, hN⟩ : ∃ N, N = pfN R := ⟨_, rfl⟩
  obtain ⟨hv, hhv⟩ : ∃ v, v = N.h := ⟨_, rfl⟩
  obtain ⟨sv, hsv⟩ : ∃ v, v = N.s := ⟨_, rfl⟩
  have hNh : IsHash N.h := by rw [hN]; exact HRH.out
  have elr : LR = ndV N := by rw [hN]; exact ELR.out
  obtain ⟨k3, k4, k5, k7, kb⟩ := HK.out W6 hb6
  have k7' := k7
  rw [elr] at k7'
  have hr7 := nd_hash_rowR k7'
  rw [← hhv] at hr7
  have c7 : W6.cell? ⟨B7, 32, none⟩ = some (.int .u64 (sv : Int)) := k7'.cell_is (by
    rw [List.getElem?_toArray, ndV, ncells, List.getElem?_append_right (by rw [bcells_length, hNh.1]; exact Nat.le_refl _), bcells_length, hNh.1, hsv]; rfl)
  have hbld := rnb hv sv (by rw [hhv]; exact hNh.1)
  have e1 : ncells hv sv = LR := by rw [elr, hhv, hsv]; rfl
  rw [e1] at hbld
  have hcmp := rn_any N N hNh hNh
  rw [← elr, ndSame_iff.2 rfl] at hcmp
  have hff : (fe != fe) = false := by rw [bne_self_eq_false]
  have hck1 := HCK.out W6 N hNh kb
  rw [← elr, hN, chk_self, ← EFE.out] at hck1
  have HR7 := Lib.hid hr7
  have HBLD := Lib.hid hbld
  have HCK1 := Lib.hid hck1
  have H9 := Lib.hid h9
  have K3 := Lib.hid k3
  have K4 := Lib.hid k4
  have K5 := Lib.hid k5
  have K7 := Lib.hid k7
  have KB := Lib.hid kb
  have HB6 := Lib.hid hb6
  have HNH := Lib.hid hNh
  have EN := Lib.hid hN
  have EHV := Lib.hid hhv
  have ESV := Lib.hid hsv
  have ELN := Lib.hid elr
  have SZBH := Lib.hid (show (Tryd.prog.info? 28).map (·.size) = some (bcells hv).length by rw [bcells_length, hhv, hNh.1]; kernel_rfl)
  clear hr7 hbld hck1 h9 k3 k4 k5 k7 k7' kb hb6 hNh hN hhv hsv elr e1
  go_upto_region 9 with (first
    | (refine wpList_load_midG (by kernel_rfl) 28 (.tmp 49) rfl B7 0 rfl (bcells hv) _ HR7.out Tryd.underlying28 rfl SZBH.out ?_)
    | (refine wpList_build_run (by kernel_rfl) 62 _ rfl #[(0, .agg (bcells hv).toArray), (1, .int .u64 (sv : Int))] (by kernel_rfl) (.agg LR.toArray) (HBLD.out _) ?_)
    | (refine wpList_load_midG (by kernel_rfl) 62 (.tmp 9) rfl G9 0 rfl LR _ H9.out.row0 Tryd.underlying62 rfl SZRL.out ?_))
  go_wp2_with (first
    | (refine wpList_load_row rfl 56 (.tmp 3) rfl B3 rfl 56 LP.toArray (0, 0) _ K3.out Tryd.underlying56 rfl SZP.out ?_)
    | (refine wpList_load_row rfl 58 (.tmp 7) rfl B7 rfl 58 LR.toArray (0, 0) _ K7.out Tryd.underlying58 rfl SZM.out ?_)
    | (refine wpList_load_row rfl 28 (.tmp 4) rfl B4 rfl 28 CK.toArray (0, 0) _ K4.out Tryd.underlying28 rfl SZK.out ?_)
    | (refine wpList_load_row rfl 32 (.tmp 5) rfl B5 rfl 32 #[.slice av nb cv, .int .u64 (s : Int)] (0, 0) _ K5.out Tryd.underlying32 rfl SZF.out ?_))
  refine HCK1.out.mono ?_
  rintro _ w7 ⟨rfl, hb7⟩
  have hbw7 := HB6.out.trans (hb7.mono HB6.out.size)
  have K77 := Lib.hid (HK.out w7 hbw7).2.2.2.1
  have hnw : Has ((w7.alloc (.cells Zm 58)).setRow w7.heap.size LR.toArray) w7.heap.size 58 LR.toArray ∧ Below W5.heap.size W5 ((w7.alloc (.cells Zm 58)).setRow w7.heap.size LR.toArray) := by
    rw [World.setRow_alloc_new]
    exact ⟨Has.new _ _ _, hbw7.alloc hbw7.size _⟩
  have hg12 : W5.heap.size ≤ w7.heap.size := hbw7.size
  have HNW := Lib.hid hnw
  have HG12 := Lib.hid hg12
  clear hb7 hbw7 hnw hg12 HCK1 c7 hff HR7 K3 K4 K5 K7 H9 hcmp
  go_upto_region 11 with (first
    | (refine wpList_load_row rfl 58 (.tmp 7) rfl B7 rfl 58 LR.toArray (0, 0) _ K77.out Tryd.underlying58 rfl SZM.out ?_)
    | (refine wpList_store_row rfl 58 (.tmp 12) (.tmp 62) rfl w7.heap.size LR.toArray rfl rfl 58 Zm (heap_alloc_new w7 _) SZM.out HZM.out ONER.out ?_))
  generalize (w7.alloc (.cells Zm 58)).setRow w7.heap.size LR.toArray = W8 at HNW ⊢
  generalize w7.heap.size = B12 at HNW HG12 ⊢
  obtain ⟨qx, hqx, hq64, hqn⟩ := xor_one sv (by rw [ESV.out, EN.out]; exact HRS.out)
  have h12 := HNW.out.1
  rw [ELN.out] at h12
  have c12 : W8.cell? ⟨B12, 32, none⟩ = some (.int .u64 (sv : Int)) := h12.cell_is (by
    rw [List.getElem?_toArray, ndV, ncells, List.getElem?_append_right (by rw [bcells_length, HNH.out.1]; exact Nat.le_refl _), bcells_length, HNH.out.1, ESV.out]; rfl)
  have f12 := h12.free 32
  have hs9 := h12.set 32 (.int .u64 (qx : Int))
  rw [ndV_set N HNH.out qx] at hs9
  have hk9 : Kept (· = B12) W8 (W8.setCell ⟨B12, 32, none⟩ (.int .u64 (qx : Int))) := (Kept.refl (· = B12) W8).set (p := ⟨B12, 32, none⟩) (.inl rfl) _
  have hb9 : Below W5.heap.size W5 (W8.setCell ⟨B12, 32, none⟩ (.int .u64 (qx : Int))) := HNW.out.2.trans (hk9.below HNW.out.2.size (fun j e => by have e' : j = B12 := e; have := HG12.out; omega))
  have HS9 := Lib.hid hs9
  have HB9 := Lib.hid hb9
  have HQN := Lib.hid (And.intro hq64 hqn)
  clear h12 hs9 hk9 hb9 hq64 hqn
  go_upto_region 12 with (fail)
  generalize W8.setCell ⟨B12, 32, none⟩ (.int .u64 (qx : Int)) = W9 at HS9 HB9 ⊢
  clear c12 f12 hqx
  obtain ⟨k3, k4, k5, k7, kb⟩ := HK.out W9 HB9.out
  obtain ⟨LX, hLX⟩ : ∃ L, L = ndV (⟨N.h, qx⟩ : Nd) := ⟨_, rfl⟩
  have hck2 := HCK.out W9 ⟨N.h, qx⟩ HNH.out kb
  obtain ⟨g2, hg2⟩ : ∃ g : Nat, g = chkE R ⟨N.h, qx⟩ := ⟨_, rfl⟩
  rw [← hLX, ← hg2] at hck2
  rw [← hLX] at HS9
  have SZX := Lib.hid (show (Tryd.prog.info? 58).map (·.size) = some LX.toArray.size by rw [hLX, List.size_toArray, ndV_len (n := ⟨N.h, qx⟩) HNH.out]; kernel_rfl)
  have HCK2 := Lib.hid hck2
  have EG2 := Lib.hid hg2
  have K3 := Lib.hid k3
  have K4 := Lib.hid k4
  have K5 := Lib.hid k5
  have KB9 := Lib.hid kb
  clear k3 k4 k5 k7 kb hLX hck2 hg2
  go_wp2_with (first
    | (refine wpList_load_row rfl 56 (.tmp 3) rfl B3 rfl 56 LP.toArray (0, 0) _ K3.out Tryd.underlying56 rfl SZP.out ?_)
    | (refine wpList_load_row rfl 58 (.tmp 12) rfl B12 rfl 58 LX.toArray (0, 0) _ HS9.out Tryd.underlying58 rfl SZX.out ?_)
    | (refine wpList_load_row rfl 28 (.tmp 4) rfl B4 rfl 28 CK.toArray (0, 0) _ K4.out Tryd.underlying28 rfl SZK.out ?_)
    | (refine wpList_load_row rfl 32 (.tmp 5) rfl B5 rfl 32 #[.slice av nb cv, .int .u64 (s : Int)] (0, 0) _ K5.out Tryd.underlying32 rfl SZF.out ?_))
  refine HCK2.out.mono ?_
  rintro _ w10 ⟨rfl, hb10⟩
  have HFB := Lib.hid (KB9.out.trans (hb10.mono KB9.out.size))
  clear hb10
  have hcase : (fe = 0 ∧ g2 = 30) ∨ (¬ fe = 0 ∧ (g2 : Int) = fe) := by
    have h1 := EG2.out
    have h2 := EFE.out
    cases R with
    | error e =>
      right
      have he := HERR.out e rfl
      rw [chk_err] at h1
      change fe = ((e : Nat) : Int) at h2
      omega
    | ok m =>
      left
      have hm : N = m := EN.out
      refine ⟨h2, ?_⟩
      rw [h1, chk_ok, if_neg (fun e => HQN.out.2 ?_)]
      have h3 := congrArg Nd.s (ndSame_iff.1 e)
      rw [ESV.out, hm]; exact h3
  clear EG2 EFE HERR
  rcases hcase with ⟨q1, q2⟩ | ⟨q1, q2⟩
  · subst q1 q2
    go_wp2
    go_ret
    exact ⟨rfl, HFB.out⟩
  · have q3 : (fe == 0) = false := by rw [beq_eq_false_iff_ne]; exact q1
    have q4 : (fe != 0) = true := by rw [bne_iff_ne]; exact q1
    rw [q2]
    clear q1 q2
    go_wp2
    go_ret
    exact ⟨by simp, HFB.out⟩
end Go.Proofs.YtngmpcmeebcdmaaDoor

/- ProofRoots: the root that any leaf at any key has by any proof, or why it has none: for every input the law returns true. The tables of the digest are laid as the program's text lays them. -/
namespace Go.Proofs.YtngmpcmeebcdmaaDoor.proofRoots
set_option linter.unusedVariables false
set_option linter.unusedSimpArgs false
open Go.ChangeShapes Go.WideShapes Go.ChangeAt Go.RowKit Go.Maps

set_option maxRecDepth 100000 in
theorem lifted (os : Os) (started : os.Started) (H : Type) (enc : TypeId × Value → H) :
    ReturnsInHanded {} Tryd.checked os 4 .any (fun w args => (Rows.proofRootsSpec.pre enc Tryd.prog Tryd.f4 [] false w args ∧ laidMetH Tryd.prog laid2 w) ∧ sizedMet enc Tryd.prog Tryd.f4 (OpenSpec.ofChange Rows.proofRootsSpec) false w args)
      (Rows.proofRootsSpec.post enc Tryd.prog Tryd.f4 false true false false) := by
  refine returnsInHanded_of_change_and (C := Tryd.checked) (X := fun w _ => laidMetH Tryd.prog laid2 w) (fun _ _ _ hh h => h.of_heap hh) own started (by kernel_rfl) Tryd.func4
    (ChangeSpec.witness_shaped (enc := enc) (C := Tryd.checked) (os := os) (X := fun w _ => laidMetH Tryd.prog laid2 w) false (World.doorLaid Tryd.prog 4000 os) #[.agg ((pcells (List.replicate 32 0) none 0 0).toArray), arr (List.replicate 32 0), .agg #[.slice none 0 0, .int .u64 0]] 8 rfl (World.shaped_of_RefB (by kernel_rfl) (by kernel_rfl)) (by kernel_rfl) (by kernel_rfl) (by kernel_rfl) (door_met os _)) ?_
  intro W base args ds gs before hval0 hW _ _ hL _
  have hval : ∀ (j : Nat) t v, Tryd.f4.params[j]? = some t → args[j]? = some v → Value.okWide Tryd.prog W .any base t v := hval0
  have hW' := hW
  obtain ⟨p, q, hA0, hV, rfl, hfz, hnd⟩ := hW
  have hA : DataW.TrodAll enc Tryd.prog W 0 (fun _ => true) true Tryd.f4.params.toList args.toList ds p := hA0
  rw [Tryd.params4] at hA hval
  obtain ⟨v0, vs0, d0, ds0, p0, q0, hargs, rfl, rfl, h0, r0⟩ := trodAll_cons hA
  obtain ⟨v1, vs1, d1, ds1, p1, q1, rfl, rfl, rfl, h1, r1⟩ := trodAll_cons r0
  obtain ⟨v2, vs2, d2, ds2, p2, q2, rfl, rfl, rfl, h2, r2⟩ := trodAll_cons r1
  obtain ⟨rfl, rfl, rfl⟩ := trodAll_nil r2
  obtain rfl : args = #[v0, v1, v2] := by cases args; simp_all
  obtain ⟨rfl, rfl⟩ := trodVars_none hV
  have k0 := h0
  have lt0 : ∀ x ∈ p0, x.block < W.heap.size := by obtain ⟨m, hm⟩ := k0; exact DataW.trod_lt m _ _ _ hm
  obtain ⟨bb0, A0, n0, c0, xs0, rfl, w0, y0, m0⟩ := open_proofV (hval 0 56 v0 rfl rfl) h0
  have k1 := h1
  have lt1 : ∀ x ∈ p1, x.block < W.heap.size := by obtain ⟨m, hm⟩ := k1; exact DataW.trod_lt m _ _ _ hm
  obtain ⟨a1, rfl, w1⟩ := open_hash Tryd.underlying28 Tryd.underlying5 (by kernel_rfl) (by kernel_rfl) (hval 1 28 v1 rfl rfl) h1
  have k2 := h2
  have lt2 : ∀ x ∈ p2, x.block < W.heap.size := by obtain ⟨m, hm⟩ := k2; exact DataW.trod_lt m _ _ _ hm
  obtain ⟨B2, bs2, c2, s2, rfl, w2, l2, y2⟩ := open_leafV (hval 2 32 v2 rfl rfl) h2
  have hT := of_laid2 hL
  clear hA0 hval0
  refine (rootsP_walk W hT bb0 w0 A0 n0 c0 xs0 y0 m0 a1 w1 B2 bs2 c2 s2 w2 l2 y2).mono fun e W' ⟨he, bel⟩ => ?_
  subst he
  exact ⟨_, rfl, _, _, _, [], _, [], hW', trodAll_mk1 (shut_bool Tryd.underlying4 _), (trodAll_cons_mk (Below.trod laidOut (by kernel_rfl) (of_decide_eq_true (by kernel_rfl)) k0 bel lt0) (trodAll_cons_mk (Below.trod laidOut (by kernel_rfl) (of_decide_eq_true (by kernel_rfl)) k1 bel lt1) (trodAll_cons_mk (Below.trod laidOut (by kernel_rfl) (of_decide_eq_true (by kernel_rfl)) k2 bel lt2) trodAll_mk0))), rfl, bel.frame _, fun h => by cases h⟩

theorem over : Rows.proofRootsRow.holds Tryd.pinned (OpenSpec.ofChange Rows.proofRootsSpec) :=
  OpenClaim.holds_of_wide 4 Tryd.f4 rfl rfl rfl rfl rfl rfl rfl ⟨rfl, rfl, rfl, rfl, rfl⟩ rfl rfl rfl rfl rfl (by kernel_rfl) Tryd.func4 (by kernel_rfl)
    (of_decide_eq_true (by kernel_rfl)) (by unfold Func.isWrapper; first | (rw [if_pos (by decide +kernel)]; kernel_rfl) | (rw [if_neg (by decide +kernel)]; exact ⟨rfl, rfl⟩))
    (fun os started H enc _ => lifted os started H enc)

theorem proved : Rows.ProofRootsCardSaid :=
  Claim7.holds_tied_plain_at .later [] [.data, .data] true (true, "0a0795dc1ad5c23d55027e58caf8642ba7b2e3b7609ed789ad461dd5b199fe25") false
    over (fun _ h => by cases h) (by kernel_rfl) (fun _ h => by cases h) proofRoots_row_tie rfl ⟨rfl, rfl⟩ (by kernel_rfl) rfl
    (fun f fn hf hfn => by
      obtain rfl : f = 4 := Option.some.inj ((show Tryd.prog.funcNamed "moneyer/moneyerlaw05.ProofRoots" = some 4 by kernel_rfl).symm.trans hf) |>.symm
      obtain rfl : fn = Tryd.f4 := (Option.some.inj (Tryd.func4.symm.trans hfn)).symm
      exact ⟨by kernel_rfl, fun j t ht => by
        rw [Tryd.params4] at ht
        have hm : t ∈ [56, 28, 32] := by simpa using Array.mem_of_getElem? ht
        have hall : ([56, 28, 32].all fun u => !Tryd.prog.wantsStandIn u) = true := by kernel_rfl
        exact (show Tryd.prog.wantsStandIn t = false by simpa using List.all_eq_true.1 hall t hm)⟩)
    (by kernel_rfl)


end Go.Proofs.YtngmpcmeebcdmaaDoor.proofRoots
