/- The walk of Encode: a proof's bytes. -/
import Derived.Test.YtngmpcmeebcdmaaDoorPby
import Derived.Test.YtngmpcmeebcdmaaDoorRef1
namespace Go.Proofs.YtngmpcmeebcdmaaDoor
set_option linter.unusedVariables false
set_option linter.unusedSimpArgs false
open Go.ChangeShapes Go.WideShapes Go.ChangeAt Go.RowKit Go.Maps

/-- the world of a round of Encode. -/
structure EncW (w : World) (bs : List Nat) (v : Value) (wr : World) : Prop where
  own : ∃ oa oc, v = .slice oa bs.length oc ∧ wr.ownsRow w.heap.size 5 1 v bs.length (bcells bs)
  bel : Below w.heap.size w wr
set_option maxRecDepth 100000 in
set_option maxHeartbeats 4000000 in
theorem encode_is (w : World) (bb : List Nat) (hbb : IsHash bb) (a : Option Addr) (n c : Nat) (xs : List Nd) (hxs : NodesAt w a n xs) (hn : n ≤ 100000) :
    Calls Tryd.prog 40 #[.agg (pcells bb a n c).toArray] w fun e w' => ∃ oa oc, e = .returned (.slice oa (32 + 40 * n) oc) ∧ w'.ownsRow w.heap.size 5 1 (.slice oa (32 + 40 * n) oc) (32 + 40 * n) (bcells (pbytes bb xs)) ∧ Below w.heap.size w w' := by
  obtain ⟨Z, hz, hZs, hZn, -⟩ := zero_node
  obtain ⟨LP, hLP⟩ : ∃ L, L = pcells bb a n c := ⟨_, rfl⟩
  have hrow : LP[32]? = some (.slice a n c) := by rw [hLP]; exact pcells_row hbb a n c
  have hbyte : ∀ i, i < 32 → LP[i]? = some (.int .u8 (bb.getD i 0 : Nat)) := fun i hi => by rw [hLP]; exact pcells_byte hbb a n c i hi
  rw [← hLP]
  have hbx := Has.new w 56 LP.toArray
  have hsrc : Bytes (w.alloc (.cells LP.toArray 56)) (w.alloc (.cells LP.toArray 56)).heap.size (.slice (some ⟨w.heap.size, 0, none⟩) 32 32) bb := ⟨some ⟨w.heap.size, 0, none⟩, 32, by rw [hbb.1], by rw [hbb.1]; exact Nat.le_refl _, hbb.2, fun _ => ⟨w.heap.size, 0, rfl, by simp, fun i hi => by
    rw [Nat.zero_add]
    exact hbx.cell_is (by rw [List.getElem?_toArray]; exact hbyte i (by rw [hbb.1] at hi; exact hi))⟩⟩
  have SZN := Lib.hid (show ∀ x : Nd, IsHash x.h → (Tryd.prog.info? 58).map (·.size) = some (ndV x).toArray.size from fun x hx => by rw [List.size_toArray, ndV_len hx]; kernel_rfl)
  have SZL := Lib.hid (show ∀ x : Nd, IsHash x.h → (Tryd.prog.info? 58).map (·.size) = some (ndV x).length from fun x hx => by rw [ndV_len hx]; kernel_rfl)
  have HZN := Lib.hid (show ∀ x : Nd, IsHash x.h → Z.size = (ndV x).toArray.size from fun x hx => by rw [hZs, List.size_toArray, ndV_len hx])
  have HXS := Lib.hid hxs
  have HBX := Lib.hid hbx
  have HSRC := Lib.hid hsrc
  have HBB := Lib.hid hbb
  have HROW := Lib.hid hrow
  have HL0 := Lib.hid (show 0 + bb.length ≤ 100000000 by rw [hbb.1]; decide)
  have HS0 := Lib.hid (show w.heap.size ≤ (w.alloc (.cells LP.toArray 56)).heap.size by simp)
  have HB0 := Lib.hid (show Below w.heap.size w (w.alloc (.cells LP.toArray 56)) from (Below.refl _ _).alloc (Nat.le_refl _) _)
  clear hLP hbyte hZs hxs hbx hsrc hbb hrow
  go_enter Tryd.func40, Tryd.ntmps40
  go_upto_region 2 with (at_builtin; refine wpList_append_bytes rfl (.const (.slice none 0 0)) (.tmp 8) rfl w.heap.size _ 0 [] rfl ⟨rfl, .inl ⟨rfl, rfl⟩⟩ _ _ bb rfl HSRC.out HL0.out HS0.out ?_; intro oa2 oc2 w2 hown2 hgr2)
  have hb2 : Below w.heap.size w w2 := HB0.out.grown hgr2 HS0.out (fun k e => by cases e)
  have hE2 : EncW w (pbytes bb (xs.take 0)) (.slice oa2 (0 + bb.length) oc2) w2 := by
    have e : pbytes bb (xs.take 0) = bb := by simp [pbytes]
    rw [e]
    rw [Nat.zero_add] at hown2 ⊢
    exact ⟨⟨oa2, oc2, rfl, hown2⟩, hb2⟩
  have c32 : w2.cell? ⟨w.heap.size, 32, none⟩ = some (.slice a n c) := (HBX.out.grown hgr2 (fun e => by cases e)).cell_is (by rw [List.getElem?_toArray]; exact HROW.out)
  have HE2 := Lib.hid hE2
  clear hE2 hb2 hown2 hgr2
  go_wp2_with fail
  clear c32
  go_loopw [3, 13] (fun bv iv wr => ∃ k : Nat, iv = .int .i64 (k : Int) ∧ k ≤ n ∧ EncW w (pbytes bb (xs.take k)) bv wr) (fun _ iv _ => n - (intOf iv).toNat)
  case atStart => exact ⟨0, rfl, Nat.zero_le _, by have := HE2.out; rwa [Nat.zero_add] at this⟩
  case round =>
    clear HE2
    obtain ⟨k, rfl, hk, he⟩ := hrel
    obtain ⟨⟨oa, oc, hv, hown⟩, hbel⟩ := he
    subst hv
    obtain ⟨bs, hbs⟩ : ∃ l, l = pbytes bb (xs.take k) := ⟨_, rfl⟩
    rw [← hbs] at hown ⊢
    have hbl : bs.length ≤ 5000000 := by
      rw [hbs, pbytes_len HBB.out.1 _ (fun x hx => HXS.out.hash x (List.mem_of_mem_take hx)), List.length_take]; omega
    have HOWN := Lib.hid hown
    have HBEL := Lib.hid hbel
    have HBS := Lib.hid hbs
    have HBL := Lib.hid hbl
    clear hown hbel hbs hbl
    by_cases hkn : k < n
    · have hkn' : (k : Int) < (n : Int) := by omega
      obtain ⟨x, hx⟩ : ∃ x, xs[k]? = some x := ⟨_, List.getElem?_eq_getElem (by rw [HXS.out.len]; exact hkn)⟩
      have hxh : IsHash x.h := HXS.out.hash x (List.mem_of_getElem? hx)
      obtain ⟨b, o, ha, hbl, hr⟩ := (HXS.out.below HBEL.out).at_ (by omega)
      have hrx := hr k x hx
      have hat := at_nodeo b o n c k hkn
      rw [← ha] at hat
      have hnw : Has ((wr.alloc (.cells Z 58)).setRow wr.heap.size (ndV x).toArray) wr.heap.size 58 (ndV x).toArray ∧ Below wr.heap.size wr ((wr.alloc (.cells Z 58)).setRow wr.heap.size (ndV x).toArray) := by
        rw [World.setRow_alloc_new]
        exact ⟨Has.new _ _ _, (Below.refl _ _).alloc (Nat.le_refl _) _⟩
      have HRX := Lib.hid hrx
      have HXH := Lib.hid hxh
      have HNX := Lib.hid (show pbytes bb (xs.take (k + 1)) = bs ++ (x.h ++ eight x.s) by rw [HBS.out]; exact pbytes_succ hx)
      have HNW := Lib.hid hnw
      clear hx hxh hr hrx hbl hnw ha
      go_upto_region 5 with (first
        | (refine wpList_load_mid rfl 58 (.tmp 15) rfl b (o + k * 33) rfl (ndV x) _ HRX.out Tryd.underlying58 rfl (SZL.out x HXH.out) ?_)
        | (refine wpList_store_row rfl 58 (.tmp 5) (.tmp 16) rfl wr.heap.size (ndV x).toArray rfl rfl 58 Z (heap_alloc_new wr _) (SZN.out _ HXH.out) (HZN.out _ HXH.out) (ndV_one _) ?_))
      have HO5 := Lib.hid (own_kept HOWN.out (Kept.of_below (S := fun _ => False) HNW.out.2) (fun _ _ e => e))
      have HB5 := Lib.hid (HBEL.out.trans (HNW.out.2.mono HBEL.out.size))
      generalize (wr.alloc (.cells Z 58)).setRow wr.heap.size (ndV x).toArray = W5 at HNW HO5 HB5 ⊢
      generalize wr.heap.size = G5 at HNW ⊢
      have hsrc : Bytes W5 W5.heap.size (.slice (some ⟨G5, 0, none⟩) 32 32) x.h := ⟨some ⟨G5, 0, none⟩, 32, by rw [HXH.out.1], by rw [HXH.out.1]; exact Nat.le_refl _, HXH.out.2, fun _ => ⟨G5, 0, rfl, Nat.ne_of_lt HNW.out.1.lt, fun i hi => by
        rw [Nat.zero_add]
        exact HNW.out.1.cell_is (by
          rw [List.getElem?_toArray, ndV, ncells, List.getElem?_append_left (by rw [bcells_length]; exact hi)]
          exact bcells_get _ i hi)⟩⟩
      have HSRC := Lib.hid hsrc
      have HLN := Lib.hid (show bs.length + x.h.length ≤ 100000000 by rw [HXH.out.1]; have := HBL.out; omega)
      clear hsrc
      go_upto_region 6 with (at_builtin; refine wpList_append_bytes rfl (.tmp 17) (.tmp 19) rfl w.heap.size _ bs.length (bcells bs) rfl HO5.out _ _ x.h rfl HSRC.out HLN.out HB5.out.size ?_; intro oa6 oc6 w6 hown6 hgr6)
      have h6 : EncW w (bs ++ x.h ++ (eight x.s).take 0) (.slice oa6 (bs.length + x.h.length) oc6) w6 ∧ Has w6 G5 58 (ndV x).toArray := by
        rw [List.take_zero, List.append_nil]
        rw [bcells_app, ← List.length_append] at hown6
        refine ⟨⟨⟨oa6, oc6, by rw [List.length_append], by rw [← List.length_append]; exact hown6⟩, HB5.out.grown hgr6 HB5.out.size (own_blk HO5.out)⟩, HNW.out.1.grown hgr6 (fun e => own_has_ne HO5.out HNW.out.1 (by decide) G5 e.symm rfl)⟩
      have H6 := Lib.hid h6
      obtain ⟨sx, hsx⟩ : ∃ v, v = x.s := ⟨_, rfl⟩
      have HSX := Lib.hid hsx
      clear h6 hown6 hgr6 hsx
      go_wp2_with fail
      go_loopw [3, 6] (fun bv iv wx => ∃ j : Nat, iv = .int .i64 (7 - (j : Int)) ∧ j ≤ 8 ∧ EncW w (bs ++ x.h ++ (eight x.s).take j) bv wx ∧ Has wx G5 58 (ndV x).toArray) (fun _ iv _ => (intOf iv + 1).toNat)
      case atStart => exact ⟨0, by go_num, Nat.zero_le _, H6.out⟩
      case round =>
        clear H6
        obtain ⟨j, rfl, hj, ⟨⟨oa7, oc7, hv7, hown7⟩, hbel7⟩, hx7⟩ := hrel
        subst hv7
        obtain ⟨cs, hcs⟩ : ∃ l, l = bs ++ x.h ++ (eight x.s).take j := ⟨_, rfl⟩
        rw [← hcs] at hown7 ⊢
        by_cases hj8 : j < 8
        · obtain ⟨m, hm⟩ : ∃ m : Nat, (7 : Int) - (j : Int) = (m : Int) ∧ m = 7 - j ∧ m < 8 := ⟨7 - j, by omega, rfl, by omega⟩
          have hm0 : (m : Int) ≥ 0 := by omega
          rw [hm.1]
          obtain ⟨q, hq⟩ : ∃ q, q = sx / 2 ^ (8 * m) % 256 := ⟨_, rfl⟩
          have hq8 : q < 256 := by rw [hq]; exact Nat.mod_lt _ (by decide)
          have c5 : wr.cell? ⟨G5, 32, none⟩ = some (.int .u64 (sx : Int)) := hx7.cell_is (by
            rw [List.getElem?_toArray, ndV, ncells, List.getElem?_append_right (by rw [bcells_length, HXH.out.1]; exact Nat.le_refl _), bcells_length, HXH.out.1, HSX.out]; rfl)
          have hal : Below wr.heap.size wr (wr.alloc (.cells #[.int .u8 (q : Int)] 5)) := (Below.refl _ _).alloc (Nat.le_refl _) _
          have HO8 := Lib.hid (own_kept hown7 (Kept.of_below (S := fun _ => False) hal) (fun _ _ e => e))
          have HX8 := Lib.hid (hx7.below hal hx7.lt)
          have hown8 : Bytes (wr.alloc (.cells #[.int .u8 (q : Int)] 5)) (wr.alloc (.cells #[.int .u8 (q : Int)] 5)).heap.size (.slice (some ⟨wr.heap.size, 0, none⟩) 1 1) [q] := ⟨_, _, rfl, Nat.le_refl _, (fun z hz => by rw [List.mem_singleton.1 hz]; exact hq8), fun _ => ⟨wr.heap.size, 0, rfl, by simp, fun i hi => by
            obtain rfl : i = 0 := Nat.lt_one_iff.1 hi
            exact (Has.new wr _ _).cell_is rfl⟩⟩
          have HSRC8 := Lib.hid hown8
          have HBS8 := Lib.hid (show ∀ z, w.heap.size ≤ (wr.alloc (.cells z 5)).heap.size from fun z => by have := hbel7.size; simp; omega)
          have HLN8 := Lib.hid (show cs.length + [q].length ≤ 100000000 by
            have h1 := HBL.out
            have h2 := HXH.out.1
            rw [hcs, List.length_append, List.length_append, List.length_take, eight_length, h2]; simp; omega)
          have HB8 := Lib.hid (hbel7.alloc hbel7.size (.cells #[.int .u8 (q : Int)] 5))
          have HE8 := Lib.hid (show bs ++ x.h ++ (eight x.s).take (j + 1) = cs ++ [q] by
            rw [eight_nth x.s j hj8, hcs, ← List.append_assoc, hq, HSX.out, hm.2.1])
          have HJ := Lib.hid hj8
          have HMJ := Lib.hid hm
          have hnn : (8 * (m : Int)).toNat = 8 * m := by omega
          have hn0 : (0 : Int) ≤ 8 * (m : Int) := by omega
          have hn1 : 8 * (m : Int) < 64 := by omega
          have hu8 : IntKind.u8.wrap ((sx : Int) / 2 ^ (8 * m)) = (q : Int) := by
            rw [IntKind.wrap_u8, hq]
            have : ((sx : Int) / 2 ^ (8 * m)) = ((sx / 2 ^ (8 * m) : Nat) : Int) := by rw [Int.natCast_ediv, Int.natCast_pow]; rfl
            rw [this]; omega
          clear hal hown8 hcs hm hj hown7 hbel7 hx7 hq
          go_wp2_with (at_builtin; refine wpList_append_bytes rfl (.tmp 25) (.tmp 32) rfl w.heap.size _ cs.length (bcells cs) rfl HO8.out _ _ [q] rfl HSRC8.out HLN8.out (HBS8.out _) ?_; intro oa8 oc8 w8 hown9 hgr9)
          have hgx : Kept (fun j => (Value.slice oa7 cs.length oc7).ownBlock = some j) (wr.alloc (.cells #[.int .u8 (q : Int)] 5)) w8 := (Kept.refl _ _).grown hgr9 (fun j e => .inl e)
          have hfin : EncW w (bs ++ x.h ++ (eight x.s).take (j + 1)) (.slice oa8 (cs.length + [q].length) oc8) w8 ∧ Has w8 G5 58 (ndV x).toArray := by
            rw [HE8.out]
            rw [bcells_app, ← List.length_append] at hown9
            refine ⟨⟨⟨oa8, oc8, by rw [List.length_append], by rw [← List.length_append]; exact hown9⟩, HB8.out.grown hgr9 (HBS8.out _) (own_blk HO8.out)⟩, HX8.out.grown hgr9 (fun e => own_has_ne HO8.out HX8.out (by decide) G5 e.symm rfl)⟩
          have HFIN := Lib.hid hfin
          have HJ2 := Lib.hid (show (m : Int) - 1 = 7 - ((j + 1 : Nat) : Int) by have h1 := HMJ.out.2.1; have h2 := HJ.out; omega)
          have HME := Lib.hid (show ((m : Int) - 1 + 1).toNat < ((m : Int) + 1).toNat by omega)
          clear hgx hfin hown9 hgr9 hu8 hnn hn0 hn1 c5
          go_wp2_with fail
          go_roundw
          case rel => exact ⟨j + 1, by rw [HJ2.out], by have := HJ.out; omega, HFIN.out⟩
          case measure => simp [intOf]
        · obtain rfl : j = 8 := by omega
          have hm0 : ¬ (7 - ((8 : Nat) : Int)) ≥ 0 := by omega
          have hfin : EncW w (pbytes bb (xs.take (k + 1))) (.slice oa7 cs.length oc7) wr := by
            have e : cs = pbytes bb (xs.take (k + 1)) := by
              rw [hcs, HNX.out, List.take_of_length_le (by rw [eight_length]; exact Nat.le_refl _), List.append_assoc]
            rw [← e]
            exact ⟨⟨oa7, oc7, rfl, hown7⟩, hbel7⟩
          have HFIN := Lib.hid hfin
          have HKN := Lib.hid hkn
          clear hcs hown7 hbel7 hx7 hfin hj hj8
          go_wp2_with fail
          go_roundw
          case rel => exact ⟨k + 1, by go_num, HKN.out, HFIN.out⟩
          case measure => simp [intOf]; omega
    · obtain rfl : k = n := by omega
      have hkn' : ¬ (k : Int) < (k : Int) := by omega
      have hall : bs = pbytes bb xs := by rw [HBS.out, List.take_of_length_le (by rw [HXS.out.len]; exact Nat.le_refl _)]
      have hlen : bs.length = 32 + 40 * k := by rw [hall, pbytes_len HBB.out.1 _ HXS.out.hash, HXS.out.len]
      have hown := HOWN.out
      rw [hall] at hown
      rw [hall] at hlen
      rw [hlen] at hown
      have HF := Lib.hid hown
      have HE := Lib.hid (show bs.length = 32 + 40 * k by rw [hall, hlen])
      clear hall hlen hown hkn
      go_wp2_with fail
      go_ret
      exact ⟨oa, oc, congrArg (fun z => Ending.returned (Value.slice oa z oc)) HE.out, HF.out, HBEL.out⟩
end Go.Proofs.YtngmpcmeebcdmaaDoor
