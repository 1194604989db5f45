/- Plain laws of a proof's bytes. -/
import Derived.Test.YtknfbccbdiidjaaGreatDoorWs
import Derived.Test.YtknfbccbdiidjaaGreatDoorRLb1
import Derived.Test.YtknfbccbdiidjaaGreatDoorRFd
import Derived.Test.YtknfbccbdiidjaaGreatDoorRGr
namespace Go.Proofs.YtknfbccbdiidjaaGreatDoor
set_option linter.unusedVariables false
set_option linter.unusedSimpArgs false
open Go.ChangeShapes Go.WideShapes Go.ChangeAt Go.RowKit Go.Maps

def ndB (x : Nd) : List Nat := x.h ++ eight x.s
def pbytes (bb : List Nat) (xs : List Nd) : List Nat := bb ++ xs.flatMap ndB
theorem eight_lt (n : Nat) : ∀ x ∈ eight n, x < 256 := by rw [← eightR_full]; exact eightR_lt n 8
theorem ndB_len {x : Nd} (h : IsHash x.h) : (ndB x).length = 40 := by unfold ndB; rw [List.length_append, eight_length, h.1]
theorem pbytes_succ {bb : List Nat} {xs : List Nd} {k : Nat} {x : Nd} (h : xs[k]? = some x) : pbytes bb (xs.take (k + 1)) = pbytes bb (xs.take k) ++ (x.h ++ eight x.s) := by
 unfold pbytes
 rw [List.take_add_one, h]
 simp [List.flatMap_append, ndB]
theorem pbytes_len {bb : List Nat} (hb : bb.length = 32) : ∀ xs : List Nd, (∀ x ∈ xs, IsHash x.h) → (pbytes bb xs).length = 32 + 40 * xs.length
 | [], _ => by simp [pbytes, hb]
 | x :: xs, h => by
  have ih := pbytes_len hb xs (fun y hy => h y (List.mem_cons_of_mem _ hy))
  have h40 := ndB_len (h x (List.mem_cons_self ..))
  unfold pbytes at ih ⊢
  rw [List.flatMap_cons, List.length_append, List.length_append, h40, List.length_cons]
  rw [List.length_append] at ih
  omega
theorem pbytes_lt {bb : List Nat} (hb : IsHash bb) (xs : List Nd) (h : ∀ x ∈ xs, IsHash x.h) : ∀ y ∈ pbytes bb xs, y < 256 := by
 intro y hy
 rcases List.mem_append.1 hy with h1 | h1
 · exact hb.2 y h1
 · obtain ⟨x, hx, h2⟩ := List.mem_flatMap.1 h1
   rcases List.mem_append.1 h2 with h3 | h3
   · exact (h x hx).2 y h3
   · exact eight_lt _ y h3
theorem eight_at (s j : Nat) (h : j < 8) : (eight s)[j]? = some (s / 2 ^ (8 * (7 - j)) % 256) := by
 unfold eight
 rw [List.getElem?_map, List.getElem?_range h]; rfl
theorem eight_nth (s j : Nat) (h : j < 8) : (eight s).take (j + 1) = (eight s).take j ++ [s / 2 ^ (8 * (7 - j)) % 256] := by
 rw [List.take_add_one, eight_at s j h]; rfl
theorem bcells_app (x y : List Nat) : bcells x ++ bcells y = bcells (x ++ y) := by simp [bcells]

def num8 (l : List Nat) : Nat := l.foldl (fun x c => x * 256 + c) 0
theorem num8_snoc (l : List Nat) (c : Nat) : num8 (l ++ [c]) = num8 l * 256 + c := by simp [num8]
theorem num8_lt : ∀ (n : Nat) (l : List Nat), l.length = n → (∀ x ∈ l, x < 256) → num8 l < 256 ^ n := by
 intro n
 induction n with
 | zero => intro l hl _; obtain rfl := List.length_eq_zero_iff.1 hl; decide
 | succ n ih =>
  intro l hl hx
  obtain ⟨l', c, rfl⟩ : ∃ l' c, l = l' ++ [c] := ⟨l.dropLast, l.getLast (by intro e; subst e; simp at hl), (List.dropLast_concat_getLast _).symm⟩
  have h1 := ih l' (by simpa using hl) (fun x h => hx x (List.mem_append_left _ h))
  have h2 := hx c (by simp)
  rw [num8_snoc, Nat.pow_succ]
  omega
theorem len8 {l : List Nat} (h : l.length = 8) : ∃ a b c d e f g i, l = [a, b, c, d, e, f, g, i] := by
 match l, h with
 | [a, b, c, d, e, f, g, i], _ => exact ⟨a, b, c, d, e, f, g, i, rfl⟩
theorem eight_list (s : Nat) : eight s = [s / 2 ^ 56 % 256, s / 2 ^ 48 % 256, s / 2 ^ 40 % 256, s / 2 ^ 32 % 256, s / 2 ^ 24 % 256, s / 2 ^ 16 % 256, s / 2 ^ 8 % 256, s / 2 ^ 0 % 256] := rfl
theorem eight_num8 {l : List Nat} (hl : l.length = 8) (hx : ∀ x ∈ l, x < 256) : eight (num8 l) = l := by
 obtain ⟨a, b, c, d, e, f, g, i, rfl⟩ := len8 hl
 have h := fun x (h : x ∈ [a, b, c, d, e, f, g, i]) => hx x h
 have h0 := h a (by simp)
 have h1 := h b (by simp)
 have h2 := h c (by simp)
 have h3 := h d (by simp)
 have h4 := h e (by simp)
 have h5 := h f (by simp)
 have h6 := h g (by simp)
 have h7 := h i (by simp)
 clear h hx
 rw [eight_list]
 simp only [num8, List.foldl_cons, List.foldl_nil]
 congr 1; · omega
 congr 1; · omega
 congr 1; · omega
 congr 1; · omega
 congr 1; · omega
 congr 1; · omega
 congr 1; · omega
 congr 1; omega

def cntF (bare : Nat → Bool) (h : Nat) : Nat := ((List.range h).filter fun j => !bare j).length
theorem cnt_bare {bare : Nat → Bool} {h : Nat} (e : bare h = true) : cntF bare (h + 1) = cntF bare h := by
 unfold cntF; rw [List.range_succ, List.filter_append]; simp [e]
theorem cnt_node {bare : Nat → Bool} {h : Nat} (e : bare h = false) : cntF bare (h + 1) = cntF bare h + 1 := by
 unfold cntF; rw [List.range_succ, List.filter_append]; simp [e]
theorem cnt_le (bare : Nat → Bool) (h : Nat) : cntF bare h ≤ h := by
 unfold cntF; have := List.length_filter_le (fun j => !bare j) (List.range h); rw [List.length_range] at this; exact this
theorem cnt_mono (bare : Nat → Bool) (h : Nat) : ∀ k, cntF bare h ≤ cntF bare (h + k)
 | 0 => Nat.le_refl _
 | k + 1 => by
  refine Nat.le_trans (cnt_mono bare h k) ?_
  by_cases e : bare (h + k) = true
  · rw [← Nat.add_assoc, cnt_bare e]; exact Nat.le_refl _
  · rw [← Nat.add_assoc, cnt_node (by simpa using e)]; omega
theorem cnt_top {bare : Nat → Bool} {h : Nat} (hh : h < 256) (e : bare h = false) : cntF bare h + 1 ≤ cntF bare 256 := by
 have := cnt_mono bare (h + 1) (256 - (h + 1))
 rw [cnt_node e] at this
 rwa [show h + 1 + (256 - (h + 1)) = 256 by omega] at this
def decNd (b : List Nat) (k : Nat) : Nd := ⟨(b.drop (32 + 40 * k)).take 32, num8 ((b.drop (32 + 40 * k + 32)).take 8)⟩
def decNds (b : List Nat) (n : Nat) : List Nd := (List.range n).map (decNd b)
theorem decNds_succ (b : List Nat) (n : Nat) : decNds b (n + 1) = decNds b n ++ [decNd b n] := by simp [decNds, List.range_succ]
theorem decNds_len (b : List Nat) (n : Nat) : (decNds b n).length = n := by simp [decNds]
def decP (b : List Nat) : Except Nat (List Nd) :=
 if b.length < 32 then .error 20
 else if b.length < 32 + 40 * cntF (bareB (b.take 32)) 256 then .error 20
 else if 32 + 40 * cntF (bareB (b.take 32)) 256 < b.length then .error 24
 else .ok (decNds b (cntF (bareB (b.take 32)) 256))
theorem decP_less {b : List Nat} (h : b.length < 32) : decP b = .error 20 := by unfold decP; rw [if_pos h]
theorem decP_short {b : List Nat} {h : Nat} (h32 : ¬ b.length < 32) (hh : h < 256) (e : bareB (b.take 32) h = false) (hl : b.length < 32 + 40 * (cntF (bareB (b.take 32)) h + 1)) : decP b = .error 20 := by
 have := cnt_top hh e
 unfold decP; rw [if_neg h32, if_pos (by omega)]
theorem decP_trail {b : List Nat} (h32 : ¬ b.length < 32) (hl : 32 + 40 * cntF (bareB (b.take 32)) 256 < b.length) : decP b = .error 24 := by
 unfold decP; rw [if_neg h32, if_neg (by omega), if_pos hl]
theorem decP_done {b : List Nat} (h32 : ¬ b.length < 32) (hl : 32 + 40 * cntF (bareB (b.take 32)) 256 = b.length) : decP b = .ok (decNds b (cntF (bareB (b.take 32)) 256)) := by
 unfold decP; rw [if_neg h32, if_neg (by omega), if_neg (by omega)]
theorem decP_errs {b : List Nat} {e : Nat} (h : decP b = .error e) : e = 20 ∨ e = 24 := by
 unfold decP at h
 split at h
 · cases h; exact .inl rfl
 · split at h
   · cases h; exact .inl rfl
   · split at h
     · cases h; exact .inr rfl
     · cases h
theorem dec_hash {b : List Nat} (hb : ∀ x ∈ b, x < 256) {k : Nat} (h : 32 + 40 * (k + 1) ≤ b.length) : IsHash (decNd b k).h ∧ (decNd b k).s < 18446744073709551616 := by
 refine ⟨⟨by simp only [decNd, List.length_take, List.length_drop]; omega, fun x hx => hb x (List.mem_of_mem_drop (List.mem_of_mem_take hx))⟩, ?_⟩
 exact num8_lt 8 _ (by simp only [List.length_take, List.length_drop]; omega) (fun x hx => hb x (List.mem_of_mem_drop (List.mem_of_mem_take hx)))
theorem nds_hash {b : List Nat} (hb : ∀ x ∈ b, x < 256) {n : Nat} (h : 32 + 40 * n ≤ b.length) : ∀ x ∈ decNds b n, IsHash x.h ∧ x.s < 18446744073709551616 := by
 intro x hx
 obtain ⟨k, hk, rfl⟩ := List.mem_map.1 hx
 exact dec_hash hb (by have := List.mem_range.1 hk; omega)
theorem flat_dec {b : List Nat} (hb : ∀ x ∈ b, x < 256) : ∀ n, 32 + 40 * n ≤ b.length → (decNds b n).flatMap ndB = (b.drop 32).take (40 * n)
 | 0, _ => by simp [decNds]
 | n + 1, h => by
  rw [decNds_succ, List.flatMap_append, flat_dec hb n (by omega), List.flatMap_cons, List.flatMap_nil, List.append_nil]
  have e : ndB (decNd b n) = ((b.drop 32).drop (40 * n)).take 40 := by
   rw [List.drop_drop]
   have h8 : eight (decNd b n).s = ((b.drop (32 + 40 * n)).drop 32).take 8 := by
    rw [List.drop_drop]
    exact eight_num8 (by simp only [List.length_take, List.length_drop]; omega) (fun x hx => hb x (List.mem_of_mem_drop (List.mem_of_mem_take hx)))
   unfold ndB
   rw [h8]
   show (b.drop (32 + 40 * n)).take 32 ++ _ = _
   rw [show 40 = 32 + 8 from rfl, List.take_add]
  rw [e, show 40 * (n + 1) = 40 * n + 40 by omega, List.take_add]
theorem dec_back {b : List Nat} (hb : ∀ x ∈ b, x < 256) {xs : List Nd} (h : decP b = .ok xs) : pbytes (b.take 32) xs = b ∧ IsHash (b.take 32) ∧ (∀ x ∈ xs, IsHash x.h ∧ x.s < 18446744073709551616) ∧ xs.length = cntF (bareB (b.take 32)) 256 := by
 unfold decP at h
 by_cases h32 : b.length < 32
 · rw [if_pos h32] at h; cases h
 rw [if_neg h32] at h
 by_cases h1 : b.length < 32 + 40 * cntF (bareB (b.take 32)) 256
 · rw [if_pos h1] at h; cases h
 rw [if_neg h1] at h
 by_cases h2 : 32 + 40 * cntF (bareB (b.take 32)) 256 < b.length
 · rw [if_pos h2] at h; cases h
 rw [if_neg h2] at h
 obtain rfl := Except.ok.inj h
 refine ⟨?_, ⟨by rw [List.length_take]; omega, fun x hx => hb x (List.mem_of_mem_take hx)⟩, nds_hash hb (by omega), decNds_len _ _⟩
 unfold pbytes
 rw [flat_dec hb _ (by omega), List.take_of_length_le (l := b.drop 32) (by rw [List.length_drop]; omega), List.take_append_drop]
end Go.Proofs.YtknfbccbdiidjaaGreatDoor
/- The walk of Encode: a proof's bytes. -/
namespace Go.Proofs.YtknfbccbdiidjaaGreatDoor
set_option linter.unusedVariables false
set_option linter.unusedSimpArgs false
open Go.ChangeShapes Go.WideShapes Go.ChangeAt Go.RowKit Go.Maps

structure EncW (w : World) (bs : List Nat) (v : Value) (wr : World) : Prop where
 own : ∃ oa oc, v = .slice oa bs.length oc ∧ wr.ownsRow w.heap.size 5 1 v bs.length (bcells bs)
 bel : Below w.heap.size w wr
set_option maxRecDepth 100000 in
set_option maxHeartbeats 4000000 in
theorem encode_is (w : World) (bb : List Nat) (hbb : IsHash bb) (a : Option Addr) (n c : Nat) (xs : List Nd) (hxs : NodesAt w a n xs) (hn : n ≤ 100000) :
  Calls Tryz.prog 70 #[.agg (pcells bb a n c).toArray] w fun e w' => ∃ oa oc, e = .returned (.slice oa (32 + 40 * n) oc) ∧ w'.ownsRow w.heap.size 5 1 (.slice oa (32 + 40 * n) oc) (32 + 40 * n) (bcells (pbytes bb xs)) ∧ Below w.heap.size w w' := by
 obtain ⟨Z, hz, hZs, hZn, -⟩ := zero_node
 obtain ⟨LP, hLP⟩ : ∃ L, L = pcells bb a n c := ⟨_, rfl⟩
 have hrow : LP[32]? = some (.slice a n c) := by rw [hLP]; exact pcells_row hbb a n c
 have hbyte : ∀ i, i < 32 → LP[i]? = some (.int .u8 (bb.getD i 0 : Nat)) := fun i hi => by rw [hLP]; exact pcells_byte hbb a n c i hi
 rw [← hLP]
 have hbx := Has.new w 39 LP.toArray
 have hsrc : Bytes (w.alloc (.cells LP.toArray 39)) (w.alloc (.cells LP.toArray 39)).heap.size (.slice (some ⟨w.heap.size, 0, none⟩) 32 32) bb := ⟨some ⟨w.heap.size, 0, none⟩, 32, by rw [hbb.1], by rw [hbb.1]; exact Nat.le_refl _, hbb.2, fun _ => ⟨w.heap.size, 0, rfl, by simp, fun i hi => by
  rw [Nat.zero_add]
  exact hbx.cell_is (by rw [List.getElem?_toArray]; exact hbyte i (by rw [hbb.1] at hi; exact hi))⟩⟩
 have SZN := Lib.hid (show ∀ x : Nd, IsHash x.h → (Tryz.prog.info? 30).map (·.size) = some (ndV x).toArray.size from fun x hx => by rw [List.size_toArray, ndV_len hx]; kernel_rfl)
 have SZL := Lib.hid (show ∀ x : Nd, IsHash x.h → (Tryz.prog.info? 30).map (·.size) = some (ndV x).length from fun x hx => by rw [ndV_len hx]; kernel_rfl)
 have HZN := Lib.hid (show ∀ x : Nd, IsHash x.h → Z.size = (ndV x).toArray.size from fun x hx => by rw [hZs, List.size_toArray, ndV_len hx])
 have HXS := Lib.hid hxs
 have HBX := Lib.hid hbx
 have HSRC := Lib.hid hsrc
 have HBB := Lib.hid hbb
 have HROW := Lib.hid hrow
 have HL0 := Lib.hid (show 0 + bb.length ≤ 100000000 by rw [hbb.1]; decide)
 have HS0 := Lib.hid (show w.heap.size ≤ (w.alloc (.cells LP.toArray 39)).heap.size by simp)
 have HB0 := Lib.hid (show Below w.heap.size w (w.alloc (.cells LP.toArray 39)) from (Below.refl _ _).alloc (Nat.le_refl _) _)
 clear hLP hbyte hZs hxs hbx hsrc hbb hrow
 go_enter Tryz.func70, Tryz.ntmps70
 go_upto_region 2 with (at_builtin; refine wpList_append_bytes rfl (.const (.slice none 0 0)) (.tmp 8) rfl w.heap.size _ 0 [] rfl ⟨rfl, .inl ⟨rfl, rfl⟩⟩ _ _ bb rfl HSRC.out HL0.out HS0.out ?_; intro oa2 oc2 w2 hown2 hgr2)
 have hb2 : Below w.heap.size w w2 := HB0.out.grown hgr2 HS0.out (fun k e => by cases e)
 have hE2 : EncW w (pbytes bb (xs.take 0)) (.slice oa2 (0 + bb.length) oc2) w2 := by
  have e : pbytes bb (xs.take 0) = bb := by simp [pbytes]
  rw [e]
  rw [Nat.zero_add] at hown2 ⊢
  exact ⟨⟨oa2, oc2, rfl, hown2⟩, hb2⟩
 have c32 : w2.cell? ⟨w.heap.size, 32, none⟩ = some (.slice a n c) := (HBX.out.grown hgr2 (fun e => by cases e)).cell_is (by rw [List.getElem?_toArray]; exact HROW.out)
 have HE2 := Lib.hid hE2
 clear hE2 hb2 hown2 hgr2
 go_wp2_with fail
 clear c32
 go_loopw [3, 13] (fun bv iv wr => ∃ k : Nat, iv = .int .i64 (k : Int) ∧ k ≤ n ∧ EncW w (pbytes bb (xs.take k)) bv wr) (fun _ iv _ => n - (intOf iv).toNat)
 case atStart => exact ⟨0, rfl, Nat.zero_le _, by have := HE2.out; rwa [Nat.zero_add] at this⟩
 case round =>
  clear HE2
  obtain ⟨k, rfl, hk, he⟩ := hrel
  obtain ⟨⟨oa, oc, hv, hown⟩, hbel⟩ := he
  subst hv
  obtain ⟨bs, hbs⟩ : ∃ l, l = pbytes bb (xs.take k) := ⟨_, rfl⟩
  rw [← hbs] at hown ⊢
  have hbl : bs.length ≤ 5000000 := by
    rw [hbs, pbytes_len HBB.out.1 _ (fun x hx => HXS.out.hash x (List.mem_of_mem_take hx)), List.length_take]; omega
  have HOWN := Lib.hid hown
  have HBEL := Lib.hid hbel
  have HBS := Lib.hid hbs
  have HBL := Lib.hid hbl
  clear hown hbel hbs hbl
  by_cases hkn : k < n
  · have hkn' : (k : Int) < (n : Int) := by omega
    obtain ⟨x, hx⟩ : ∃ x, xs[k]? = some x := ⟨_, List.getElem?_eq_getElem (by rw [HXS.out.len]; exact hkn)⟩
    have hxh : IsHash x.h := HXS.out.hash x (List.mem_of_getElem? hx)
    obtain ⟨b, o, ha, hbl, hr⟩ := (HXS.out.below HBEL.out).at_ (by omega)
    have hrx := hr k x hx
    have hat := at_nodeo b o n c k hkn
    rw [← ha] at hat
    have hnw : Has ((wr.alloc (.cells Z 30)).setRow wr.heap.size (ndV x).toArray) wr.heap.size 30 (ndV x).toArray ∧ Below wr.heap.size wr ((wr.alloc (.cells Z 30)).setRow wr.heap.size (ndV x).toArray) := by
     rw [World.setRow_alloc_new]
     exact ⟨Has.new _ _ _, (Below.refl _ _).alloc (Nat.le_refl _) _⟩
    have HRX := Lib.hid hrx
    have HXH := Lib.hid hxh
    have HNX := Lib.hid (show pbytes bb (xs.take (k + 1)) = bs ++ (x.h ++ eight x.s) by rw [HBS.out]; exact pbytes_succ hx)
    have HNW := Lib.hid hnw
    clear hx hxh hr hrx hbl hnw ha
    go_upto_region 5 with (first
     | (refine wpList_load_mid rfl 30 (.tmp 15) rfl b (o + k * 33) rfl (ndV x) _ HRX.out Tryz.underlying30 rfl (SZL.out x HXH.out) ?_)
     | (refine wpList_store_row rfl 30 (.tmp 5) (.tmp 16) rfl wr.heap.size (ndV x).toArray rfl rfl 30 Z (heap_alloc_new wr _) (SZN.out _ HXH.out) (HZN.out _ HXH.out) (ndV_one _) ?_))
    have HO5 := Lib.hid (own_kept HOWN.out (Kept.of_below (S := fun _ => False) HNW.out.2) (fun _ _ e => e))
    have HB5 := Lib.hid (HBEL.out.trans (HNW.out.2.mono HBEL.out.size))
    generalize (wr.alloc (.cells Z 30)).setRow wr.heap.size (ndV x).toArray = W5 at HNW HO5 HB5 ⊢
    generalize wr.heap.size = G5 at HNW ⊢
    have hsrc : Bytes W5 W5.heap.size (.slice (some ⟨G5, 0, none⟩) 32 32) x.h := ⟨some ⟨G5, 0, none⟩, 32, by rw [HXH.out.1], by rw [HXH.out.1]; exact Nat.le_refl _, HXH.out.2, fun _ => ⟨G5, 0, rfl, Nat.ne_of_lt HNW.out.1.lt, fun i hi => by
     rw [Nat.zero_add]
     exact HNW.out.1.cell_is (by
       rw [List.getElem?_toArray, ndV, ncells, List.getElem?_append_left (by rw [bcells_length]; exact hi)]
       exact bcells_get _ i hi)⟩⟩
    have HSRC := Lib.hid hsrc
    have HLN := Lib.hid (show bs.length + x.h.length ≤ 100000000 by rw [HXH.out.1]; have := HBL.out; omega)
    clear hsrc
    go_upto_region 6 with (at_builtin; refine wpList_append_bytes rfl (.tmp 17) (.tmp 19) rfl w.heap.size _ bs.length (bcells bs) rfl HO5.out _ _ x.h rfl HSRC.out HLN.out HB5.out.size ?_; intro oa6 oc6 w6 hown6 hgr6)
    have h6 : EncW w (bs ++ x.h ++ (eight x.s).take 0) (.slice oa6 (bs.length + x.h.length) oc6) w6 ∧ Has w6 G5 30 (ndV x).toArray := by
     rw [List.take_zero, List.append_nil]
     rw [bcells_app, ← List.length_append] at hown6
     refine ⟨⟨⟨oa6, oc6, by rw [List.length_append], by rw [← List.length_append]; exact hown6⟩, HB5.out.grown hgr6 HB5.out.size (own_blk HO5.out)⟩, HNW.out.1.grown hgr6 (fun e => own_has_ne HO5.out HNW.out.1 (by decide) G5 e.symm rfl)⟩
    have H6 := Lib.hid h6
    obtain ⟨sx, hsx⟩ : ∃ v, v = x.s := ⟨_, rfl⟩
    have HSX := Lib.hid hsx
    clear h6 hown6 hgr6 hsx
    go_wp2_with fail
    go_loopw [3, 6] (fun bv iv wx => ∃ j : Nat, iv = .int .i64 (7 - (j : Int)) ∧ j ≤ 8 ∧ EncW w (bs ++ x.h ++ (eight x.s).take j) bv wx ∧ Has wx G5 30 (ndV x).toArray) (fun _ iv _ => (intOf iv + 1).toNat)
    case atStart => exact ⟨0, by go_num, Nat.zero_le _, H6.out⟩
    case round =>
     clear H6
     obtain ⟨j, rfl, hj, ⟨⟨oa7, oc7, hv7, hown7⟩, hbel7⟩, hx7⟩ := hrel
     subst hv7
     obtain ⟨cs, hcs⟩ : ∃ l, l = bs ++ x.h ++ (eight x.s).take j := ⟨_, rfl⟩
     rw [← hcs] at hown7 ⊢
     by_cases hj8 : j < 8
     · obtain ⟨m, hm⟩ : ∃ m : Nat, (7 : Int) - (j : Int) = (m : Int) ∧ m = 7 - j ∧ m < 8 := ⟨7 - j, by omega, rfl, by omega⟩
       have hm0 : (m : Int) ≥ 0 := by omega
       rw [hm.1]
       obtain ⟨q, hq⟩ : ∃ q, q = sx / 2 ^ (8 * m) % 256 := ⟨_, rfl⟩
       have hq8 : q < 256 := by rw [hq]; exact Nat.mod_lt _ (by decide)
       have c5 : wr.cell? ⟨G5, 32, none⟩ = some (.int .u64 (sx : Int)) := hx7.cell_is (by
        rw [List.getElem?_toArray, ndV, ncells, List.getElem?_append_right (by rw [bcells_length, HXH.out.1]; exact Nat.le_refl _), bcells_length, HXH.out.1, HSX.out]; rfl)
       have hal : Below wr.heap.size wr (wr.alloc (.cells #[.int .u8 (q : Int)] 5)) := (Below.refl _ _).alloc (Nat.le_refl _) _
       have HO8 := Lib.hid (own_kept hown7 (Kept.of_below (S := fun _ => False) hal) (fun _ _ e => e))
       have HX8 := Lib.hid (hx7.below hal hx7.lt)
       have hown8 : Bytes (wr.alloc (.cells #[.int .u8 (q : Int)] 5)) (wr.alloc (.cells #[.int .u8 (q : Int)] 5)).heap.size (.slice (some ⟨wr.heap.size, 0, none⟩) 1 1) [q] := ⟨_, _, rfl, Nat.le_refl _, (fun z hz => by rw [List.mem_singleton.1 hz]; exact hq8), fun _ => ⟨wr.heap.size, 0, rfl, by simp, fun i hi => by
        obtain rfl : i = 0 := Nat.lt_one_iff.1 hi
        exact (Has.new wr _ _).cell_is rfl⟩⟩
       have HSRC8 := Lib.hid hown8
       have HBS8 := Lib.hid (show ∀ z, w.heap.size ≤ (wr.alloc (.cells z 5)).heap.size from fun z => by have := hbel7.size; simp; omega)
       have HLN8 := Lib.hid (show cs.length + [q].length ≤ 100000000 by
        have h1 := HBL.out
        have h2 := HXH.out.1
        rw [hcs, List.length_append, List.length_append, List.length_take, eight_length, h2]; simp; omega)
       have HB8 := Lib.hid (hbel7.alloc hbel7.size (.cells #[.int .u8 (q : Int)] 5))
       have HE8 := Lib.hid (show bs ++ x.h ++ (eight x.s).take (j + 1) = cs ++ [q] by
        rw [eight_nth x.s j hj8, hcs, ← List.append_assoc, hq, HSX.out, hm.2.1])
       have HJ := Lib.hid hj8
       have HMJ := Lib.hid hm
       have hnn : (8 * (m : Int)).toNat = 8 * m := by omega
       have hn0 : (0 : Int) ≤ 8 * (m : Int) := by omega
       have hn1 : 8 * (m : Int) < 64 := by omega
       have hu8 : IntKind.u8.wrap ((sx : Int) / 2 ^ (8 * m)) = (q : Int) := by
        rw [IntKind.wrap_u8, hq]
        have : ((sx : Int) / 2 ^ (8 * m)) = ((sx / 2 ^ (8 * m) : Nat) : Int) := by rw [Int.natCast_ediv, Int.natCast_pow]; rfl
        rw [this]; omega
       clear hal hown8 hcs hm hj hown7 hbel7 hx7 hq
       go_wp2_with (at_builtin; refine wpList_append_bytes rfl (.tmp 25) (.tmp 32) rfl w.heap.size _ cs.length (bcells cs) rfl HO8.out _ _ [q] rfl HSRC8.out HLN8.out (HBS8.out _) ?_; intro oa8 oc8 w8 hown9 hgr9)
       have hgx : Kept (fun j => (Value.slice oa7 cs.length oc7).ownBlock = some j) (wr.alloc (.cells #[.int .u8 (q : Int)] 5)) w8 := (Kept.refl _ _).grown hgr9 (fun j e => .inl e)
       have hfin : EncW w (bs ++ x.h ++ (eight x.s).take (j + 1)) (.slice oa8 (cs.length + [q].length) oc8) w8 ∧ Has w8 G5 30 (ndV x).toArray := by
        rw [HE8.out]
        rw [bcells_app, ← List.length_append] at hown9
        refine ⟨⟨⟨oa8, oc8, by rw [List.length_append], by rw [← List.length_append]; exact hown9⟩, HB8.out.grown hgr9 (HBS8.out _) (own_blk HO8.out)⟩, HX8.out.grown hgr9 (fun e => own_has_ne HO8.out HX8.out (by decide) G5 e.symm rfl)⟩
       have HFIN := Lib.hid hfin
       have HJ2 := Lib.hid (show (m : Int) - 1 = 7 - ((j + 1 : Nat) : Int) by have h1 := HMJ.out.2.1; have h2 := HJ.out; omega)
       have HME := Lib.hid (show ((m : Int) - 1 + 1).toNat < ((m : Int) + 1).toNat by omega)
       clear hgx hfin hown9 hgr9 hu8 hnn hn0 hn1 c5
       go_wp2_with fail
       go_roundw
       case rel => exact ⟨j + 1, by rw [HJ2.out], by have := HJ.out; omega, HFIN.out⟩
       case measure => simp [intOf]
     · obtain rfl : j = 8 := by omega
       have hm0 : ¬ (7 - ((8 : Nat) : Int)) ≥ 0 := by omega
       have hfin : EncW w (pbytes bb (xs.take (k + 1))) (.slice oa7 cs.length oc7) wr := by
        have e : cs = pbytes bb (xs.take (k + 1)) := by
         rw [hcs, HNX.out, List.take_of_length_le (by rw [eight_length]; exact Nat.le_refl _), List.append_assoc]
        rw [← e]
        exact ⟨⟨oa7, oc7, rfl, hown7⟩, hbel7⟩
       have HFIN := Lib.hid hfin
       have HKN := Lib.hid hkn
       clear hcs hown7 hbel7 hx7 hfin hj hj8
       go_wp2_with fail
       go_roundw
       case rel => exact ⟨k + 1, by go_num, HKN.out, HFIN.out⟩
       case measure => simp [intOf]; omega
  · obtain rfl : k = n := by omega
    have hkn' : ¬ (k : Int) < (k : Int) := by omega
    have hall : bs = pbytes bb xs := by rw [HBS.out, List.take_of_length_le (by rw [HXS.out.len]; exact Nat.le_refl _)]
    have hlen : bs.length = 32 + 40 * k := by rw [hall, pbytes_len HBB.out.1 _ HXS.out.hash, HXS.out.len]
    have hown := HOWN.out
    rw [hall] at hown
    rw [hall] at hlen
    rw [hlen] at hown
    have HF := Lib.hid hown
    have HE := Lib.hid (show bs.length = 32 + 40 * k by rw [hall, hlen])
    clear hall hlen hown hkn
    go_wp2_with fail
    go_ret
    exact ⟨oa, oc, congrArg (fun z => Ending.returned (Value.slice oa z oc)) HE.out, HF.out, HBEL.out⟩
end Go.Proofs.YtknfbccbdiidjaaGreatDoor
