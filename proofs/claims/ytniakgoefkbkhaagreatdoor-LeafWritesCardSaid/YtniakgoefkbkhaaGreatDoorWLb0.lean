/- Leaves of layer 7: their cells; place, part, Check walked. -/
import Derived.Test.YtniakgoefkbkhaaGreatDoorWs
import Derived.Test.YtniakgoefkbkhaaGreatDoorWTag2
import Derived.Test.YtniakgoefkbkhaaGreatDoorWPf5
import Derived.Test.YtniakgoefkbkhaaGreatDoorWRef1
import Derived.Test.YtniakgoefkbkhaaGreatDoorWTv6
namespace Go.Proofs.YtniakgoefkbkhaaGreatDoor
set_option linter.unusedVariables false
set_option linter.unusedSimpArgs false
open Go.ChangeShapes Go.WideShapes Go.ChangeAt Go.RowKit Go.Maps

structure LeafT where
 id : List Nat
 am : Nat
 ow : List Nat
 pl : Int
 sp : Nd
def LeafT.cells (l : LeafT) : List Value := bcells l.id ++ (.int .u64 (l.am : Int) :: (bcells l.ow ++ (.int .i64 l.pl :: ndV l.sp)))
structure LeafT.ok (l : LeafT) : Prop where
 id : IsHash l.id
 am : l.am < 18446744073709551616
 ow : IsHash l.ow
 lo : -9223372036854775808 ≤ l.pl
 hi : l.pl ≤ 9223372036854775807
 sp : IsHash l.sp.h
 ss : l.sp.s < 18446744073709551616
theorem LeafT.len {l : LeafT} (h : l.ok) : l.cells.length = 99 := by
 simp [LeafT.cells, bcells_length, h.id.1, h.ow.1, ndV_len h.sp]
theorem LeafT.at_id {l : LeafT} (h : l.ok) (i : Nat) (hi : i < 32) : l.cells[i]? = some (.int .u8 (l.id.getD i 0 : Nat)) := by
 unfold LeafT.cells
 rw [List.getElem?_append_left (by rw [bcells_length, h.id.1]; exact hi)]
 exact bcells_get _ i (by rw [h.id.1]; exact hi)
theorem LeafT.at_am {l : LeafT} (h : l.ok) : l.cells[32]? = some (.int .u64 (l.am : Int)) := by
 unfold LeafT.cells
 rw [List.getElem?_append_right (by rw [bcells_length, h.id.1]; exact Nat.le_refl _), bcells_length, h.id.1]; rfl
theorem LeafT.tail {l : LeafT} (h : l.ok) (i : Nat) : l.cells[33 + i]? = (bcells l.ow ++ (.int .i64 l.pl :: ndV l.sp))[i]? := by
 unfold LeafT.cells
 rw [List.getElem?_append_right (by rw [bcells_length, h.id.1]; omega), bcells_length, h.id.1, show 33 + i - 32 = i + 1 by omega, List.getElem?_cons_succ]
theorem LeafT.at_ow {l : LeafT} (h : l.ok) (i : Nat) (hi : i < 32) : l.cells[33 + i]? = some (.int .u8 (l.ow.getD i 0 : Nat)) := by
 rw [LeafT.tail h, List.getElem?_append_left (by rw [bcells_length, h.ow.1]; exact hi)]
 exact bcells_get _ i (by rw [h.ow.1]; exact hi)
theorem LeafT.at_pl {l : LeafT} (h : l.ok) : l.cells[65]? = some (.int .i64 l.pl) := by
 rw [show 65 = 33 + 32 from rfl, LeafT.tail h, List.getElem?_append_right (by rw [bcells_length, h.ow.1]; exact Nat.le_refl _), bcells_length, h.ow.1]; rfl
theorem LeafT.at_sp {l : LeafT} (h : l.ok) (i : Nat) : l.cells[66 + i]? = (ndV l.sp)[i]? := by
 rw [show 66 + i = 33 + (33 + i) by omega, LeafT.tail h, List.getElem?_append_right (by rw [bcells_length, h.ow.1]; omega), bcells_length, h.ow.1, show 33 + i - 32 = i + 1 by omega, List.getElem?_cons_succ]
theorem LeafT.at_ss {l : LeafT} (h : l.ok) : l.cells[98]? = some (.int .u64 (l.sp.s : Int)) := by
 rw [show 98 = 66 + 32 from rfl, LeafT.at_sp h, ndV, ncells, List.getElem?_append_right (by rw [bcells_length, h.sp.1]; exact Nat.le_refl _), bcells_length, h.sp.1]; rfl
theorem LeafT.one (l : LeafT) : l.cells.toArray.all (·.oneCell') = true := by
 rw [Array.all_eq_true']
 intro x hx
 have hx2 : x ∈ l.cells := by simpa using hx
 unfold LeafT.cells at hx2
 simp only [List.mem_append, List.mem_cons] at hx2
 rcases hx2 with h | rfl | h | rfl | h
 · obtain ⟨y, _, rfl⟩ := List.mem_map.1 h; rfl
 · rfl
 · obtain ⟨y, _, rfl⟩ := List.mem_map.1 h; rfl
 · rfl
 · exact ncells_one _ _ x h
def leafBad (l : LeafT) : Bool := decide (l.am = 0 ∨ l.pl < 0 ∨ 256 ≤ l.pl ∨ l.sp.s < l.am)
def leafE (l : LeafT) : Int := if leafBad l = true then 1 else 0
set_option maxRecDepth 100000 in
theorem leafCheck_is (w : World) (l : LeafT) (h : l.ok) : Calls Tryz.prog 19 #[.agg l.cells.toArray] w fun e w' => e = .returned (.int .i64 (leafE l)) ∧ w' = w.alloc (.cells l.cells.toArray 41) := by
 have hx := Has.new w 41 l.cells.toArray
 have c32 := hx.cell_is (i := 32) (by rw [List.getElem?_toArray]; exact LeafT.at_am h)
 have c65 := hx.cell_is (i := 65) (by rw [List.getElem?_toArray]; exact LeafT.at_pl h)
 have c98 := hx.cell_is (i := 98) (by rw [List.getElem?_toArray]; exact LeafT.at_ss h)
 have HE := Lib.hid (show leafBad l = decide (l.am = 0 ∨ l.pl < 0 ∨ 256 ≤ l.pl ∨ l.sp.s < l.am) from rfl)
 have h1 := h.lo
 have h2 := h.hi
 obtain ⟨am, ham⟩ : ∃ x, x = l.am := ⟨_, rfl⟩
 obtain ⟨pl, hpl⟩ : ∃ x, x = l.pl := ⟨_, rfl⟩
 obtain ⟨ss, hss⟩ : ∃ x, x = l.sp.s := ⟨_, rfl⟩
 rw [← ham] at c32
 rw [← hpl] at c65 h1 h2
 rw [← hss] at c98
 rw [← ham, ← hpl, ← hss] at HE
 have HLE := Lib.hid (show leafE l = if leafBad l = true then 1 else 0 from rfl)
 obtain ⟨le, hle⟩ : ∃ x, x = leafE l := ⟨_, rfl⟩
 rw [← hle] at HLE ⊢
 generalize l.cells = LC at c32 c65 c98 ⊢
 clear ham hpl hss h hle hx
 by_cases a1 : am = 0
 · have b1 : ((am : Int) == 0) = true := by rw [beq_iff_eq]; omega
   have hr : le = 1 := by rw [HLE.out, HE.out, if_pos (decide_eq_true (.inl a1))]
   have HR := Lib.hid hr
   clear hr a1
   go_enter Tryz.func19, Tryz.ntmps19
   go_wp2_with fail
   go_ret
   exact ⟨ret_int HR.out.symm, rfl⟩
 have b1 : ((am : Int) == 0) = false := by rw [beq_eq_false_iff_ne]; omega
 by_cases a2 : pl < 0
 · have hr : le = 1 := by rw [HLE.out, HE.out, if_pos (decide_eq_true (.inr (.inl a2)))]
   have HR := Lib.hid hr
   clear hr
   go_enter Tryz.func19, Tryz.ntmps19
   go_wp2_with fail
   go_ret
   exact ⟨ret_int HR.out.symm, rfl⟩
 by_cases a3 : 256 ≤ pl
 · have hr : le = 1 := by rw [HLE.out, HE.out, if_pos (decide_eq_true (.inr (.inr (.inl a3))))]
   have HR := Lib.hid hr
   clear hr
   go_enter Tryz.func19, Tryz.ntmps19
   go_wp2_with fail
   go_ret
   exact ⟨ret_int HR.out.symm, rfl⟩
 by_cases a4 : ss < am
 · have a5 : (ss : Int) < (am : Int) := by omega
   have hr : le = 1 := by rw [HLE.out, HE.out, if_pos (decide_eq_true (.inr (.inr (.inr a4))))]
   have HR := Lib.hid hr
   clear hr
   go_enter Tryz.func19, Tryz.ntmps19
   go_wp2_with fail
   go_ret
   exact ⟨ret_int HR.out.symm, rfl⟩
 have a5 : ¬ (ss : Int) < (am : Int) := by omega
 have hr : le = 0 := by
   rw [HLE.out, HE.out, if_neg]
   rw [decide_eq_true_eq]
   rintro (h | h | h | h)
   · exact a1 h
   · exact a2 h
   · exact a3 h
   · exact a4 h
 have HR := Lib.hid hr
 clear hr
 go_enter Tryz.func19, Tryz.ntmps19
 go_wp2_with fail
 go_ret
 exact ⟨ret_int HR.out.symm, rfl⟩
def plS : ByteArray := { data := #[109, 111, 110, 101, 121, 101, 114, 47, 112, 108, 97, 99, 101] }
def placeK (K s0 : List Wd) (n : Nat) : List Nat := tagD K s0 plS [n]
theorem tagD_hash (K s0 : List Wd) (hs : s0.length = 8) (s : ByteArray) (m : List Nat) : IsHash (tagD K s0 s m) := digest_hash K s0 hs _
theorem partsN_one {w w3 : World} {g pg : Nat} {v : Value} {p : List Nat} (hc : w3.cell? ⟨pg, 0, none⟩ = some v) (hb : Bytes w3 g v p) (hne : pg ≠ g) : PartsN w3 g (.slice (some ⟨pg, 0, none⟩) 1 1) [p] :=
 ⟨_, _, rfl, fun _ => ⟨pg, 0, rfl, hne, fun i hi => by
  have hi0 : i = 0 := by simpa using hi
  subst hi0
  exact ⟨v, hc, hb⟩⟩⟩
set_option maxRecDepth 100000 in
set_option maxHeartbeats 2000000 in
theorem place_is (K s0 : List Wd) (w : World) (hT : Tabs K s0 w) (n : Nat) (hn : n < 256) : Calls Tryz.prog 51 #[.int .i64 (n : Int)] w fun e w' => e = .returned (arr (placeK K s0 n)) ∧ Below w.heap.size w w' := by
 obtain ⟨zk, hzk, hzs, hzn⟩ := zero_hashT
 have s1 : ∀ (x : World) o, (x.alloc o).heap.size = x.heap.size + 1 := fun x o => by simp
 obtain ⟨W3, hW3⟩ : ∃ W, W = (((w.alloc (.cells zk 25)).alloc (.cells (tag0 plS).toArray 146)).alloc (.cells #[.int .u8 (n : Int)] 5)).alloc (.cells #[.slice (some ⟨w.heap.size + 1 + 1, 0, none⟩) 1 1] 54) := ⟨_, rfl⟩
 have h2 : Has W3 w.heap.size 25 zk := by rw [hW3]; exact (((Has.new w _ _).alloc _).alloc _).alloc _
 have hg : Has W3 (w.heap.size + 1) 146 (tag0 plS).toArray := by
  rw [hW3]
  have := Has.new (w.alloc (.cells zk 25)) 146 (tag0 plS).toArray
  rw [s1] at this
  exact (this.alloc _).alloc _
 have hn3 : Has W3 (w.heap.size + 1 + 1) 5 #[.int .u8 (n : Int)] := by
  rw [hW3]
  have := Has.new ((w.alloc (.cells zk 25)).alloc (.cells (tag0 plS).toArray 146)) 5 #[.int .u8 (n : Int)]
  rw [s1, s1] at this
  exact this.alloc _
 have hp3 : Has W3 (w.heap.size + 1 + 1 + 1) 54 #[.slice (some ⟨w.heap.size + 1 + 1, 0, none⟩) 1 1] := by
  rw [hW3]
  have := Has.new (((w.alloc (.cells zk 25)).alloc (.cells (tag0 plS).toArray 146)).alloc (.cells #[.int .u8 (n : Int)] 5)) 54 #[.slice (some ⟨w.heap.size + 1 + 1, 0, none⟩) 1 1]
  rw [s1, s1, s1] at this
  exact this
 have hbe : Below w.heap.size w W3 := by
  rw [hW3]
  exact ((((Below.refl _ _).alloc (Nat.le_refl _) _).alloc (by simp) _).alloc (by simp; omega) _).alloc (by simp; omega) _
 have hby : Bytes W3 (w.heap.size + 1) (.slice (some ⟨w.heap.size + 1 + 1, 0, none⟩) 1 1) [n] := ⟨_, _, rfl, Nat.le_refl _, (fun z hz => by rw [List.mem_singleton.1 hz]; exact hn), fun _ => ⟨w.heap.size + 1 + 1, 0, rfl, by omega, fun i hi => by
  obtain rfl : i = 0 := Nat.lt_one_iff.1 hi
  exact hn3.cell_is rfl⟩⟩
 have hlow := hT.low
 have hsum := tagSum_is K s0 W3 (hT.below hbe hT.low) (w.heap.size + 1) plS (by decide) (by omega) hg _ [[n]] (partsN_one (w := w) (hp3.cell_is rfl) hby (by omega)) (by simp) (by simp)
 have hpk : tagD K s0 plS [[n]].flatten = placeK K s0 n := rfl
 rw [hpk] at hsum
 have hph : IsHash (placeK K s0 n) := tagD_hash K s0 hT.len _ _
 obtain ⟨D, hD⟩ : ∃ D, D = placeK K s0 n := ⟨_, rfl⟩
 rw [← hD] at hsum hph ⊢
 unfold arr at hsum
 have hnw : IntKind.u8.wrap (n : Int) = (n : Int) := by rw [IntKind.wrap_u8]; omega
 have SZ := Lib.hid (show (Tryz.prog.info? 25).map (·.size) = some (bcells D).toArray.size by rw [List.size_toArray, bcells_length, hph.1]; kernel_rfl)
 have SZ2 := Lib.hid (show zk.size = (bcells D).toArray.size by rw [hzs, List.size_toArray, bcells_length, hph.1])
 have HSUM := Lib.hid hsum
 have H2 := Lib.hid h2
 have HBE := Lib.hid hbe
 have HW3 := Lib.hid hW3
 clear hsum h2 hg hn3 hp3 hbe hby hpk hph hD hzs hW3 hlow
 go_enter Tryz.func51, Tryz.ntmps51
 go_wp2_with fail
 refine (newTag_is plS _).mono ?_
 rintro _ w2 ⟨rfl, hw2⟩
 have hsz : (w.alloc (.cells zk 25)).heap.size = w.heap.size + 1 := by simp
 subst hw2
 try rw [hsz]
 go_wp2_with fail
 rw [← HW3.out]
 refine HSUM.out.mono ?_
 rintro _ w4 ⟨rfl, hk4⟩
 have H24 := Lib.hid (H2.out.kept hk4 (by omega))
 have hset : Has (w4.setRow w.heap.size (bcells D).toArray) w.heap.size 25 (bcells D).toArray := H24.out.setRow
 have hbf : Below w.heap.size w (w4.setRow w.heap.size (bcells D).toArray) := by
  have hb4 := HBE.out.trans (hk4.below HBE.out.size (fun k e => by have e' : k = w.heap.size + 1 := e; omega))
  exact hb4.trans ((kept_setRow (g := w.heap.size) w4 (bcells D).toArray).below hb4.size (fun k e => by have e' : k = w.heap.size := e; omega))
 have HSET := Lib.hid hset
 have HBF := Lib.hid hbf
 clear hset hbf hk4 hsz
 go_wp2_with (refine wpList_store_row rfl 25 (.tmp 2) (.tmp 8) rfl w.heap.size (bcells D).toArray rfl rfl 25 _ H24.out SZ.out SZ2.out (all_oneCell_toArray (bcells_one D)) ?_)
 refine bodyPost_ret (results_cell_row rfl _ _ w.heap.size 25 (bcells D).toArray (0, 0) _ rfl HSET.out Tryz.underlying25 rfl SZ.out) rfl ?_
 exact ⟨rfl, HBF.out⟩
end Go.Proofs.YtniakgoefkbkhaaGreatDoor
/- The plain law of a leaf's bytes: back and forth. -/
namespace Go.Proofs.YtniakgoefkbkhaaGreatDoor
set_option linter.unusedVariables false
set_option linter.unusedSimpArgs false

def plB (l : LeafT) : Nat := (l.pl % 256).toNat
theorem plB_lt (l : LeafT) : plB l < 256 := by unfold plB; omega
def recsOf (l : LeafT) : List Rec := [⟨0, l.id⟩, ⟨2, eight l.am⟩, ⟨4, l.ow⟩, ⟨6, [plB l]⟩, ⟨8, l.sp.h ++ eight l.sp.s⟩]
theorem eight_len' (x : Nat) : (eight x).length = 8 := by simp [eight]
theorem eight_lt' (x : Nat) : ∀ y ∈ eight x, y < 256 := by rw [eight_big]; exact bigN_lt x 8
theorem numB_eight (x : Nat) (h : x < 18446744073709551616) : numB (eight x) = x := by rw [eight_big]; exact numB_big' x 8 (by show x < 18446744073709551616; exact h)
theorem recs_lt (l : LeafT) (h : l.ok) : ∀ r ∈ recsOf l, ∀ y ∈ r.v, y < 256 := by
 intro r hr
 simp only [recsOf, List.mem_cons, List.not_mem_nil, or_false] at hr
 rcases hr with rfl | rfl | rfl | rfl | rfl
 · exact h.id.2
 · exact eight_lt' _
 · exact h.ow.2
 · intro y hy; rw [List.mem_singleton.1 hy]; exact plB_lt l
 · intro y hy
   rcases List.mem_append.1 hy with h1 | h1
   · exact h.sp.2 y h1
   · exact eight_lt' _ y h1
theorem recs_t (l : LeafT) : ∀ r ∈ recsOf l, r.t < 18446744073709551616 := by
 intro r hr
 simp only [recsOf, List.mem_cons, List.not_mem_nil, or_false] at hr
 rcases hr with rfl | rfl | rfl | rfl | rfl <;> (dsimp only; omega)
def leafB (l : LeafT) : List Nat := (recsOf l).flatMap recB
theorem recE_at (l : LeafT) (h : l.ok) (k : Nat) (hk : k < 5) : recE (recsOf l) k ((recsOf l).getD k ⟨0, []⟩) = 0 := by
 have e1 := h.id.1
 have e2 := h.ow.1
 have e3 := h.sp.1
 have e4 := eight_len' l.am
 have e5 := eight_len' l.sp.s
 match k, hk with
 | 0, _ => simp [recE, recsOf, e1]
 | 1, _ => simp [recE, recsOf, e4]
 | 2, _ => simp [recE, recsOf, e2]
 | 3, _ => simp [recE, recsOf]
 | 4, _ => simp [recE, recsOf, e3, e5]
theorem tvAt_up5 {rs : List Rec} {k : Nat} {b : List Nat} {r : Rec} (h : tvAt rs k = .ok b) (hr : rs[k]? = some r) (h0 : recE rs k r = 0) : tvAt rs (k + 1) = .ok (b ++ recB r) := by
 rw [tvAt_succ h hr, if_pos h0]
theorem enc_leaf (l : LeafT) (h : l.ok) : tvEnc (recsOf l) = .ok (leafB l) := by
 have t1 := tvAt_up5 (rs := recsOf l) (k := 0) (b := []) rfl rfl (recE_at l h 0 (by decide))
 have t2 := tvAt_up5 t1 rfl (recE_at l h 1 (by decide))
 have t3 := tvAt_up5 t2 rfl (recE_at l h 2 (by decide))
 have t4 := tvAt_up5 t3 rfl (recE_at l h 3 (by decide))
 have t5 := tvAt_up5 t4 rfl (recE_at l h 4 (by decide))
 have hl : (recsOf l).length = 5 := rfl
 unfold tvEnc
 rw [hl, if_neg (by decide), t5]
 simp [leafB, recsOf, List.append_assoc]
def recBad (i : Nat) (r : Rec) : Nat := if r.t ≠ 2 * i then 23 else if r.v.length ≠ [32, 8, 32, 1, 40].getD i 0 then 21 else 0
def fstBad (rs : List Rec) : Nat → Nat
 | 0 => 0
 | k + 1 => if fstBad rs k ≠ 0 then fstBad rs k else recBad k (rs.getD k ⟨0, []⟩)
def recV (rs : List Rec) (i : Nat) : List Nat := (rs.getD i ⟨0, []⟩).v
def mkLf (rs : List Rec) : LeafT := ⟨recV rs 0, numB (recV rs 1), recV rs 2, (numB (recV rs 3) : Int), ⟨(recV rs 4).take 32, numB ((recV rs 4).drop 32)⟩⟩
def ldecR (rs : List Rec) : Except Nat LeafT :=
 if rs.length ≠ 5 then .error 21 else if fstBad rs 5 ≠ 0 then .error (fstBad rs 5) else if leafBad (mkLf rs) = true then .error 1 else .ok (mkLf rs)
def ldec (b : List Nat) : Except Nat LeafT :=
 match tdec b with
 | .error e => .error e
 | .ok rs => ldecR rs
theorem fst_le {rs : List Rec} {k : Nat} (h : fstBad rs (k + 1) = 0) : fstBad rs k = 0 ∧ recBad k (rs.getD k ⟨0, []⟩) = 0 := by
 unfold fstBad at h
 by_cases c : fstBad rs k ≠ 0
 · rw [if_pos c] at h; exact absurd h c
 · rw [if_neg c] at h; exact ⟨by omega, h⟩
theorem bad_at {i : Nat} {r : Rec} (h : recBad i r = 0) : r.t = 2 * i ∧ r.v.length = [32, 8, 32, 1, 40].getD i 0 := by
 unfold recBad at h
 split at h
 · cases h
 · split at h
   · cases h
   · exact ⟨by omega, by omega⟩
theorem fst_all {rs : List Rec} (h : fstBad rs 5 = 0) : ∀ i, i < 5 → (rs.getD i ⟨0, []⟩).t = 2 * i ∧ (rs.getD i ⟨0, []⟩).v.length = [32, 8, 32, 1, 40].getD i 0 := by
 obtain ⟨h4, b4⟩ := fst_le h
 obtain ⟨h3, b3⟩ := fst_le h4
 obtain ⟨h2, b2⟩ := fst_le h3
 obtain ⟨h1, b1⟩ := fst_le h2
 obtain ⟨h0, b0⟩ := fst_le h1
 intro i hi
 match i, hi with
 | 0, _ => exact bad_at b0
 | 1, _ => exact bad_at b1
 | 2, _ => exact bad_at b2
 | 3, _ => exact bad_at b3
 | 4, _ => exact bad_at b4
theorem numB_lt8 (l : List Nat) (h : l.length = 8) (hl : ∀ y ∈ l, y < 256) : numB l < 18446744073709551616 := by
 have := numB_lt l hl
 rw [h] at this
 exact this
theorem numB_one (l : List Nat) (h : l.length = 1) : l = [numB l] := by
 match l, h with
 | [a], _ => simp [numB]
theorem numB_mem {l : List Nat} (h : l.length = 1) : numB l ∈ l := by
 match l, h with
 | [a], _ => simp [numB]
theorem mk_ok {rs : List Rec} (h : fstBad rs 5 = 0) (hv : ∀ i, ∀ y ∈ recV rs i, y < 256) : (mkLf rs).ok := by
 have a := fst_all h
 have l0 : (recV rs 0).length = 32 := (a 0 (by decide)).2
 have l1 : (recV rs 1).length = 8 := (a 1 (by decide)).2
 have l2 : (recV rs 2).length = 32 := (a 2 (by decide)).2
 have l3 : (recV rs 3).length = 1 := (a 3 (by decide)).2
 have l4 : (recV rs 4).length = 40 := (a 4 (by decide)).2
 have n3 : numB (recV rs 3) < 256 := by
  exact hv 3 (numB (recV rs 3)) (numB_mem l3)
 refine ⟨⟨l0, hv 0⟩, numB_lt8 _ l1 (hv 1), ⟨l2, hv 2⟩, by show (-9223372036854775808 : Int) ≤ (numB (recV rs 3) : Int); omega, by show (numB (recV rs 3) : Int) ≤ 9223372036854775807; omega, ⟨by show ((recV rs 4).take 32).length = 32; rw [List.length_take, l4]; rfl, fun y hy => hv 4 y (List.mem_of_mem_take hy)⟩, ?_⟩
 exact numB_lt8 _ (by rw [List.length_drop, l4]) (fun y hy => hv 4 y (List.mem_of_mem_drop hy))
theorem tdec_lt {b : List Nat} {rs : List Rec} (hb : ∀ y ∈ b, y < 256) (h : tdec b = .ok rs) : ∀ i, ∀ y ∈ recV rs i, y < 256 := by
 obtain ⟨h1, h2, h3⟩ := enc_dec hb h
 unfold tvEnc at h1
 rw [if_neg (by omega)] at h1
 have h4 := (tvAt_flat rs.length b (Nat.le_refl _) h1).1
 rw [List.take_length] at h4
 intro i y hy
 unfold recV at hy
 by_cases c : i < rs.length
 · have e : rs.getD i ⟨0, []⟩ ∈ rs := by rw [List.getD_eq_getElem?_getD, List.getElem?_eq_getElem c]; exact List.getElem_mem _
   refine hb y ?_
   rw [h4]
   exact List.mem_flatMap.2 ⟨_, e, by unfold recB; exact List.mem_append_right _ (List.mem_append_right _ hy)⟩
 · rw [List.getD_eq_getElem?_getD, List.getElem?_eq_none (by omega)] at hy
   cases hy
theorem ldec_enc {l : LeafT} (h : l.ok) (hB : leafBad l = false) : ldec (leafB l) = .ok l := by
 have h1 := dec_enc (recs_t l) (enc_leaf l h)
 have p1 : 0 ≤ l.pl ∧ l.pl < 256 := by
  unfold leafBad at hB
  have := of_decide_eq_false hB
  omega
 have e1 := h.id.1
 have e2 := h.ow.1
 have e3 := h.sp.1
 have e4 := eight_len' l.am
 have e5 := eight_len' l.sp.s
 have hf : fstBad (recsOf l) 5 = 0 := by
  simp [fstBad, recBad, recsOf, e1, e2, e3, e4, e5]
 have hm : mkLf (recsOf l) = l := by
  have q1 : numB (eight l.am) = l.am := numB_eight _ h.am
  have q2 : numB (eight l.sp.s) = l.sp.s := numB_eight _ h.ss
  have q3 : ((numB [plB l] : Nat) : Int) = l.pl := by
   show (((0 * 256 + plB l : Nat)) : Int) = l.pl
   unfold plB
   omega
  have q4 : (l.sp.h ++ eight l.sp.s).take 32 = l.sp.h := take_app e3
  have q5 : (l.sp.h ++ eight l.sp.s).drop 32 = eight l.sp.s := by rw [← e3, List.drop_left]
  show (⟨l.id, numB (eight l.am), l.ow, ((numB [plB l] : Nat) : Int), ⟨(l.sp.h ++ eight l.sp.s).take 32, numB ((l.sp.h ++ eight l.sp.s).drop 32)⟩⟩ : LeafT) = l
  rw [q1, q3, q4, q5, q2]
 unfold ldec
 rw [h1]
 show ldecR (recsOf l) = _
 unfold ldecR
 rw [if_neg (by show ¬ (5 ≠ 5); simp), if_neg (by omega), hm, hB]
 rfl
theorem leafB_lt (l : LeafT) (h : l.ok) : ∀ y ∈ leafB l, y < 256 := by
 intro y hy
 obtain ⟨r, hr, hy⟩ := List.mem_flatMap.1 hy
 exact recB_lt r (recs_lt l h r hr) y hy
end Go.Proofs.YtniakgoefkbkhaaGreatDoor
