/- Parts: leaves made to be all that comes of one transfer; Way; Of. -/
import Derived.Test.YtknfbccbdiidjaaGreatDoorWs
import Derived.Test.YtknfbccbdiidjaaGreatDoorULf3
import Derived.Test.YtknfbccbdiidjaaGreatDoorUPf6
namespace Go.Proofs.YtknfbccbdiidjaaGreatDoor
set_option linter.unusedVariables false
set_option linter.unusedSimpArgs false
open Go.ChangeShapes Go.WideShapes Go.ChangeAt Go.RowKit Go.Maps

def turnTo {α : Type} (f : Nat → α → α) (k : Nat) (xs : List α) : List α := xs.mapIdx fun i x => if i < k then f i x else x
theorem turnTo_len {α : Type} (f : Nat → α → α) (k : Nat) (xs : List α) : (turnTo f k xs).length = xs.length := by simp [turnTo]
theorem turnTo_zero {α : Type} (f : Nat → α → α) (xs : List α) : turnTo f 0 xs = xs := by
 apply List.ext_getElem?
 intro i
 simp [turnTo]
theorem turnTo_get {α : Type} (f : Nat → α → α) (k : Nat) (xs : List α) (i : Nat) (x : α) (h : xs[i]? = some x) : (turnTo f k xs)[i]? = some (if i < k then f i x else x) := by
 simp [turnTo, h]
theorem turnTo_succ {α : Type} (f : Nat → α → α) (k : Nat) (xs : List α) (x : α) (h : xs[k]? = some x) : (turnTo f k xs).set k (f k x) = turnTo f (k + 1) xs := by
 apply List.ext_getElem?
 intro i
 by_cases e : i = k
 · subst e
   have hi := (List.getElem?_eq_some_iff.1 h).1
   rw [List.getElem?_set_self (by rw [turnTo_len]; exact hi), turnTo_get f _ xs i x h, if_pos (Nat.lt_succ_self i)]
 · rw [List.getElem?_set_ne (fun h => e h.symm)]
   simp only [turnTo, List.getElem?_mapIdx]
   cases xs[i]? with
   | none => rfl
   | some y =>
    simp only [Option.map_some]
    congr 1
    by_cases h1 : i < k
    · rw [if_pos h1, if_pos (by omega)]
    · rw [if_neg h1, if_neg (by omega)]
theorem turnTo_ok {α : Type} (f : Nat → α → α) (k : Nat) (xs : List α) (p : α → Prop) (h : ∀ x ∈ xs, p x) (hf : ∀ i x, i < xs.length → p x → p (f i x)) : ∀ x ∈ turnTo f k xs, p x := by
 intro y hy
 obtain ⟨i, hi⟩ := List.getElem?_of_mem hy
 have hil := (List.getElem?_eq_some_iff.1 hi).1
 rw [turnTo_len] at hil
 have hx := List.getElem?_eq_getElem hil
 rw [turnTo_get f k xs i _ hx] at hi
 injection hi with hi
 rw [← hi]
 have hp := h _ (List.mem_of_getElem? hx)
 split
 · exact hf i _ hil hp
 · exact hp
def plF (i : Nat) (l : LeafT) : LeafT := { l with pl := (i : Int) }
def spF (r : Nd) (_ : Nat) (l : LeafT) : LeafT := { l with sp := r }
theorem plF_ok {l : LeafT} (h : l.ok) (i : Nat) (hi : i ≤ 256) : (plF i l).ok := ⟨h.id, h.am, h.ow, by show -9223372036854775808 ≤ (i : Int); omega, by show (i : Int) ≤ 9223372036854775807; omega, h.sp, h.ss⟩
theorem spF_ok {l : LeafT} (h : l.ok) (r : Nd) (hr : IsHash r.h) (hs : r.s < 18446744073709551616) (i : Nat) : (spF r i l).ok := ⟨h.id, h.am, h.ow, h.lo, h.hi, hr, hs⟩
theorem plF_cells {l : LeafT} (h : l.ok) (i : Nat) (hi : i ≤ 256) : ∀ j, j < 99 → (plF i l).cells[j]? = if 65 ≤ j ∧ j < 65 + [Value.int .i64 (i : Int)].length then [Value.int .i64 (i : Int)][j - 65]? else l.cells[j]? := by
 intro j hj
 have h' := plF_ok h i hi
 by_cases e : j = 65
 · subst e
   rw [if_pos (by simp), LeafT.at_pl h']; rfl
 · rw [if_neg (by simp; omega)]
   rcases Nat.lt_or_ge j 65 with q | q
   · rcases Nat.lt_or_ge j 33 with q2 | q2
     · rcases Nat.lt_or_ge j 32 with q3 | q3
       · rw [LeafT.at_id h j q3, LeafT.at_id h' j q3]; rfl
       · obtain rfl : j = 32 := by omega
         rw [LeafT.at_am h, LeafT.at_am h']; rfl
     · obtain ⟨d, rfl⟩ : ∃ d, j = 33 + d := ⟨j - 33, by omega⟩
       rw [LeafT.at_ow h d (by omega), LeafT.at_ow h' d (by omega)]; rfl
   · obtain ⟨d, rfl⟩ : ∃ d, j = 66 + d := ⟨j - 66, by omega⟩
     rw [LeafT.at_sp h, LeafT.at_sp h']; rfl
theorem spF_cells {l : LeafT} (h : l.ok) (r : Nd) (hr : IsHash r.h) (hs : r.s < 18446744073709551616) (i : Nat) : ∀ j, j < 99 → (spF r i l).cells[j]? = if 66 ≤ j ∧ j < 66 + (ndV r).length then (ndV r)[j - 66]? else l.cells[j]? := by
 intro j hj
 have h' := spF_ok h r hr hs i
 rw [ndV_len hr]
 by_cases e : 66 ≤ j
 · obtain ⟨d, rfl⟩ : ∃ d, j = 66 + d := ⟨j - 66, by omega⟩
   rw [if_pos (by omega), LeafT.at_sp h', Nat.add_sub_cancel_left]; rfl
 · rw [if_neg (by omega)]
   rcases Nat.lt_or_ge j 65 with q | q
   · rcases Nat.lt_or_ge j 33 with q2 | q2
     · rcases Nat.lt_or_ge j 32 with q3 | q3
       · rw [LeafT.at_id h j q3, LeafT.at_id h' j q3]; rfl
       · obtain rfl : j = 32 := by omega
         rw [LeafT.at_am h, LeafT.at_am h']; rfl
     · obtain ⟨d, rfl⟩ : ∃ d, j = 33 + d := ⟨j - 33, by omega⟩
       rw [LeafT.at_ow h d (by omega), LeafT.at_ow h' d (by omega)]; rfl
   · obtain rfl : j = 65 := by omega
     rw [LeafT.at_pl h, LeafT.at_pl h']; rfl
theorem info_leafT : ∃ Z : Array Value, (Tryz.prog.info? 32).map (fun i => (i.zero, i.size, i.bytes)) = some (some (.agg Z), 99, 120) ∧ Z.size = 99 :=
 ⟨(LeafT.cells ⟨List.replicate 32 0, 0, List.replicate 32 0, 0, zNd⟩).toArray, by kernel_rfl, by kernel_rfl⟩
theorem len_cells {ls : List LeafT} (h : ∀ l ∈ ls, l.ok) : ∀ l ∈ ls, l.cells.length = 99 := fun l hl => LeafT.len (h l hl)
def placed (ls : List LeafT) : List LeafT := turnTo plF ls.length ls
def splitL (r : Nd) (ls : List LeafT) : List LeafT := turnTo (spF r) ls.length ls
theorem tlAt_nz {K s0 : List Wd} {ls : List LeafT} : ∀ {k : Nat}, ¬ tlAt K s0 ls k = .error 0
 | 0 => fun e => by cases e
 | k + 1 => fun e => by
  cases h : tlAt K s0 ls k with
  | error x =>
   rw [tlAt_err h (k + 1) (Nat.le_succ k)] at e
   injection e with e
   subst e
   exact tlAt_nz h
  | ok T =>
   cases hl : ls[k]? with
   | none =>
    have e2 : tlAt K s0 ls (k + 1) = .ok T := by
      unfold tlAt
      rw [h]
      simp only [hl]
    rw [e2] at e; cases e
   | some l =>
    rw [tlAt_succ h hl, tlStep] at e
    split at e
    · cases e
    · split at e
      · cases e
      · rename_i h3
        injection e with e
        exact h3 e
def PartsP (K s0 : List Wd) (w : World) (ls : List LeafT) (n : Nat) (R : Except Int (List Lf)) (e : Ending) (w' : World) : Prop :=
 Below w.heap.size w w' ∧ match R with
  | .ok T => ∃ a c, e = .returned (.tuple #[.slice a n c, .int .i64 0]) ∧ w'.ownsRow w.heap.size 32 99 (.slice a n c) n ((splitL (partNd K s0 256 T) (placed ls)).flatMap LeafT.cells)
  | .error x => e = .returned (.tuple #[.slice none 0 0, .int .i64 x])
theorem at_leaf0 (b n c k : Nat) (hk : k < n) (w : World) : (Instr.indexAt 22 (.slice (some ⟨b, 0, none⟩) n c) (.int .i64 (k : Int))).run Tryz.prog w = .ok (.pointer (some ⟨b, k * 99, none⟩)) w := by
 have := at_leaf b 0 n c k hk w
 rwa [Nat.zero_add] at this
theorem parts_fits {K s0 : List Wd} {S : Nat → Prop} {w : World} {g : Nat} {T : List Lf} (h : Tr K s0 S w g T) : (partNd K s0 256 T).s < 18446744073709551616 := by rw [root_sum h]; exact h.sum
set_option maxRecDepth 100000 in
set_option maxHeartbeats 4000000 in
theorem lfParts_is (K s0 : List Wd) (w : World) (hT : Tabs K s0 w) (A : Option Addr) (n c : Nat) (ls : List LeafT) (hls : RowsAt LeafT.cells 99 w A n ls) (hok : ∀ l ∈ ls, l.ok) (hn : n ≤ 256) :
  Calls Tryz.prog 40 #[.slice A n c] w (PartsP K s0 w ls n (tlAt K s0 (placed ls) n)) := by
 obtain ⟨Z, hinfo, hzs⟩ := info_leafT
 obtain ⟨Zn, hzn, hzns, hznn, -⟩ := zero_node
 have hlow := hT.low
 have hlen := hls.len
 have HT := Lib.hid hT
 have HLS := Lib.hid hls
 have HOK := Lib.hid hok
 have HAT := Lib.hid at_leaf0
 have HINFO := Lib.hid hinfo
 have HZS := Lib.hid hzs
 have H1 := Lib.hid (show ∀ x ∈ ls, ∀ u ∈ x.cells, u.oneCell' = true from fun x _ u hu => by
  have := LeafT.one x
  rw [Array.all_eq_true'] at this
  exact this u (by simpa using hu))
 clear hls hok hT hinfo hzs
 go_enter Tryz.func40, Tryz.ntmps40
 go_wp2_with (refine wpList_append_rows rfl _ _ 22 rfl w.heap.size 32 (.agg Z) 120 Tryz.underlying22 HINFO.out HZS.out (by decide) _ 0 [] rfl (World.ownsRow_nil _ _ _ _) A n c ls rfl HLS.out H1.out (by unfold maxLen; omega) (by omega) (Nat.le_refl _) ?_)
 intro oa oc w2 hown hgr
 have hb2 : Below w.heap.size w w2 := (Below.refl _ _).grown hgr (Nat.le_refl _) (by simp [Value.ownBlock])
 have HOW := Lib.hid hown
 have HB2 := Lib.hid hb2
 clear hown hgr hb2
 go_wp2_with fail
 go_loopw [14] (fun i wr => ∃ k : Nat, i = .int .i64 (k : Int) ∧ k ≤ n ∧ wr.ownsRow w.heap.size 32 99 (.slice oa n oc) n ((turnTo plF k ls).flatMap LeafT.cells) ∧ Below w.heap.size w wr) (fun i _ => n - (intOf i).toNat)
 case atStart => exact ⟨0, rfl, Nat.zero_le _, by rw [turnTo_zero]; simpa using HOW.out, HB2.out⟩
 case round =>
  obtain ⟨k, rfl, hk, hown, hbel⟩ := hrel
  have HOK1 := Lib.hid (show ∀ x ∈ turnTo plF k ls, x.ok from turnTo_ok plF k ls LeafT.ok HOK.out (fun i x hi hx => plF_ok hx i (by omega)))
  by_cases hlt : k < n
  · have hlt' : (k : Int) < (n : Int) := by omega
    obtain ⟨x, hx⟩ : ∃ x, ls[k]? = some x := ⟨_, List.getElem?_eq_getElem (by omega)⟩
    have hx2 := turnTo_get plF k ls k x hx
    rw [if_neg (Nat.lt_irrefl k)] at hx2
    have hxok := HOK.out x (List.mem_of_getElem? hx)
    obtain ⟨b, hA, hbb, hth, hown2, hk2⟩ := own_set hown (by rw [turnTo_len]; exact hlen) (len_cells HOK1.out) hlt x (plF k x) hx2 (LeafT.len (plF_ok hxok k (by omega))) 65 [.int .i64 (k : Int)] (by simp) (plF_cells hxok k (by omega))
    subst hA
    rw [turnTo_succ plF k ls x hx] at hown2
    obtain ⟨t1, t2⟩ := hth 0 (by simp)
    rw [Nat.add_zero] at t1 t2
    obtain ⟨v65, t1⟩ := Option.isSome_iff_exists.1 t1
    have hat := HAT.out b n oc k hlt
    have HOW2 := Lib.hid hown2
    have HBE2 := Lib.hid (hbel.trans (hk2.below hbel.size (fun j e => by rw [show j = b from e]; exact hbb)))
    clear hown2 hk2 hown hx hx2 hxok hth
    go_wp2_with fail
    go_roundw
    case rel => exact ⟨k + 1, by go_num, by omega, HOW2.out, HBE2.out⟩
    case measure => simp [intOf]; omega
  · obtain rfl : k = n := by omega
    have hlt' : ¬ (k : Int) < (k : Int) := by omega
    have hpl : turnTo plF k ls = placed ls := by rw [placed, hlen]
    rw [hpl] at hown HOK1
    have hr0 := (own_rows hown (by rw [placed, turnTo_len]; exact hlen) (len_cells HOK1.out)).1
    have hcall := lfTree_is K s0 wr (HT.out.below hbel hlow) oa k oc (placed ls) hr0 HOK1.out (by omega)
    obtain ⟨R, hR⟩ : ∃ R, R = tlAt K s0 (placed ls) k := ⟨_, rfl⟩
    rw [← hR] at hcall
    have HRQ := Lib.hid hR
    have HCALL := Lib.hid hcall
    have HOWR := Lib.hid hown
    have HBR := Lib.hid hbel
    have HBK := Lib.hid (show ∀ j, (Value.slice oa k oc).ownBlock = some j → j < wr.heap.size from fun j e => by
     have h9 := (own_rows hown (by rw [placed, turnTo_len]; exact hlen) (len_cells HOK1.out)).2
     cases oa with
     | none => cases e
     | some a => injection e with e; rw [← e]; exact (h9 a rfl).2)
    clear hcall hr0 hown hbel hpl
    go_wp2_with fail
    refine HCALL.out.mono ?_
    rintro _ w5 ⟨hb5, hm⟩
    have hb5' := HBR.out.trans (hb5.mono HBR.out.size)
    have hown5 := own_kept HOWR.out (Kept.of_below (S := fun _ => False) hb5) (fun _ _ e => e)
    cases R with
    | error x =>
     dsimp only at hm
     subst hm
     have HB5 := Lib.hid hb5'
     have hxn : ¬ x = 0 := by
      intro e
      subst e
      exact tlAt_nz hR.symm
     have hx2 : (x != 0) = true := by rw [bne_iff_ne]; exact hxn
     clear hb5 hb5' hown5 hxn hR
     go_wp2_with fail
     go_ret2
     refine ⟨HB5.out, ?_⟩
     rw [← HRQ.out]
     exact rfl
    | ok T =>
     dsimp only at hm
     obtain ⟨g, rfl, htr, hg⟩ := hm
     have HB5 := Lib.hid hb5'
     have HSZ := Lib.hid hb5.size
     have HO5 := Lib.hid hown5
     have HTR := Lib.hid htr
     have HRT := Lib.hid (show ∀ v : World, Tr K s0 (fun j => wr.heap.size ≤ j) v g T → Tabs K s0 v → Calls Tryz.prog 46 #[.pointer (some ⟨g, 0, none⟩)] v fun e w' => e = .returned (.agg (ndV (partNd K s0 256 T)).toArray) ∧ Tr K s0 (fun j => wr.heap.size ≤ j) w' g T ∧ Kept (fun j => wr.heap.size ≤ j) v w' from fun v h1 h2 => tr_root h1 h2 (by have := HBR.out.size; have := HT.out.low; omega))
     have hrh := part_hash K s0 HT.out.len 256 T
     have hrs := parts_fits htr
     obtain ⟨r, hrr⟩ : ∃ r, r = partNd K s0 256 T := ⟨_, rfl⟩
     rw [← hrr] at hrh hrs HRT
     have HRR := Lib.hid hrr
     clear hrr
     have HRH := Lib.hid hrh
     have HRS := Lib.hid hrs
     have HT5 := Lib.hid (HT.out.below hb5' hlow)
     clear hb5 hb5' hown5 htr hrh hrs hg
     go_wp2_with fail
     refine (HRT.out w5 HTR.out HT5.out).mono ?_
     rintro _ w6 ⟨rfl, htr6, hk6⟩
     have hb6 := HB5.out.trans (hk6.below (by have := HB5.out.size; have := HBR.out.size; have := HSZ.out; omega) (fun j e => by have e' : wr.heap.size ≤ j := e; have := HBR.out.size; omega))
     have hown6 := own_kept HO5.out hk6 (fun j e e2 => by have e' : wr.heap.size ≤ j := e2; have := HBK.out j e; omega)
     obtain ⟨h7, hb7⟩ := new_row w6 30 Zn (ndV r).toArray
     have hown7 := own_kept hown6 (Kept.of_below (S := fun _ => False) hb7) (fun _ _ e => e)
     have HB7 := Lib.hid (hb6.trans (hb7.mono hb6.size))
     have HO7 := Lib.hid hown7
     have H7 := Lib.hid h7
     have SZN := Lib.hid (show (Tryz.prog.info? 30).map (·.size) = some (ndV r).toArray.size by rw [List.size_toArray, ndV_len HRH.out]; kernel_rfl)
     have HZN := Lib.hid (show Zn.size = (ndV r).toArray.size by rw [hzns, List.size_toArray, ndV_len HRH.out])
     clear hb6 hown6 h7 hb7 hown7 htr6 hk6 HRT HTR hzns
     go_wp2_with (refine wpList_store_row rfl 30 (.tmp 8) (.tmp 32) rfl w6.heap.size (ndV r).toArray rfl rfl 30 Zn (heap_alloc_new w6 _) SZN.out HZN.out (ndV_one r) ?_)
     obtain ⟨W7, hW7⟩ : ∃ W, W = (w6.alloc (.cells Zn 30)).setRow w6.heap.size (ndV r).toArray := ⟨_, rfl⟩
     rw [← hW7] at HB7 HO7 H7 ⊢
     clear hW7 hzn HZN
     generalize w6.heap.size = G at H7 ⊢
     go_loopw [35] (fun i wx => ∃ k2 : Nat, i = .int .i64 (k2 : Int) ∧ k2 ≤ k ∧ wx.ownsRow w.heap.size 32 99 (.slice oa k oc) k ((turnTo (spF r) k2 (placed ls)).flatMap LeafT.cells) ∧ Below w.heap.size w wx ∧ Has wx G 30 (ndV r).toArray) (fun i _ => k - (intOf i).toNat)
     case atStart => exact ⟨0, rfl, Nat.zero_le _, by rw [turnTo_zero]; exact HO7.out, HB7.out, H7.out⟩
     case round =>
      obtain ⟨k2, rfl, hk2, hown, hbel, hbx⟩ := hrel
      have HOK2 := Lib.hid (show ∀ x ∈ turnTo (spF r) k2 (placed ls), x.ok from turnTo_ok (spF r) k2 (placed ls) LeafT.ok HOK1.out (fun i x hi hx => spF_ok hx r HRH.out HRS.out i))
      by_cases hlt2 : k2 < k
      · have hlt2' : (k2 : Int) < (k : Int) := by omega
        obtain ⟨x, hx⟩ : ∃ x, (placed ls)[k2]? = some x := ⟨_, List.getElem?_eq_getElem (by rw [placed, turnTo_len]; omega)⟩
        have hx2 := turnTo_get (spF r) k2 (placed ls) k2 x hx
        rw [if_neg (Nat.lt_irrefl k2)] at hx2
        have hxok := HOK1.out x (List.mem_of_getElem? hx)
        obtain ⟨b, hA, hbb, hth, hown2, hk2'⟩ := own_set hown (by rw [turnTo_len, placed, turnTo_len]; exact hlen) (len_cells HOK2.out) hlt2 x (spF r k2 x) hx2 (LeafT.len (spF_ok hxok r HRH.out HRS.out k2)) 66 (ndV r) (by rw [ndV_len HRH.out]; decide) (spF_cells hxok r HRH.out HRS.out k2)
        have hne : b ≠ G := own_has_ne hown hbx (by decide) b (by rw [hA]; rfl)
        subst hA
        rw [turnTo_succ (spF r) k2 (placed ls) x hx] at hown2
        have hat := HAT.out b k oc k2 hlt2
        have HOW2 := Lib.hid hown2
        have HTH := Lib.hid hth
        have HBE2 := Lib.hid (hbel.trans (hk2'.below hbel.size (fun j e => by rw [show j = b from e]; exact hbb)))
        have HBX := Lib.hid hbx
        have HBX2 := Lib.hid (hbx.kept hk2' (fun e => hne e.symm))
        clear hown2 hk2' hown hx hx2 hxok hth hbel hbx hne
        go_wp2_with (first
         | (refine wpList_load_row rfl 30 (.tmp 8) rfl G rfl 30 (ndV r).toArray (0, 0) _ HBX.out Tryz.underlying30 rfl SZN.out ?_)
         | (refine wpList_store_mid rfl 30 (.tmp 42) (.tmp 40) rfl b (k2 * 99 + 66) (ndV r).toArray rfl rfl (by rw [List.size_toArray]; exact HTH.out) SZN.out (ndV_one r) ?_))
        go_roundw
        case rel => exact ⟨k2 + 1, by go_num, by omega, HOW2.out, HBE2.out, HBX2.out⟩
        case measure => simp [intOf]; omega
      · obtain rfl : k2 = k := by omega
        have hlt2' : ¬ (k2 : Int) < (k2 : Int) := by omega
        have hsp : turnTo (spF r) k2 (placed ls) = splitL r (placed ls) := by rw [splitL, placed, turnTo_len, hlen]
        rw [hsp] at hown
        have HF := Lib.hid (And.intro hbel hown)
        clear hown hbel hbx hsp
        go_wp2_with fail
        go_ret2
        refine ⟨HF.out.1, ?_⟩
        rw [← HRQ.out]
        exact ⟨oa, oc, rfl, by rw [← HRR.out]; exact HF.out.2⟩
end Go.Proofs.YtknfbccbdiidjaaGreatDoor

