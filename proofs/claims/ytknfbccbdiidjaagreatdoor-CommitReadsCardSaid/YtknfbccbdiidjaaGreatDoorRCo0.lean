/- Parts: leaves made to be all that comes of one transfer; Way; Of. -/
import Derived.Test.YtknfbccbdiidjaaGreatDoorWs
import Derived.Test.YtknfbccbdiidjaaGreatDoorRLf3
import Derived.Test.YtknfbccbdiidjaaGreatDoorRPf6
import Derived.Test.YtknfbccbdiidjaaGreatDoorRFd
import Derived.Test.YtknfbccbdiidjaaGreatDoorRFh
namespace Go.Proofs.YtknfbccbdiidjaaGreatDoor
set_option linter.unusedVariables false
set_option linter.unusedSimpArgs false
open Go.ChangeShapes Go.WideShapes Go.ChangeAt Go.RowKit Go.Maps

def turnTo {α : Type} (f : Nat → α → α) (k : Nat) (xs : List α) : List α := xs.mapIdx fun i x => if i < k then f i x else x
theorem turnTo_len {α : Type} (f : Nat → α → α) (k : Nat) (xs : List α) : (turnTo f k xs).length = xs.length := by simp [turnTo]
theorem turnTo_zero {α : Type} (f : Nat → α → α) (xs : List α) : turnTo f 0 xs = xs := by
 apply List.ext_getElem?
 intro i
 simp [turnTo]
theorem turnTo_get {α : Type} (f : Nat → α → α) (k : Nat) (xs : List α) (i : Nat) (x : α) (h : xs[i]? = some x) : (turnTo f k xs)[i]? = some (if i < k then f i x else x) := by
 simp [turnTo, h]
theorem turnTo_succ {α : Type} (f : Nat → α → α) (k : Nat) (xs : List α) (x : α) (h : xs[k]? = some x) : (turnTo f k xs).set k (f k x) = turnTo f (k + 1) xs := by
 apply List.ext_getElem?
 intro i
 by_cases e : i = k
 · subst e
   have hi := (List.getElem?_eq_some_iff.1 h).1
   rw [List.getElem?_set_self (by rw [turnTo_len]; exact hi), turnTo_get f _ xs i x h, if_pos (Nat.lt_succ_self i)]
 · rw [List.getElem?_set_ne (fun h => e h.symm)]
   simp only [turnTo, List.getElem?_mapIdx]
   cases xs[i]? with
   | none => rfl
   | some y =>
    simp only [Option.map_some]
    congr 1
    by_cases h1 : i < k
    · rw [if_pos h1, if_pos (by omega)]
    · rw [if_neg h1, if_neg (by omega)]
theorem turnTo_ok {α : Type} (f : Nat → α → α) (k : Nat) (xs : List α) (p : α → Prop) (h : ∀ x ∈ xs, p x) (hf : ∀ i x, i < xs.length → p x → p (f i x)) : ∀ x ∈ turnTo f k xs, p x := by
 intro y hy
 obtain ⟨i, hi⟩ := List.getElem?_of_mem hy
 have hil := (List.getElem?_eq_some_iff.1 hi).1
 rw [turnTo_len] at hil
 have hx := List.getElem?_eq_getElem hil
 rw [turnTo_get f k xs i _ hx] at hi
 injection hi with hi
 rw [← hi]
 have hp := h _ (List.mem_of_getElem? hx)
 split
 · exact hf i _ hil hp
 · exact hp
def plF (i : Nat) (l : LeafT) : LeafT := { l with pl := (i : Int) }
def spF (r : Nd) (_ : Nat) (l : LeafT) : LeafT := { l with sp := r }
theorem plF_ok {l : LeafT} (h : l.ok) (i : Nat) (hi : i ≤ 256) : (plF i l).ok := ⟨h.id, h.am, h.ow, by show -9223372036854775808 ≤ (i : Int); omega, by show (i : Int) ≤ 9223372036854775807; omega, h.sp, h.ss⟩
theorem spF_ok {l : LeafT} (h : l.ok) (r : Nd) (hr : IsHash r.h) (hs : r.s < 18446744073709551616) (i : Nat) : (spF r i l).ok := ⟨h.id, h.am, h.ow, h.lo, h.hi, hr, hs⟩
theorem plF_cells {l : LeafT} (h : l.ok) (i : Nat) (hi : i ≤ 256) : ∀ j, j < 99 → (plF i l).cells[j]? = if 65 ≤ j ∧ j < 65 + [Value.int .i64 (i : Int)].length then [Value.int .i64 (i : Int)][j - 65]? else l.cells[j]? := by
 intro j hj
 have h' := plF_ok h i hi
 by_cases e : j = 65
 · subst e
   rw [if_pos (by simp), LeafT.at_pl h']; rfl
 · rw [if_neg (by simp; omega)]
   rcases Nat.lt_or_ge j 65 with q | q
   · rcases Nat.lt_or_ge j 33 with q2 | q2
     · rcases Nat.lt_or_ge j 32 with q3 | q3
       · rw [LeafT.at_id h j q3, LeafT.at_id h' j q3]; rfl
       · obtain rfl : j = 32 := by omega
         rw [LeafT.at_am h, LeafT.at_am h']; rfl
     · obtain ⟨d, rfl⟩ : ∃ d, j = 33 + d := ⟨j - 33, by omega⟩
       rw [LeafT.at_ow h d (by omega), LeafT.at_ow h' d (by omega)]; rfl
   · obtain ⟨d, rfl⟩ : ∃ d, j = 66 + d := ⟨j - 66, by omega⟩
     rw [LeafT.at_sp h, LeafT.at_sp h']; rfl
theorem spF_cells {l : LeafT} (h : l.ok) (r : Nd) (hr : IsHash r.h) (hs : r.s < 18446744073709551616) (i : Nat) : ∀ j, j < 99 → (spF r i l).cells[j]? = if 66 ≤ j ∧ j < 66 + (ndV r).length then (ndV r)[j - 66]? else l.cells[j]? := by
 intro j hj
 have h' := spF_ok h r hr hs i
 rw [ndV_len hr]
 by_cases e : 66 ≤ j
 · obtain ⟨d, rfl⟩ : ∃ d, j = 66 + d := ⟨j - 66, by omega⟩
   rw [if_pos (by omega), LeafT.at_sp h', Nat.add_sub_cancel_left]; rfl
 · rw [if_neg (by omega)]
   rcases Nat.lt_or_ge j 65 with q | q
   · rcases Nat.lt_or_ge j 33 with q2 | q2
     · rcases Nat.lt_or_ge j 32 with q3 | q3
       · rw [LeafT.at_id h j q3, LeafT.at_id h' j q3]; rfl
       · obtain rfl : j = 32 := by omega
         rw [LeafT.at_am h, LeafT.at_am h']; rfl
     · obtain ⟨d, rfl⟩ : ∃ d, j = 33 + d := ⟨j - 33, by omega⟩
       rw [LeafT.at_ow h d (by omega), LeafT.at_ow h' d (by omega)]; rfl
   · obtain rfl : j = 65 := by omega
     rw [LeafT.at_pl h, LeafT.at_pl h']; rfl
theorem info_leafT : ∃ Z : Array Value, (Tryz.prog.info? 32).map (fun i => (i.zero, i.size, i.bytes)) = some (some (.agg Z), 99, 120) ∧ Z.size = 99 :=
 ⟨(LeafT.cells ⟨List.replicate 32 0, 0, List.replicate 32 0, 0, zNd⟩).toArray, by kernel_rfl, by kernel_rfl⟩
theorem len_cells {ls : List LeafT} (h : ∀ l ∈ ls, l.ok) : ∀ l ∈ ls, l.cells.length = 99 := fun l hl => LeafT.len (h l hl)
def placed (ls : List LeafT) : List LeafT := turnTo plF ls.length ls
def splitL (r : Nd) (ls : List LeafT) : List LeafT := turnTo (spF r) ls.length ls
theorem tlAt_nz {K s0 : List Wd} {ls : List LeafT} : ∀ {k : Nat}, ¬ tlAt K s0 ls k = .error 0
 | 0 => fun e => by cases e
 | k + 1 => fun e => by
  cases h : tlAt K s0 ls k with
  | error x =>
   rw [tlAt_err h (k + 1) (Nat.le_succ k)] at e
   injection e with e
   subst e
   exact tlAt_nz h
  | ok T =>
   cases hl : ls[k]? with
   | none =>
    have e2 : tlAt K s0 ls (k + 1) = .ok T := by
      unfold tlAt
      rw [h]
      simp only [hl]
    rw [e2] at e; cases e
   | some l =>
    rw [tlAt_succ h hl, tlStep] at e
    split at e
    · cases e
    · split at e
      · cases e
      · rename_i h3
        injection e with e
        exact h3 e
def PartsP (K s0 : List Wd) (w : World) (ls : List LeafT) (n : Nat) (R : Except Int (List Lf)) (e : Ending) (w' : World) : Prop :=
 Below w.heap.size w w' ∧ match R with
  | .ok T => ∃ a c, e = .returned (.tuple #[.slice a n c, .int .i64 0]) ∧ w'.ownsRow w.heap.size 32 99 (.slice a n c) n ((splitL (partNd K s0 256 T) (placed ls)).flatMap LeafT.cells)
  | .error x => e = .returned (.tuple #[.slice none 0 0, .int .i64 x])
theorem at_leaf0 (b n c k : Nat) (hk : k < n) (w : World) : (Instr.indexAt 22 (.slice (some ⟨b, 0, none⟩) n c) (.int .i64 (k : Int))).run Tryz.prog w = .ok (.pointer (some ⟨b, k * 99, none⟩)) w := by
 have := at_leaf b 0 n c k hk w
 rwa [Nat.zero_add] at this
theorem parts_fits {K s0 : List Wd} {S : Nat → Prop} {w : World} {g : Nat} {T : List Lf} (h : Tr K s0 S w g T) : (partNd K s0 256 T).s < 18446744073709551616 := by rw [root_sum h]; exact h.sum
set_option maxRecDepth 100000 in
set_option maxHeartbeats 4000000 in
theorem lfParts_is (K s0 : List Wd) (w : World) (hT : Tabs K s0 w) (A : Option Addr) (n c : Nat) (ls : List LeafT) (hls : RowsAt LeafT.cells 99 w A n ls) (hok : ∀ l ∈ ls, l.ok) (hn : n ≤ 256) :
  Calls Tryz.prog 40 #[.slice A n c] w (PartsP K s0 w ls n (tlAt K s0 (placed ls) n)) := by
 obtain ⟨Z, hinfo, hzs⟩ := info_leafT
 obtain ⟨Zn, hzn, hzns, hznn, -⟩ := zero_node
 have hlow := hT.low
 have hlen := hls.len
 have HT := Lib.hid hT
 have HLS := Lib.hid hls
 have HOK := Lib.hid hok
 have HAT := Lib.hid at_leaf0
 have HINFO := Lib.hid hinfo
 have HZS := Lib.hid hzs
 have H1 := Lib.hid (show ∀ x ∈ ls, ∀ u ∈ x.cells, u.oneCell' = true from fun x _ u hu => by
  have := LeafT.one x
  rw [Array.all_eq_true'] at this
  exact this u (by simpa using hu))
 clear hls hok hT hinfo hzs
 go_enter Tryz.func40, Tryz.ntmps40
 go_wp2_with (refine wpList_append_rows rfl _ _ 22 rfl w.heap.size 32 (.agg Z) 120 Tryz.underlying22 HINFO.out HZS.out (by decide) _ 0 [] rfl (World.ownsRow_nil _ _ _ _) A n c ls rfl HLS.out H1.out (by unfold maxLen; omega) (by omega) (Nat.le_refl _) ?_)
 intro oa oc w2 hown hgr
 have hb2 : Below w.heap.size w w2 := (Below.refl _ _).grown hgr (Nat.le_refl _) (by simp [Value.ownBlock])
 have HOW := Lib.hid hown
 have HB2 := Lib.hid hb2
 clear hown hgr hb2
 go_wp2_with fail
 go_loopw [14] (fun i wr => ∃ k : Nat, i = .int .i64 (k : Int) ∧ k ≤ n ∧ wr.ownsRow w.heap.size 32 99 (.slice oa n oc) n ((turnTo plF k ls).flatMap LeafT.cells) ∧ Below w.heap.size w wr) (fun i _ => n - (intOf i).toNat)
 case atStart => exact ⟨0, rfl, Nat.zero_le _, by rw [turnTo_zero]; simpa using HOW.out, HB2.out⟩
 case round =>
  obtain ⟨k, rfl, hk, hown, hbel⟩ := hrel
  have HOK1 := Lib.hid (show ∀ x ∈ turnTo plF k ls, x.ok from turnTo_ok plF k ls LeafT.ok HOK.out (fun i x hi hx => plF_ok hx i (by omega)))
  by_cases hlt : k < n
  · have hlt' : (k : Int) < (n : Int) := by omega
    obtain ⟨x, hx⟩ : ∃ x, ls[k]? = some x := ⟨_, List.getElem?_eq_getElem (by omega)⟩
    have hx2 := turnTo_get plF k ls k x hx
    rw [if_neg (Nat.lt_irrefl k)] at hx2
    have hxok := HOK.out x (List.mem_of_getElem? hx)
    obtain ⟨b, hA, hbb, hth, hown2, hk2⟩ := own_set hown (by rw [turnTo_len]; exact hlen) (len_cells HOK1.out) hlt x (plF k x) hx2 (LeafT.len (plF_ok hxok k (by omega))) 65 [.int .i64 (k : Int)] (by simp) (plF_cells hxok k (by omega))
    subst hA
    rw [turnTo_succ plF k ls x hx] at hown2
    obtain ⟨t1, t2⟩ := hth 0 (by simp)
    rw [Nat.add_zero] at t1 t2
    obtain ⟨v65, t1⟩ := Option.isSome_iff_exists.1 t1
    have hat := HAT.out b n oc k hlt
    have HOW2 := Lib.hid hown2
    have HBE2 := Lib.hid (hbel.trans (hk2.below hbel.size (fun j e => by rw [show j = b from e]; exact hbb)))
    clear hown2 hk2 hown hx hx2 hxok hth
    go_wp2_with fail
    go_roundw
    case rel => exact ⟨k + 1, by go_num, by omega, HOW2.out, HBE2.out⟩
    case measure => simp [intOf]; omega
  · obtain rfl : k = n := by omega
    have hlt' : ¬ (k : Int) < (k : Int) := by omega
    have hpl : turnTo plF k ls = placed ls := by rw [placed, hlen]
    rw [hpl] at hown HOK1
    have hr0 := (own_rows hown (by rw [placed, turnTo_len]; exact hlen) (len_cells HOK1.out)).1
    have hcall := lfTree_is K s0 wr (HT.out.below hbel hlow) oa k oc (placed ls) hr0 HOK1.out (by omega)
    obtain ⟨R, hR⟩ : ∃ R, R = tlAt K s0 (placed ls) k := ⟨_, rfl⟩
    rw [← hR] at hcall
    have HRQ := Lib.hid hR
    have HCALL := Lib.hid hcall
    have HOWR := Lib.hid hown
    have HBR := Lib.hid hbel
    have HBK := Lib.hid (show ∀ j, (Value.slice oa k oc).ownBlock = some j → j < wr.heap.size from fun j e => by
     have h9 := (own_rows hown (by rw [placed, turnTo_len]; exact hlen) (len_cells HOK1.out)).2
     cases oa with
     | none => cases e
     | some a => injection e with e; rw [← e]; exact (h9 a rfl).2)
    clear hcall hr0 hown hbel hpl
    go_wp2_with fail
    refine HCALL.out.mono ?_
    rintro _ w5 ⟨hb5, hm⟩
    have hb5' := HBR.out.trans (hb5.mono HBR.out.size)
    have hown5 := own_kept HOWR.out (Kept.of_below (S := fun _ => False) hb5) (fun _ _ e => e)
    cases R with
    | error x =>
     dsimp only at hm
     subst hm
     have HB5 := Lib.hid hb5'
     have hxn : ¬ x = 0 := by
      intro e
      subst e
      exact tlAt_nz hR.symm
     have hx2 : (x != 0) = true := by rw [bne_iff_ne]; exact hxn
     clear hb5 hb5' hown5 hxn hR
     go_wp2_with fail
     go_ret2
     refine ⟨HB5.out, ?_⟩
     rw [← HRQ.out]
     exact rfl
    | ok T =>
     dsimp only at hm
     obtain ⟨g, rfl, htr, hg⟩ := hm
     have HB5 := Lib.hid hb5'
     have HSZ := Lib.hid hb5.size
     have HO5 := Lib.hid hown5
     have HTR := Lib.hid htr
     have HRT := Lib.hid (show ∀ v : World, Tr K s0 (fun j => wr.heap.size ≤ j) v g T → Tabs K s0 v → Calls Tryz.prog 46 #[.pointer (some ⟨g, 0, none⟩)] v fun e w' => e = .returned (.agg (ndV (partNd K s0 256 T)).toArray) ∧ Tr K s0 (fun j => wr.heap.size ≤ j) w' g T ∧ Kept (fun j => wr.heap.size ≤ j) v w' from fun v h1 h2 => tr_root h1 h2 (by have := HBR.out.size; have := HT.out.low; omega))
     have hrh := part_hash K s0 HT.out.len 256 T
     have hrs := parts_fits htr
     obtain ⟨r, hrr⟩ : ∃ r, r = partNd K s0 256 T := ⟨_, rfl⟩
     rw [← hrr] at hrh hrs HRT
     have HRR := Lib.hid hrr
     clear hrr
     have HRH := Lib.hid hrh
     have HRS := Lib.hid hrs
     have HT5 := Lib.hid (HT.out.below hb5' hlow)
     clear hb5 hb5' hown5 htr hrh hrs hg
     go_wp2_with fail
     refine (HRT.out w5 HTR.out HT5.out).mono ?_
     rintro _ w6 ⟨rfl, htr6, hk6⟩
     have hb6 := HB5.out.trans (hk6.below (by have := HB5.out.size; have := HBR.out.size; have := HSZ.out; omega) (fun j e => by have e' : wr.heap.size ≤ j := e; have := HBR.out.size; omega))
     have hown6 := own_kept HO5.out hk6 (fun j e e2 => by have e' : wr.heap.size ≤ j := e2; have := HBK.out j e; omega)
     obtain ⟨h7, hb7⟩ := new_row w6 30 Zn (ndV r).toArray
     have hown7 := own_kept hown6 (Kept.of_below (S := fun _ => False) hb7) (fun _ _ e => e)
     have HB7 := Lib.hid (hb6.trans (hb7.mono hb6.size))
     have HO7 := Lib.hid hown7
     have H7 := Lib.hid h7
     have SZN := Lib.hid (show (Tryz.prog.info? 30).map (·.size) = some (ndV r).toArray.size by rw [List.size_toArray, ndV_len HRH.out]; kernel_rfl)
     have HZN := Lib.hid (show Zn.size = (ndV r).toArray.size by rw [hzns, List.size_toArray, ndV_len HRH.out])
     clear hb6 hown6 h7 hb7 hown7 htr6 hk6 HRT HTR hzns
     go_wp2_with (refine wpList_store_row rfl 30 (.tmp 8) (.tmp 32) rfl w6.heap.size (ndV r).toArray rfl rfl 30 Zn (heap_alloc_new w6 _) SZN.out HZN.out (ndV_one r) ?_)
     obtain ⟨W7, hW7⟩ : ∃ W, W = (w6.alloc (.cells Zn 30)).setRow w6.heap.size (ndV r).toArray := ⟨_, rfl⟩
     rw [← hW7] at HB7 HO7 H7 ⊢
     clear hW7 hzn HZN
     generalize w6.heap.size = G at H7 ⊢
     go_loopw [35] (fun i wx => ∃ k2 : Nat, i = .int .i64 (k2 : Int) ∧ k2 ≤ k ∧ wx.ownsRow w.heap.size 32 99 (.slice oa k oc) k ((turnTo (spF r) k2 (placed ls)).flatMap LeafT.cells) ∧ Below w.heap.size w wx ∧ Has wx G 30 (ndV r).toArray) (fun i _ => k - (intOf i).toNat)
     case atStart => exact ⟨0, rfl, Nat.zero_le _, by rw [turnTo_zero]; exact HO7.out, HB7.out, H7.out⟩
     case round =>
      obtain ⟨k2, rfl, hk2, hown, hbel, hbx⟩ := hrel
      have HOK2 := Lib.hid (show ∀ x ∈ turnTo (spF r) k2 (placed ls), x.ok from turnTo_ok (spF r) k2 (placed ls) LeafT.ok HOK1.out (fun i x hi hx => spF_ok hx r HRH.out HRS.out i))
      by_cases hlt2 : k2 < k
      · have hlt2' : (k2 : Int) < (k : Int) := by omega
        obtain ⟨x, hx⟩ : ∃ x, (placed ls)[k2]? = some x := ⟨_, List.getElem?_eq_getElem (by rw [placed, turnTo_len]; omega)⟩
        have hx2 := turnTo_get (spF r) k2 (placed ls) k2 x hx
        rw [if_neg (Nat.lt_irrefl k2)] at hx2
        have hxok := HOK1.out x (List.mem_of_getElem? hx)
        obtain ⟨b, hA, hbb, hth, hown2, hk2'⟩ := own_set hown (by rw [turnTo_len, placed, turnTo_len]; exact hlen) (len_cells HOK2.out) hlt2 x (spF r k2 x) hx2 (LeafT.len (spF_ok hxok r HRH.out HRS.out k2)) 66 (ndV r) (by rw [ndV_len HRH.out]; decide) (spF_cells hxok r HRH.out HRS.out k2)
        have hne : b ≠ G := own_has_ne hown hbx (by decide) b (by rw [hA]; rfl)
        subst hA
        rw [turnTo_succ (spF r) k2 (placed ls) x hx] at hown2
        have hat := HAT.out b k oc k2 hlt2
        have HOW2 := Lib.hid hown2
        have HTH := Lib.hid hth
        have HBE2 := Lib.hid (hbel.trans (hk2'.below hbel.size (fun j e => by rw [show j = b from e]; exact hbb)))
        have HBX := Lib.hid hbx
        have HBX2 := Lib.hid (hbx.kept hk2' (fun e => hne e.symm))
        clear hown2 hk2' hown hx hx2 hxok hth hbel hbx hne
        go_wp2_with (first
         | (refine wpList_load_row rfl 30 (.tmp 8) rfl G rfl 30 (ndV r).toArray (0, 0) _ HBX.out Tryz.underlying30 rfl SZN.out ?_)
         | (refine wpList_store_mid rfl 30 (.tmp 42) (.tmp 40) rfl b (k2 * 99 + 66) (ndV r).toArray rfl rfl (by rw [List.size_toArray]; exact HTH.out) SZN.out (ndV_one r) ?_))
        go_roundw
        case rel => exact ⟨k2 + 1, by go_num, by omega, HOW2.out, HBE2.out, HBX2.out⟩
        case measure => simp [intOf]; omega
      · obtain rfl : k2 = k := by omega
        have hlt2' : ¬ (k2 : Int) < (k2 : Int) := by omega
        have hsp : turnTo (spF r) k2 (placed ls) = splitL r (placed ls) := by rw [splitL, placed, turnTo_len, hlen]
        rw [hsp] at hown
        have HF := Lib.hid (And.intro hbel hown)
        clear hown hbel hbx hsp
        go_wp2_with fail
        go_ret2
        refine ⟨HF.out.1, ?_⟩
        rw [← HRQ.out]
        exact ⟨oa, oc, rfl, by rw [← HRR.out]; exact HF.out.2⟩
end Go.Proofs.YtknfbccbdiidjaaGreatDoor
/- The plain law of leaves: the tree of a transfer is its leaves, each at its own place. -/
namespace Go.Proofs.YtknfbccbdiidjaaGreatDoor
set_option linter.unusedVariables false
set_option linter.unusedSimpArgs false

theorem place_first : ∀ i : Fin 8, (placeK KS SS i.val).getD 0 0 = [216, 118, 61, 40, 43, 137, 243, 66].getD i.val 0 := by decide +kernel
theorem place_ne (i j : Nat) (hi : i < 8) (hj : j < 8) (h : placeK KS SS i = placeK KS SS j) : i = j := by
 have h1 := place_first ⟨i, hi⟩
 have h2 := place_first ⟨j, hj⟩
 rw [show (⟨i, hi⟩ : Fin 8).val = i from rfl, h, h2] at h1
 have : ∀ a b : Fin 8, [216, 118, 61, 40, 43, 137, 243, 66].getD a.val 0 = [216, 118, 61, 40, 43, 137, 243, 66].getD b.val 0 → a = b := by decide
 exact (congrArg Fin.val (this ⟨j, hj⟩ ⟨i, hi⟩ h1)).symm
def partsT (K s0 : List Wd) (ls : List LeafT) : List Lf := ls.mapIdx (partL K s0)
def amS (ls : List LeafT) : Nat := (ls.map (·.am)).sum
theorem amS_app (a b : List LeafT) : amS (a ++ b) = amS a + amS b := by simp [amS]
theorem parts_sum (K s0 : List Wd) (ls : List LeafT) : sumT (partsT K s0 ls) = amS ls := by
 unfold sumT partsT amS
 congr 1
 apply List.ext_getElem?
 intro i
 simp only [List.getElem?_map, List.getElem?_mapIdx]
 cases ls[i]? <;> rfl
theorem find_new {T : List Lf} {k : List Nat} (h : ∀ t ∈ T, t.k ≠ k) : findT T k = none := by
 cases e : findT T k with
 | none => rfl
 | some l => exact absurd (find_key e).1 (h l (find_key e).2)
theorem parts_take (K s0 : List Wd) (ls : List LeafT) (k : Nat) (l : LeafT) (h : ls[k]? = some l) : partsT K s0 (ls.take (k + 1)) = partsT K s0 (ls.take k) ++ [partL K s0 k l] := by
 have hk := (List.getElem?_eq_some_iff.1 h).1
 unfold partsT
 rw [List.take_add_one, h, List.mapIdx_append]
 simp [List.length_take, Nat.min_eq_left (Nat.le_of_lt hk)]
theorem parts_key {ls : List LeafT} {k : Nat} (hk : k < 8) : ∀ t ∈ partsT KS SS (ls.take k), t.k ≠ placeK KS SS k := by
 intro t ht e
 obtain ⟨i, hi⟩ := List.getElem?_of_mem ht
 have hil := (List.getElem?_eq_some_iff.1 hi).1
 simp only [partsT, List.length_mapIdx, List.length_take] at hil
 unfold partsT at hi
 rw [List.getElem?_mapIdx] at hi
 cases h : (ls.take k)[i]? with
 | none => rw [h] at hi; cases hi
 | some l =>
  rw [h] at hi
  injection hi with hi
  rw [← hi] at e
  have := place_ne i k (by omega) hk e
  omega
theorem putE_part {ls : List LeafT} {k : Nat} {l : LeafT} (hl : l.ok) (hk : k < 8) : putE (partsT KS SS (ls.take k)) (partL KS SS k l) = if amS (ls.take k) + l.am < 18446744073709551616 then 0 else 10 := by
 have h64 : (partL KS SS k l).v.length = 64 := by show (l.id ++ l.ow).length = 64; rw [List.length_append, hl.id.1, hl.ow.1]
 have hf : findT (partsT KS SS (ls.take k)) (partL KS SS k l).k = none := find_new (parts_key hk)
 have hlen : (partsT KS SS (ls.take k)).length ≤ k := by simp [partsT]; omega
 have hw : wasS (partsT KS SS (ls.take k)) (partL KS SS k l).k = 0 := by unfold wasS; rw [hf]
 unfold putE
 rw [h64, if_neg (by omega), if_neg (by omega), if_neg (by rintro ⟨_, h⟩; omega), hw, parts_sum]
 rfl
theorem tlStep_at {ls : List LeafT} {k : Nat} {l : LeafT} (hl : l.ok) (hk : k < 8) (h : ls[k]? = some l) : tlStep KS SS k l (partsT KS SS (ls.take k)) =
   if l.pl ≠ (k : Int) ∨ l.am = 0 then .error 22 else if amS (ls.take k) + l.am < 18446744073709551616 then .ok (partsT KS SS (ls.take (k + 1))) else .error 10 := by
 unfold tlStep
 rw [putE_part hl hk]
 by_cases h1 : l.pl ≠ (k : Int) ∨ l.am = 0
 · rw [if_pos h1, if_pos h1]
 · rw [if_neg h1, if_neg h1]
   by_cases h2 : amS (ls.take k) + l.am < 18446744073709551616
   · rw [if_pos h2, if_pos rfl, if_pos h2]
     have he := putE_part (ls := ls) hl hk
     rw [if_pos h2] at he
     rw [putN, if_pos he, put_new (find_new (parts_key hk)), parts_take KS SS ls k l h]
   · rw [if_neg h2, if_neg (by decide), if_neg h2]
theorem tl_makes {ls : List LeafT} (hok : ∀ l ∈ ls, l.ok) (hp : ∀ (i : Nat) l, ls[i]? = some l → l.pl = (i : Int) ∧ l.am ≠ 0) (hs : amS ls < 18446744073709551616) : ∀ (k : Nat), k ≤ 8 → k ≤ ls.length → tlAt KS SS ls k = .ok (partsT KS SS (ls.take k))
 | 0, _, _ => rfl
 | k + 1, hk, hl => by
  have e := tl_makes hok hp hs k (by omega) (by omega)
  obtain ⟨l, hlk⟩ : ∃ l, ls[k]? = some l := ⟨_, List.getElem?_eq_getElem (by omega)⟩
  obtain ⟨q1, q2⟩ := hp k l hlk
  have hle : amS (ls.take k) + l.am ≤ amS ls := by
   have h1 : amS ls = amS (ls.take (k + 1)) + amS (ls.drop (k + 1)) := by
    rw [← amS_app, List.take_append_drop]
   rw [h1, show amS (ls.take (k + 1)) = amS (ls.take k) + l.am by rw [amS, List.take_add_one, hlk]; simp [amS]]
   exact Nat.le_add_right _ _
  rw [tlAt_succ e hlk, tlStep_at (hok l (List.mem_of_getElem? hlk)) (by omega) hlk, if_neg (by rintro (h | h) <;> contradiction), if_pos (by omega)]
end Go.Proofs.YtknfbccbdiidjaaGreatDoor
/- The commit in plain lists: what stands of each asset, the tree of trees, what an output says. -/
namespace Go.Proofs.YtknfbccbdiidjaaGreatDoor
set_option linter.unusedVariables false
set_option linter.unusedSimpArgs false

def lfL (K s0 : List Wd) (l : LeafT) : Lf := ⟨keyK K s0 l, leafB l, l.am⟩
def idStep (a : List (List Nat)) (l : LeafT) : List (List Nat) := if l.id ∈ a then a else a ++ [l.id]
def idsOf (ls : List LeafT) : List (List Nat) := ls.foldl idStep []
def ofId (ls : List LeafT) (id : List Nat) : List LeafT := ls.filter fun l => l.id = id
def lowT (K s0 : List Wd) (ls : List LeafT) (id : List Nat) : List Lf := (ofId ls id).map (lfL K s0)
def topL (K s0 : List Wd) (ls : List LeafT) (id : List Nat) : Lf := ⟨id, (partNd K s0 256 (lowT K s0 ls id)).h, (partNd K s0 256 (lowT K s0 ls id)).s⟩
def topT (K s0 : List Wd) (ls : List LeafT) : List Lf := (idsOf ls).map (topL K s0 ls)
def anchorOf (K s0 : List Wd) (ls : List LeafT) : List Nat := if ls = [] then List.replicate 32 0 else anchorK K s0 (partNd K s0 256 (topT K s0 ls))
def addE (K s0 : List Wd) (ls : List LeafT) (l : LeafT) : Int := if leafBad l = true then 1 else if keyK K s0 l ∈ ls.map (keyK K s0) then 6 else if 256 ≤ ls.length then 4 else if amS ls + l.am < 18446744073709551616 then 0 else 10
def addC (K s0 : List Wd) (ls : List LeafT) (l : LeafT) : List LeafT := if addE K s0 ls l = 0 then ls ++ [l] else ls
structure Fine (K s0 : List Wd) (ls : List LeafT) : Prop where
 ok : ∀ l ∈ ls, l.ok
 good : ∀ l ∈ ls, leafBad l = false
 keys : (ls.map (keyK K s0)).Nodup
 len : ls.length ≤ 256
 fit : amS ls < 18446744073709551616
variable {K s0 : List Wd} {ls : List LeafT} {l : LeafT} {id : List Nat}
theorem fine_nil : Fine K s0 [] := ⟨fun _ h => (by cases h), fun _ h => (by cases h), List.nodup_nil, by decide, by decide⟩
theorem addE_zero (h : addE K s0 ls l = 0) : leafBad l = false ∧ keyK K s0 l ∉ ls.map (keyK K s0) ∧ ls.length < 256 ∧ amS ls + l.am < 18446744073709551616 := by
 unfold addE at h
 by_cases h1 : leafBad l = true
 · rw [if_pos h1] at h; exact absurd h (by decide)
 · rw [if_neg h1] at h
   by_cases h2 : keyK K s0 l ∈ ls.map (keyK K s0)
   · rw [if_pos h2] at h; exact absurd h (by decide)
   · rw [if_neg h2] at h
     by_cases h3 : 256 ≤ ls.length
     · rw [if_pos h3] at h; exact absurd h (by decide)
     · rw [if_neg h3] at h
       by_cases h4 : amS ls + l.am < 18446744073709551616
       · exact ⟨by simpa using h1, h2, by omega, h4⟩
       · rw [if_neg h4] at h; exact absurd h (by decide)
theorem amS_one (l : LeafT) : amS [l] = l.am := by simp [amS]
theorem Fine.snoc (h : Fine K s0 ls) (hl : l.ok) (he : addE K s0 ls l = 0) : Fine K s0 (ls ++ [l]) := by
 obtain ⟨h1, h2, h3, h4⟩ := addE_zero he
 refine ⟨fun x hx => ?_, fun x hx => ?_, ?_, by simp; omega, by rw [amS_app, amS_one]; exact h4⟩
 · rcases List.mem_append.1 hx with hx | hx
   · exact h.ok x hx
   · rw [List.mem_singleton.1 hx]; exact hl
 · rcases List.mem_append.1 hx with hx | hx
   · exact h.good x hx
   · rw [List.mem_singleton.1 hx]; exact h1
 · rw [List.map_append, List.nodup_append]
   refine ⟨h.keys, by simp, fun a ha b hb e => ?_⟩
   rw [List.map_cons, List.map_nil, List.mem_singleton] at hb
   subst hb
   exact h2 (by rw [← e]; exact ha)
theorem Fine.add (h : Fine K s0 ls) (hl : l.ok) : Fine K s0 (addC K s0 ls l) := by
 unfold addC
 by_cases he : addE K s0 ls l = 0
 · rw [if_pos he]; exact h.snoc hl he
 · rw [if_neg he]; exact h
theorem idsOf_snoc (ls : List LeafT) (l : LeafT) : idsOf (ls ++ [l]) = idStep (idsOf ls) l := by
 unfold idsOf
 rw [List.foldl_append]
 rfl
theorem list_snoc {α : Type} {P : List α → Prop} (h0 : P []) (h1 : ∀ xs x, P xs → P (xs ++ [x])) (xs : List α) : P xs := by
 have : ∀ n (ys : List α), ys.length = n → P ys := by
  intro n
  induction n with
  | zero => intro ys hy; rw [List.length_eq_zero_iff.1 hy]; exact h0
  | succ n ih =>
   intro ys hy
   have hne : ys ≠ [] := fun e => by rw [e] at hy; cases hy
   rw [← List.dropLast_concat_getLast hne]
   exact h1 _ _ (ih _ (by rw [List.length_dropLast, hy]; rfl))
 exact this _ xs rfl
theorem ids_nodup (ls : List LeafT) : (idsOf ls).Nodup := by
 refine list_snoc (P := fun ls => (idsOf ls).Nodup) List.nodup_nil (fun xs x h => ?_) ls
 rw [idsOf_snoc]
 unfold idStep
 by_cases hm : x.id ∈ idsOf xs
 · rw [if_pos hm]; exact h
 · rw [if_neg hm, List.nodup_append]
   refine ⟨h, by simp, fun a ha b hb e => ?_⟩
   rw [List.mem_singleton] at hb
   subst hb
   exact hm (by rw [← e]; exact ha)
theorem ids_mem (ls : List LeafT) (id : List Nat) : id ∈ idsOf ls ↔ ∃ l ∈ ls, l.id = id := by
 refine list_snoc (P := fun ls => id ∈ idsOf ls ↔ ∃ l ∈ ls, l.id = id) ⟨fun h => (by cases h), fun ⟨_, h, _⟩ => (by cases h)⟩ (fun xs x h => ?_) ls
 have key : id ∈ idStep (idsOf xs) x ↔ id ∈ idsOf xs ∨ x.id = id := by
   unfold idStep
   by_cases hm : x.id ∈ idsOf xs
   · rw [if_pos hm]
     exact ⟨fun e => .inl e, fun e => by rcases e with e | e; exact e; rw [← e]; exact hm⟩
   · rw [if_neg hm, List.mem_append, List.mem_singleton]
     exact ⟨fun e => by rcases e with e | e; exact .inl e; exact .inr e.symm, fun e => by rcases e with e | e; exact .inl e; exact .inr e.symm⟩
 rw [idsOf_snoc, key, h]
 constructor
 · rintro (⟨l, hl, e⟩ | e)
   · exact ⟨l, List.mem_append.2 (.inl hl), e⟩
   · exact ⟨x, by simp, e⟩
 · rintro ⟨l, hl, e⟩
   rcases List.mem_append.1 hl with hl | hl
   · exact .inl ⟨l, hl, e⟩
   · rw [List.mem_singleton.1 hl] at e; exact .inr e
theorem ofId_snoc (ls : List LeafT) (l : LeafT) (id : List Nat) : ofId (ls ++ [l]) id = ofId ls id ++ (if l.id = id then [l] else []) := by
 unfold ofId
 rw [List.filter_append]
 congr 1
 by_cases h : l.id = id
 · rw [if_pos h, List.filter_cons_of_pos (by simpa using h)]; rfl
 · rw [if_neg h, List.filter_cons_of_neg (by simpa using h)]; rfl
theorem lowT_snoc (ls : List LeafT) (l : LeafT) (id : List Nat) : lowT K s0 (ls ++ [l]) id = lowT K s0 ls id ++ (if l.id = id then [lfL K s0 l] else []) := by
 unfold lowT
 rw [ofId_snoc, List.map_append]
 by_cases h : l.id = id
 · rw [if_pos h, if_pos h]; rfl
 · rw [if_neg h, if_neg h]; rfl
theorem low_nil (h : id ∉ idsOf ls) : lowT K s0 ls id = [] := by
 unfold lowT ofId
 rw [List.filter_eq_nil_iff.2 (fun l hl => by
  have : ¬ l.id = id := fun e => h ((ids_mem ls id).2 ⟨l, hl, e⟩)
  simpa using this)]
 rfl
theorem low_sum (ls : List LeafT) (id : List Nat) : sumT (lowT K s0 ls id) = amS (ofId ls id) := by
 unfold lowT sumT amS
 rw [List.map_map]
 rfl
theorem ids_sum (ls : List LeafT) : ∀ D : List (List Nat), D.Nodup → (D.map fun id => amS (ofId ls id)).sum ≤ amS ls := by
 refine list_snoc (P := fun ls => ∀ D : List (List Nat), D.Nodup → (D.map fun id => amS (ofId ls id)).sum ≤ amS ls) (fun D _ => ?_) (fun xs x h D hD => ?_) ls
 · have hz : ∀ D : List (List Nat), (D.map fun id => amS (ofId [] id)).sum = 0 := by
    intro D
    induction D with
    | nil => rfl
    | cons a D ih => rw [List.map_cons, List.sum_cons, ih]; rfl
   rw [hz]
   exact Nat.zero_le _
 · have hx : ∀ D : List (List Nat), D.Nodup → (D.map fun id => amS (ofId (xs ++ [x]) id)).sum ≤ (D.map fun id => amS (ofId xs id)).sum + (if x.id ∈ D then x.am else 0) := by
    intro D
    induction D with
    | nil => intro _; exact Nat.zero_le _
    | cons a D ih =>
     intro hn
     rw [List.nodup_cons] at hn
     have := ih hn.2
     rw [List.map_cons, List.sum_cons, List.map_cons, List.sum_cons, ofId_snoc, amS_app]
     by_cases e : x.id = a
     · have hnd : x.id ∉ D := by rw [e]; exact hn.1
       rw [if_neg hnd] at this
       rw [if_pos e, if_pos (by rw [e]; exact List.mem_cons_self), amS_one]
       omega
     · rw [if_neg e]
       have h0 : amS [] = 0 := rfl
       by_cases e2 : x.id ∈ D
       · rw [if_pos e2] at this
         rw [if_pos (List.mem_cons_of_mem _ e2)]
         omega
       · rw [if_neg e2] at this
         rw [if_neg (fun e3 => by rcases List.mem_cons.1 e3 with e3 | e3; exact e e3; exact e2 e3)]
         omega
   have h1 := hx D hD
   have h2 := h D hD
   rw [amS_app, amS_one]
   split at h1 <;> omega
theorem of_le (ls : List LeafT) (id : List Nat) : amS (ofId ls id) ≤ amS ls := by
 have := ids_sum ls [id] (by simp)
 simpa using this
theorem low_keys (ls : List LeafT) (id : List Nat) : (lowT K s0 ls id).map (·.k) = (ofId ls id).map (keyK K s0) := by
 unfold lowT
 rw [List.map_map]
 rfl
theorem low_keyed (hs0 : s0.length = 8) (h : (ls.map (keyK K s0)).Nodup) (id : List Nat) : Keyed ((lowT K s0 ls id).map (·.k)) := by
 rw [low_keys]
 refine ⟨fun k hk => ?_, ?_⟩
 · obtain ⟨l, _, rfl⟩ := List.mem_map.1 hk
   exact tagD_hash K s0 hs0 _ _
 · exact (List.Sublist.map _ List.filter_sublist).nodup h
theorem low_part (hs0 : s0.length = 8) (h : (ls.map (keyK K s0)).Nodup) (id : List Nat) : (partNd K s0 256 (lowT K s0 ls id)).s = amS (ofId ls id) := by
 rw [part_sum K s0 256 _ (low_keyed hs0 h id) (coh_top _), low_sum]
theorem low_hash (hs0 : s0.length = 8) (id : List Nat) : IsHash (partNd K s0 256 (lowT K s0 ls id)).h := part_hash K s0 hs0 256 _
theorem put_low (h : Fine K s0 ls) (hl : l.ok) (he : addE K s0 ls l = 0) : putE (lowT K s0 ls l.id) (lfL K s0 l) = 0 ∧ putN (lowT K s0 ls l.id) (lfL K s0 l) = lowT K s0 (ls ++ [l]) l.id := by
 obtain ⟨h1, h2, h3, h4⟩ := addE_zero he
 have hb : (leafB l).length = 123 := by
  have hr := recs_len l hl
  unfold leafB
  rw [List.length_flatMap]
  unfold recsOf recB
  have e1 := hl.id.1
  have e2 := hl.ow.1
  have e3 := hl.sp.1
  simp [List.length_append, e1, e2, e3, eight_len', szB]
 have hf : findT (lowT K s0 ls l.id) (lfL K s0 l).k = none := by
  cases hc : findT (lowT K s0 ls l.id) (lfL K s0 l).k with
  | none => rfl
  | some o =>
   exfalso
   obtain ⟨e1, e2⟩ := find_key hc
   apply h2
   have : o.k ∈ (lowT K s0 ls l.id).map (·.k) := List.mem_map.2 ⟨o, e2, rfl⟩
   rw [low_keys, e1] at this
   exact (List.Sublist.map _ List.filter_sublist).subset this
 have hlen : (lowT K s0 ls l.id).length ≤ ls.length := by
  unfold lowT ofId
  rw [List.length_map]
  exact List.length_filter_le _ _
 have hwas : wasS (lowT K s0 ls l.id) (lfL K s0 l).k = 0 := by unfold wasS; rw [hf]
 have hsum := of_le ls l.id
 have e0 : putE (lowT K s0 ls l.id) (lfL K s0 l) = 0 := by
  unfold putE
  rw [if_neg (fun e => by have := e.1; rw [show (lfL K s0 l).v = leafB l from rfl, hb] at this; omega), if_neg (by rw [show (lfL K s0 l).v = leafB l from rfl, hb]; decide), if_neg (fun e => by have := e.2; omega), hwas, low_sum, if_pos (by show amS (ofId ls l.id) - 0 + l.am < 18446744073709551616; omega)]
 refine ⟨e0, ?_⟩
 unfold putN
 rw [if_pos e0, put_new hf, lowT_snoc, if_pos rfl]
theorem low_other {id : List Nat} (h : l.id ≠ id) : lowT K s0 (ls ++ [l]) id = lowT K s0 ls id := by
 rw [lowT_snoc, if_neg h, List.append_nil]
end Go.Proofs.YtknfbccbdiidjaaGreatDoor
