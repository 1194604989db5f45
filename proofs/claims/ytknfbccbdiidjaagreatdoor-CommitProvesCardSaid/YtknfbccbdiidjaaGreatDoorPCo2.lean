/- Parts: leaves made to be all that comes of one transfer; Way; Of. -/
import Derived.Test.YtknfbccbdiidjaaGreatDoorWu
import Derived.Test.YtknfbccbdiidjaaGreatDoorPPf6
import Derived.Test.YtknfbccbdiidjaaGreatDoorPTree1
import Derived.Test.YtknfbccbdiidjaaGreatDoorPLb2
namespace Go.Proofs.YtknfbccbdiidjaaGreatDoor
set_option linter.unusedVariables false
set_option linter.unusedSimpArgs false
open Go.ChangeShapes Go.WideShapes Go.ChangeAt Go.RowKit Go.Maps

def turnTo {α : Type} (f : Nat → α → α) (k : Nat) (xs : List α) : List α := xs.mapIdx fun i x => if i < k then f i x else x
theorem turnTo_len {α : Type} (f : Nat → α → α) (k : Nat) (xs : List α) : (turnTo f k xs).length = xs.length := by simp [turnTo]
theorem turnTo_zero {α : Type} (f : Nat → α → α) (xs : List α) : turnTo f 0 xs = xs := by
 apply List.ext_getElem?
 intro i
 simp [turnTo]
theorem turnTo_get {α : Type} (f : Nat → α → α) (k : Nat) (xs : List α) (i : Nat) (x : α) (h : xs[i]? = some x) : (turnTo f k xs)[i]? = some (if i < k then f i x else x) := by
 simp [turnTo, h]
theorem turnTo_succ {α : Type} (f : Nat → α → α) (k : Nat) (xs : List α) (x : α) (h : xs[k]? = some x) : (turnTo f k xs).set k (f k x) = turnTo f (k + 1) xs := by
 apply List.ext_getElem?
 intro i
 by_cases e : i = k
 · subst e
   have hi := (List.getElem?_eq_some_iff.1 h).1
   rw [List.getElem?_set_self (by rw [turnTo_len]; exact hi), turnTo_get f _ xs i x h, if_pos (Nat.lt_succ_self i)]
 · rw [List.getElem?_set_ne (fun h => e h.symm)]
   simp only [turnTo, List.getElem?_mapIdx]
   cases xs[i]? with
   | none => rfl
   | some y =>
    simp only [Option.map_some]
    congr 1
    by_cases h1 : i < k
    · rw [if_pos h1, if_pos (by omega)]
    · rw [if_neg h1, if_neg (by omega)]
theorem turnTo_ok {α : Type} (f : Nat → α → α) (k : Nat) (xs : List α) (p : α → Prop) (h : ∀ x ∈ xs, p x) (hf : ∀ i x, i < xs.length → p x → p (f i x)) : ∀ x ∈ turnTo f k xs, p x := by
 intro y hy
 obtain ⟨i, hi⟩ := List.getElem?_of_mem hy
 have hil := (List.getElem?_eq_some_iff.1 hi).1
 rw [turnTo_len] at hil
 have hx := List.getElem?_eq_getElem hil
 rw [turnTo_get f k xs i _ hx] at hi
 injection hi with hi
 rw [← hi]
 have hp := h _ (List.mem_of_getElem? hx)
 split
 · exact hf i _ hil hp
 · exact hp
def plF (i : Nat) (l : LeafT) : LeafT := { l with pl := (i : Int) }
def spF (r : Nd) (_ : Nat) (l : LeafT) : LeafT := { l with sp := r }
theorem plF_ok {l : LeafT} (h : l.ok) (i : Nat) (hi : i ≤ 256) : (plF i l).ok := ⟨h.id, h.am, h.ow, by show -9223372036854775808 ≤ (i : Int); omega, by show (i : Int) ≤ 9223372036854775807; omega, h.sp, h.ss⟩
theorem spF_ok {l : LeafT} (h : l.ok) (r : Nd) (hr : IsHash r.h) (hs : r.s < 18446744073709551616) (i : Nat) : (spF r i l).ok := ⟨h.id, h.am, h.ow, h.lo, h.hi, hr, hs⟩
theorem plF_cells {l : LeafT} (h : l.ok) (i : Nat) (hi : i ≤ 256) : ∀ j, j < 99 → (plF i l).cells[j]? = if 65 ≤ j ∧ j < 65 + [Value.int .i64 (i : Int)].length then [Value.int .i64 (i : Int)][j - 65]? else l.cells[j]? := by
 intro j hj
 have h' := plF_ok h i hi
 by_cases e : j = 65
 · subst e
   rw [if_pos (by simp), LeafT.at_pl h']; rfl
 · rw [if_neg (by simp; omega)]
   rcases Nat.lt_or_ge j 65 with q | q
   · rcases Nat.lt_or_ge j 33 with q2 | q2
     · rcases Nat.lt_or_ge j 32 with q3 | q3
       · rw [LeafT.at_id h j q3, LeafT.at_id h' j q3]; rfl
       · obtain rfl : j = 32 := by omega
         rw [LeafT.at_am h, LeafT.at_am h']; rfl
     · obtain ⟨d, rfl⟩ : ∃ d, j = 33 + d := ⟨j - 33, by omega⟩
       rw [LeafT.at_ow h d (by omega), LeafT.at_ow h' d (by omega)]; rfl
   · obtain ⟨d, rfl⟩ : ∃ d, j = 66 + d := ⟨j - 66, by omega⟩
     rw [LeafT.at_sp h, LeafT.at_sp h']; rfl
theorem spF_cells {l : LeafT} (h : l.ok) (r : Nd) (hr : IsHash r.h) (hs : r.s < 18446744073709551616) (i : Nat) : ∀ j, j < 99 → (spF r i l).cells[j]? = if 66 ≤ j ∧ j < 66 + (ndV r).length then (ndV r)[j - 66]? else l.cells[j]? := by
 intro j hj
 have h' := spF_ok h r hr hs i
 rw [ndV_len hr]
 by_cases e : 66 ≤ j
 · obtain ⟨d, rfl⟩ : ∃ d, j = 66 + d := ⟨j - 66, by omega⟩
   rw [if_pos (by omega), LeafT.at_sp h', Nat.add_sub_cancel_left]; rfl
 · rw [if_neg (by omega)]
   rcases Nat.lt_or_ge j 65 with q | q
   · rcases Nat.lt_or_ge j 33 with q2 | q2
     · rcases Nat.lt_or_ge j 32 with q3 | q3
       · rw [LeafT.at_id h j q3, LeafT.at_id h' j q3]; rfl
       · obtain rfl : j = 32 := by omega
         rw [LeafT.at_am h, LeafT.at_am h']; rfl
     · obtain ⟨d, rfl⟩ : ∃ d, j = 33 + d := ⟨j - 33, by omega⟩
       rw [LeafT.at_ow h d (by omega), LeafT.at_ow h' d (by omega)]; rfl
   · obtain rfl : j = 65 := by omega
     rw [LeafT.at_pl h, LeafT.at_pl h']; rfl
theorem info_leafT : ∃ Z : Array Value, (Tryz.prog.info? 32).map (fun i => (i.zero, i.size, i.bytes)) = some (some (.agg Z), 99, 120) ∧ Z.size = 99 :=
 ⟨(LeafT.cells ⟨List.replicate 32 0, 0, List.replicate 32 0, 0, zNd⟩).toArray, by kernel_rfl, by kernel_rfl⟩
theorem len_cells {ls : List LeafT} (h : ∀ l ∈ ls, l.ok) : ∀ l ∈ ls, l.cells.length = 99 := fun l hl => LeafT.len (h l hl)
def placed (ls : List LeafT) : List LeafT := turnTo plF ls.length ls
def splitL (r : Nd) (ls : List LeafT) : List LeafT := turnTo (spF r) ls.length ls
theorem tlAt_nz {K s0 : List Wd} {ls : List LeafT} : ∀ {k : Nat}, ¬ tlAt K s0 ls k = .error 0
 | 0 => fun e => by cases e
 | k + 1 => fun e => by
  cases h : tlAt K s0 ls k with
  | error x =>
   rw [tlAt_err h (k + 1) (Nat.le_succ k)] at e
   injection e with e
   subst e
   exact tlAt_nz h
  | ok T =>
   cases hl : ls[k]? with
   | none =>
    have e2 : tlAt K s0 ls (k + 1) = .ok T := by
      unfold tlAt
      rw [h]
      simp only [hl]
    rw [e2] at e; cases e
   | some l =>
    rw [tlAt_succ h hl, tlStep] at e
    split at e
    · cases e
    · split at e
      · cases e
      · rename_i h3
        injection e with e
        exact h3 e
def PartsP (K s0 : List Wd) (w : World) (ls : List LeafT) (n : Nat) (R : Except Int (List Lf)) (e : Ending) (w' : World) : Prop :=
 Below w.heap.size w w' ∧ match R with
  | .ok T => ∃ a c, e = .returned (.tuple #[.slice a n c, .int .i64 0]) ∧ w'.ownsRow w.heap.size 32 99 (.slice a n c) n ((splitL (partNd K s0 256 T) (placed ls)).flatMap LeafT.cells)
  | .error x => e = .returned (.tuple #[.slice none 0 0, .int .i64 x])
theorem at_leaf0 (b n c k : Nat) (hk : k < n) (w : World) : (Instr.indexAt 22 (.slice (some ⟨b, 0, none⟩) n c) (.int .i64 (k : Int))).run Tryz.prog w = .ok (.pointer (some ⟨b, k * 99, none⟩)) w := by
 have := at_leaf b 0 n c k hk w
 rwa [Nat.zero_add] at this
theorem parts_fits {K s0 : List Wd} {S : Nat → Prop} {w : World} {g : Nat} {T : List Lf} (h : Tr K s0 S w g T) : (partNd K s0 256 T).s < 18446744073709551616 := by rw [root_sum h]; exact h.sum
set_option maxRecDepth 100000 in
set_option maxHeartbeats 4000000 in
theorem lfParts_is (K s0 : List Wd) (w : World) (hT : Tabs K s0 w) (A : Option Addr) (n c : Nat) (ls : List LeafT) (hls : RowsAt LeafT.cells 99 w A n ls) (hok : ∀ l ∈ ls, l.ok) (hn : n ≤ 256) :
  Calls Tryz.prog 40 #[.slice A n c] w (PartsP K s0 w ls n (tlAt K s0 (placed ls) n)) := by
 obtain ⟨Z, Ai, hzs⟩ := info_leafT
 obtain ⟨Zn, hzn, As, hznn, -⟩ := zero_node
 have Ar := hT.low
 have Af := hls.len
 have HT := Hh hT
 have Bc := Hh hls
 have A5 := Hh hok
 have A2 := Hh at_leaf0
 have Aq := Hh Ai
 have Bj := Hh hzs
 have H1 := Hh (show ∀ x ∈ ls, ∀ u ∈ x.cells, u.oneCell' = true from fun x _ u hu => by
  have := LeafT.one x
  rw [Array.all_eq_true'] at this
  exact this u (by simpa using hu))
 clear hls hok hT Ai hzs
 go_enter Tryz.func40, Tryz.ntmps40
 go_wp2_with (refine wpList_append_rows rfl _ _ 22 rfl w.heap.size 32 (.agg Z) 120 Tryz.underlying22 Aq.o Bj.o (by decide) _ 0 [] rfl (World.ownsRow_nil _ _ _ _) A n c ls rfl Bc.o H1.o (by unfold maxLen; omega) (by omega) (Nat.le_refl _) ?_)
 intro oa oc w2 Aa hgr
 have hb2 : Below w.heap.size w w2 := (Below.refl _ _).grown hgr (Nat.le_refl _) (by simp [Value.ownBlock])
 have Be := Hh Aa
 have A9 := Hh hb2
 clear Aa hgr hb2
 go_wp2_with fail
 go_loopw [14] (fun i wr => ∃ k : Nat, i = .int .i64 (k : Int) ∧ k ≤ n ∧ wr.ownsRow w.heap.size 32 99 (.slice oa n oc) n ((turnTo plF k ls).flatMap LeafT.cells) ∧ Below w.heap.size w wr) (fun i _ => n - (intOf i).toNat)
 case atStart => exact ⟨0, rfl, Nat.zero_le _, by rw [turnTo_zero]; simpa using Be.o, A9.o⟩
 case round =>
  obtain ⟨k, rfl, hk, Aa, Ab⟩ := hrel
  have Ad := Hh (show ∀ x ∈ turnTo plF k ls, x.ok from turnTo_ok plF k ls LeafT.ok A5.o (fun i x hi hx => plF_ok hx i (by omega)))
  by_cases hlt : k < n
  · have hlt' : (k : Int) < (n : Int) := by omega
    obtain ⟨x, hx⟩ : ∃ x, ls[k]? = some x := ⟨_, List.getElem?_eq_getElem (by omega)⟩
    have hx2 := turnTo_get plF k ls k x hx
    rw [if_neg (Nat.lt_irrefl k)] at hx2
    have Ae := A5.o x (List.mem_of_getElem? hx)
    obtain ⟨b, hA, hbb, hth, Ac, hk2⟩ := own_set Aa (by rw [turnTo_len]; exact Af) (len_cells Ad.o) hlt x (plF k x) hx2 (LeafT.len (plF_ok Ae k (by omega))) 65 [.int .i64 (k : Int)] (by simp) (plF_cells Ae k (by omega))
    subst hA
    rw [turnTo_succ plF k ls x hx] at Ac
    obtain ⟨t1, t2⟩ := hth 0 (by simp)
    rw [Nat.add_zero] at t1 t2
    obtain ⟨v65, t1⟩ := Option.isSome_iff_exists.1 t1
    have hat := A2.o b n oc k hlt
    have Am := Hh Ac
    have Al := Hh (Ab.trans (hk2.below Ab.size (fun j e => by rw [show j = b from e]; exact hbb)))
    clear Ac hk2 Aa hx hx2 Ae hth
    go_wp2_with fail
    go_roundw
    case rel => exact ⟨k + 1, by go_num, by omega, Am.o, Al.o⟩
    case measure => simp [intOf]; omega
  · obtain rfl : k = n := by omega
    have hlt' : ¬ (k : Int) < (k : Int) := by omega
    have hpl : turnTo plF k ls = placed ls := by rw [placed, Af]
    rw [hpl] at Aa Ad
    have hr0 := (own_rows Aa (by rw [placed, turnTo_len]; exact Af) (len_cells Ad.o)).1
    have Ag := lfTree_is K s0 wr (HT.o.below Ab Ar) oa k oc (placed ls) hr0 Ad.o (by omega)
    obtain ⟨R, hR⟩ : ∃ R, R = tlAt K s0 (placed ls) k := ⟨_, rfl⟩
    rw [← hR] at Ag
    have A6 := Hh hR
    have Ap := Hh Ag
    have Ax := Hh Aa
    have Ao := Hh Ab
    have Ba := Hh (show ∀ j, (Value.slice oa k oc).ownBlock = some j → j < wr.heap.size from fun j e => by
     have h9 := (own_rows Aa (by rw [placed, turnTo_len]; exact Af) (len_cells Ad.o)).2
     cases oa with
     | none => cases e
     | some a => injection e with e; rw [← e]; exact (h9 a rfl).2)
    clear Ag hr0 Aa Ab hpl
    go_wp2_with fail
    refine Ap.o.mono ?_
    rintro _ w5 ⟨hb5, hm⟩
    have hb5' := Ao.o.trans (hb5.mono Ao.o.size)
    have Ah := own_kept Ax.o (Kept.of_below (S := fun _ => False) hb5) (fun _ _ e => e)
    cases R with
    | error x =>
     dsimp only at hm
     subst hm
     have Au := Hh hb5'
     have hxn : ¬ x = 0 := by
      intro e
      subst e
      exact tlAt_nz hR.symm
     have hx2 : (x != 0) = true := by rw [bne_iff_ne]; exact hxn
     clear hb5 hb5' Ah hxn hR
     go_wp2_with fail
     go_ret2
     refine ⟨Au.o, ?_⟩
     rw [← A6.o]
     exact rfl
    | ok T =>
     dsimp only at hm
     obtain ⟨g, rfl, htr, hg⟩ := hm
     have Au := Hh hb5'
     have Bg := Hh hb5.size
     have Bd := Hh Ah
     have A7 := Hh htr
     have Az := Hh (show ∀ v : World, Tr K s0 (fun j => wr.heap.size ≤ j) v g T → Tabs K s0 v → Calls Tryz.prog 46 #[.pointer (some ⟨g, 0, none⟩)] v fun e w' => e = .returned (.agg (ndV (partNd K s0 256 T)).toArray) ∧ Tr K s0 (fun j => wr.heap.size ≤ j) w' g T ∧ Kept (fun j => wr.heap.size ≤ j) v w' from fun v h1 h2 => tr_root h1 h2 (by have := Ao.o.size; have := HT.o.low; omega))
     have hrh := part_hash K s0 HT.o.len 256 T
     have hrs := parts_fits htr
     obtain ⟨r, hrr⟩ : ∃ r, r = partNd K s0 256 T := ⟨_, rfl⟩
     rw [← hrr] at hrh hrs Az
     have Bf := Hh hrr
     clear hrr
     have An := Hh hrh
     have Ay := Hh hrs
     have Bh := Hh (HT.o.below hb5' Ar)
     clear hb5 hb5' Ah htr hrh hrs hg
     go_wp2_with fail
     refine (Az.o w5 A7.o Bh.o).mono ?_
     rintro _ w6 ⟨rfl, A1, hk6⟩
     have hb6 := Au.o.trans (hk6.below (by have := Au.o.size; have := Ao.o.size; have := Bg.o; omega) (fun j e => by have e' : wr.heap.size ≤ j := e; have := Ao.o.size; omega))
     have Aj := own_kept Bd.o hk6 (fun j e e2 => by have e' : wr.heap.size ≤ j := e2; have := Ba.o j e; omega)
     obtain ⟨h7, hb7⟩ := new_row w6 30 Zn (ndV r).toArray
     have Ak := own_kept Aj (Kept.of_below (S := fun _ => False) hb7) (fun _ _ e => e)
     have A3 := Hh (hb6.trans (hb7.mono hb6.size))
     have A4 := Hh Ak
     have H7 := Hh h7
     have A0 := Hh (show (Tryz.prog.info? 30).map (·.size) = some (ndV r).toArray.size by rw [List.size_toArray, ndV_len An.o]; kernel_rfl)
     have A8 := Hh (show Zn.size = (ndV r).toArray.size by rw [As, List.size_toArray, ndV_len An.o])
     clear hb6 Aj h7 hb7 Ak A1 hk6 Az A7 As
     go_wp2_with (refine wpList_store_row rfl 30 (.tmp 8) (.tmp 32) rfl w6.heap.size (ndV r).toArray rfl rfl 30 Zn (heap_alloc_new w6 _) A0.o A8.o (ndV_one r) ?_)
     obtain ⟨W7, hW7⟩ : ∃ W, W = (w6.alloc (.cells Zn 30)).setRow w6.heap.size (ndV r).toArray := ⟨_, rfl⟩
     rw [← hW7] at A3 A4 H7 ⊢
     clear hW7 hzn A8
     generalize w6.heap.size = G at H7 ⊢
     go_loopw [35] (fun i wx => ∃ k2 : Nat, i = .int .i64 (k2 : Int) ∧ k2 ≤ k ∧ wx.ownsRow w.heap.size 32 99 (.slice oa k oc) k ((turnTo (spF r) k2 (placed ls)).flatMap LeafT.cells) ∧ Below w.heap.size w wx ∧ Has wx G 30 (ndV r).toArray) (fun i _ => k - (intOf i).toNat)
     case atStart => exact ⟨0, rfl, Nat.zero_le _, by rw [turnTo_zero]; exact A4.o, A3.o, H7.o⟩
     case round =>
      obtain ⟨k2, rfl, hk2, Aa, Ab, hbx⟩ := hrel
      have Aw := Hh (show ∀ x ∈ turnTo (spF r) k2 (placed ls), x.ok from turnTo_ok (spF r) k2 (placed ls) LeafT.ok Ad.o (fun i x hi hx => spF_ok hx r An.o Ay.o i))
      by_cases hlt2 : k2 < k
      · have hlt2' : (k2 : Int) < (k : Int) := by omega
        obtain ⟨x, hx⟩ : ∃ x, (placed ls)[k2]? = some x := ⟨_, List.getElem?_eq_getElem (by rw [placed, turnTo_len]; omega)⟩
        have hx2 := turnTo_get (spF r) k2 (placed ls) k2 x hx
        rw [if_neg (Nat.lt_irrefl k2)] at hx2
        have Ae := Ad.o x (List.mem_of_getElem? hx)
        obtain ⟨b, hA, hbb, hth, Ac, hk2'⟩ := own_set Aa (by rw [turnTo_len, placed, turnTo_len]; exact Af) (len_cells Aw.o) hlt2 x (spF r k2 x) hx2 (LeafT.len (spF_ok Ae r An.o Ay.o k2)) 66 (ndV r) (by rw [ndV_len An.o]; decide) (spF_cells Ae r An.o Ay.o k2)
        have hne : b ≠ G := own_has_ne Aa hbx (by decide) b (by rw [hA]; rfl)
        subst hA
        rw [turnTo_succ (spF r) k2 (placed ls) x hx] at Ac
        have hat := A2.o b k oc k2 hlt2
        have Am := Hh Ac
        have Bi := Hh hth
        have Al := Hh (Ab.trans (hk2'.below Ab.size (fun j e => by rw [show j = b from e]; exact hbb)))
        have Bb := Hh hbx
        have Av := Hh (hbx.kept hk2' (fun e => hne e.symm))
        clear Ac hk2' Aa hx hx2 Ae hth Ab hbx hne
        go_wp2_with (first
         | (refine wpList_load_row rfl 30 (.tmp 8) rfl G rfl 30 (ndV r).toArray (0, 0) _ Bb.o Tryz.underlying30 rfl A0.o ?_)
         | (refine wpList_store_mid rfl 30 (.tmp 42) (.tmp 40) rfl b (k2 * 99 + 66) (ndV r).toArray rfl rfl (by rw [List.size_toArray]; exact Bi.o) A0.o (ndV_one r) ?_))
        go_roundw
        case rel => exact ⟨k2 + 1, by go_num, by omega, Am.o, Al.o, Av.o⟩
        case measure => simp [intOf]; omega
      · obtain rfl : k2 = k := by omega
        have hlt2' : ¬ (k2 : Int) < (k2 : Int) := by omega
        have hsp : turnTo (spF r) k2 (placed ls) = splitL r (placed ls) := by rw [splitL, placed, turnTo_len, Af]
        rw [hsp] at Aa
        have HF := Hh (And.intro Ab Aa)
        clear Aa Ab hbx hsp
        go_wp2_with fail
        go_ret2
        refine ⟨HF.o.1, ?_⟩
        rw [← A6.o]
        exact ⟨oa, oc, rfl, by rw [← Bf.o]; exact HF.o.2⟩
/- The plain law of leaves: the tree of a transfer is its leaves, each at its own place. -/

theorem place_first : ∀ i : Fin 8, (placeK KS SS i.val).getD 0 0 = [216, 118, 61, 40, 43, 137, 243, 66].getD i.val 0 := by decide +kernel
theorem place_ne (i j : Nat) (hi : i < 8) (hj : j < 8) (h : placeK KS SS i = placeK KS SS j) : i = j := by
 have h1 := place_first ⟨i, hi⟩
 have h2 := place_first ⟨j, hj⟩
 rw [show (⟨i, hi⟩ : Fin 8).val = i from rfl, h, h2] at h1
 have : ∀ a b : Fin 8, [216, 118, 61, 40, 43, 137, 243, 66].getD a.val 0 = [216, 118, 61, 40, 43, 137, 243, 66].getD b.val 0 → a = b := by decide
 exact (congrArg Fin.val (this ⟨j, hj⟩ ⟨i, hi⟩ h1)).symm
def partsT (K s0 : List Wd) (ls : List LeafT) : List Lf := ls.mapIdx (partL K s0)
def amS (ls : List LeafT) : Nat := (ls.map (·.am)).sum
theorem amS_app (a b : List LeafT) : amS (a ++ b) = amS a + amS b := by simp [amS]
theorem parts_sum (K s0 : List Wd) (ls : List LeafT) : sumT (partsT K s0 ls) = amS ls := by
 unfold sumT partsT amS
 congr 1
 apply List.ext_getElem?
 intro i
 simp only [List.getElem?_map, List.getElem?_mapIdx]
 cases ls[i]? <;> rfl
theorem find_new {T : List Lf} {k : List Nat} (h : ∀ t ∈ T, t.k ≠ k) : findT T k = none := by
 cases e : findT T k with
 | none => rfl
 | some l => exact absurd (find_key e).1 (h l (find_key e).2)
theorem parts_take (K s0 : List Wd) (ls : List LeafT) (k : Nat) (l : LeafT) (h : ls[k]? = some l) : partsT K s0 (ls.take (k + 1)) = partsT K s0 (ls.take k) ++ [partL K s0 k l] := by
 have hk := (List.getElem?_eq_some_iff.1 h).1
 unfold partsT
 rw [List.take_add_one, h, List.mapIdx_append]
 simp [List.length_take, Nat.min_eq_left (Nat.le_of_lt hk)]
theorem parts_key {ls : List LeafT} {k : Nat} (hk : k < 8) : ∀ t ∈ partsT KS SS (ls.take k), t.k ≠ placeK KS SS k := by
 intro t ht e
 obtain ⟨i, hi⟩ := List.getElem?_of_mem ht
 have hil := (List.getElem?_eq_some_iff.1 hi).1
 simp only [partsT, List.length_mapIdx, List.length_take] at hil
 unfold partsT at hi
 rw [List.getElem?_mapIdx] at hi
 cases h : (ls.take k)[i]? with
 | none => rw [h] at hi; cases hi
 | some l =>
  rw [h] at hi
  injection hi with hi
  rw [← hi] at e
  have := place_ne i k (by omega) hk e
  omega
theorem putE_part {ls : List LeafT} {k : Nat} {l : LeafT} (hl : l.ok) (hk : k < 8) : putE (partsT KS SS (ls.take k)) (partL KS SS k l) = if amS (ls.take k) + l.am < 18446744073709551616 then 0 else 10 := by
 have h64 : (partL KS SS k l).v.length = 64 := by show (l.id ++ l.ow).length = 64; rw [List.length_append, hl.id.1, hl.ow.1]
 have hf : findT (partsT KS SS (ls.take k)) (partL KS SS k l).k = none := find_new (parts_key hk)
 have hlen : (partsT KS SS (ls.take k)).length ≤ k := by simp [partsT]; omega
 have hw : wasS (partsT KS SS (ls.take k)) (partL KS SS k l).k = 0 := by unfold wasS; rw [hf]
 unfold putE
 rw [h64, if_neg (by omega), if_neg (by omega), if_neg (by rintro ⟨_, h⟩; omega), hw, parts_sum]
 rfl
theorem tlStep_at {ls : List LeafT} {k : Nat} {l : LeafT} (hl : l.ok) (hk : k < 8) (h : ls[k]? = some l) : tlStep KS SS k l (partsT KS SS (ls.take k)) =
   if l.pl ≠ (k : Int) ∨ l.am = 0 then .error 22 else if amS (ls.take k) + l.am < 18446744073709551616 then .ok (partsT KS SS (ls.take (k + 1))) else .error 10 := by
 unfold tlStep
 rw [putE_part hl hk]
 by_cases h1 : l.pl ≠ (k : Int) ∨ l.am = 0
 · rw [if_pos h1, if_pos h1]
 · rw [if_neg h1, if_neg h1]
   by_cases h2 : amS (ls.take k) + l.am < 18446744073709551616
   · rw [if_pos h2, if_pos rfl, if_pos h2]
     have he := putE_part (ls := ls) hl hk
     rw [if_pos h2] at he
     rw [putN, if_pos he, put_new (find_new (parts_key hk)), parts_take KS SS ls k l h]
   · rw [if_neg h2, if_neg (by decide), if_neg h2]
theorem tl_makes {ls : List LeafT} (hok : ∀ l ∈ ls, l.ok) (hp : ∀ (i : Nat) l, ls[i]? = some l → l.pl = (i : Int) ∧ l.am ≠ 0) (hs : amS ls < 18446744073709551616) : ∀ (k : Nat), k ≤ 8 → k ≤ ls.length → tlAt KS SS ls k = .ok (partsT KS SS (ls.take k))
 | 0, _, _ => rfl
 | k + 1, hk, hl => by
  have e := tl_makes hok hp hs k (by omega) (by omega)
  obtain ⟨l, hlk⟩ : ∃ l, ls[k]? = some l := ⟨_, List.getElem?_eq_getElem (by omega)⟩
  obtain ⟨q1, q2⟩ := hp k l hlk
  have hle : amS (ls.take k) + l.am ≤ amS ls := by
   have h1 : amS ls = amS (ls.take (k + 1)) + amS (ls.drop (k + 1)) := by
    rw [← amS_app, List.take_append_drop]
   rw [h1, show amS (ls.take (k + 1)) = amS (ls.take k) + l.am by rw [amS, List.take_add_one, hlk]; simp [amS]]
   exact Nat.le_add_right _ _
  rw [tlAt_succ e hlk, tlStep_at (hok l (List.mem_of_getElem? hlk)) (by omega) hlk, if_neg (by rintro (h | h) <;> contradiction), if_pos (by omega)]
section
/- The commit in plain lists: what stands of each asset, the tree of trees, what an output says. -/

def lfL (K s0 : List Wd) (l : LeafT) : Lf := ⟨keyK K s0 l, leafB l, l.am⟩
def idStep (a : List (List Nat)) (l : LeafT) : List (List Nat) := if l.id ∈ a then a else a ++ [l.id]
def idsOf (ls : List LeafT) : List (List Nat) := ls.foldl idStep []
def ofId (ls : List LeafT) (id : List Nat) : List LeafT := ls.filter fun l => l.id = id
def lowT (K s0 : List Wd) (ls : List LeafT) (id : List Nat) : List Lf := (ofId ls id).map (lfL K s0)
def topL (K s0 : List Wd) (ls : List LeafT) (id : List Nat) : Lf := ⟨id, (partNd K s0 256 (lowT K s0 ls id)).h, (partNd K s0 256 (lowT K s0 ls id)).s⟩
def topT (K s0 : List Wd) (ls : List LeafT) : List Lf := (idsOf ls).map (topL K s0 ls)
def anchorOf (K s0 : List Wd) (ls : List LeafT) : List Nat := if ls = [] then List.replicate 32 0 else anchorK K s0 (partNd K s0 256 (topT K s0 ls))
def addE (K s0 : List Wd) (ls : List LeafT) (l : LeafT) : Int := if leafBad l = true then 1 else if keyK K s0 l ∈ ls.map (keyK K s0) then 6 else if 256 ≤ ls.length then 4 else if amS ls + l.am < 18446744073709551616 then 0 else 10
def addC (K s0 : List Wd) (ls : List LeafT) (l : LeafT) : List LeafT := if addE K s0 ls l = 0 then ls ++ [l] else ls
structure Fine (K s0 : List Wd) (ls : List LeafT) : Prop where
 ok : ∀ l ∈ ls, l.ok
 good : ∀ l ∈ ls, leafBad l = false
 keys : (ls.map (keyK K s0)).Nodup
 len : ls.length ≤ 256
 fit : amS ls < 18446744073709551616
variable {K s0 : List Wd} {ls : List LeafT} {l : LeafT} {id : List Nat}
theorem fine_nil : Fine K s0 [] := ⟨fun _ h => (by cases h), fun _ h => (by cases h), List.nodup_nil, by decide, by decide⟩
theorem addE_zero (h : addE K s0 ls l = 0) : leafBad l = false ∧ keyK K s0 l ∉ ls.map (keyK K s0) ∧ ls.length < 256 ∧ amS ls + l.am < 18446744073709551616 := by
 unfold addE at h
 by_cases h1 : leafBad l = true
 · rw [if_pos h1] at h; exact absurd h (by decide)
 · rw [if_neg h1] at h
   by_cases h2 : keyK K s0 l ∈ ls.map (keyK K s0)
   · rw [if_pos h2] at h; exact absurd h (by decide)
   · rw [if_neg h2] at h
     by_cases h3 : 256 ≤ ls.length
     · rw [if_pos h3] at h; exact absurd h (by decide)
     · rw [if_neg h3] at h
       by_cases h4 : amS ls + l.am < 18446744073709551616
       · exact ⟨by simpa using h1, h2, by omega, h4⟩
       · rw [if_neg h4] at h; exact absurd h (by decide)
theorem amS_one (l : LeafT) : amS [l] = l.am := by simp [amS]
theorem Fine.snoc (h : Fine K s0 ls) (hl : l.ok) (he : addE K s0 ls l = 0) : Fine K s0 (ls ++ [l]) := by
 obtain ⟨h1, h2, h3, h4⟩ := addE_zero he
 refine ⟨fun x hx => ?_, fun x hx => ?_, ?_, by simp; omega, by rw [amS_app, amS_one]; exact h4⟩
 · rcases List.mem_append.1 hx with hx | hx
   · exact h.ok x hx
   · rw [List.mem_singleton.1 hx]; exact hl
 · rcases List.mem_append.1 hx with hx | hx
   · exact h.good x hx
   · rw [List.mem_singleton.1 hx]; exact h1
 · rw [List.map_append, List.nodup_append]
   refine ⟨h.keys, by simp, fun a ha b hb e => ?_⟩
   rw [List.map_cons, List.map_nil, List.mem_singleton] at hb
   subst hb
   exact h2 (by rw [← e]; exact ha)
theorem Fine.add (h : Fine K s0 ls) (hl : l.ok) : Fine K s0 (addC K s0 ls l) := by
 unfold addC
 by_cases he : addE K s0 ls l = 0
 · rw [if_pos he]; exact h.snoc hl he
 · rw [if_neg he]; exact h
theorem idsOf_snoc (ls : List LeafT) (l : LeafT) : idsOf (ls ++ [l]) = idStep (idsOf ls) l := by
 unfold idsOf
 rw [List.foldl_append]
 rfl
theorem list_snoc {α : Type} {P : List α → Prop} (h0 : P []) (h1 : ∀ xs x, P xs → P (xs ++ [x])) (xs : List α) : P xs := by
 have : ∀ n (ys : List α), ys.length = n → P ys := by
  intro n
  induction n with
  | zero => intro ys hy; rw [List.length_eq_zero_iff.1 hy]; exact h0
  | succ n ih =>
   intro ys hy
   have hne : ys ≠ [] := fun e => by rw [e] at hy; cases hy
   rw [← List.dropLast_concat_getLast hne]
   exact h1 _ _ (ih _ (by rw [List.length_dropLast, hy]; rfl))
 exact this _ xs rfl
theorem ids_nodup (ls : List LeafT) : (idsOf ls).Nodup := by
 refine list_snoc (P := fun ls => (idsOf ls).Nodup) List.nodup_nil (fun xs x h => ?_) ls
 rw [idsOf_snoc]
 unfold idStep
 by_cases hm : x.id ∈ idsOf xs
 · rw [if_pos hm]; exact h
 · rw [if_neg hm, List.nodup_append]
   refine ⟨h, by simp, fun a ha b hb e => ?_⟩
   rw [List.mem_singleton] at hb
   subst hb
   exact hm (by rw [← e]; exact ha)
theorem ids_mem (ls : List LeafT) (id : List Nat) : id ∈ idsOf ls ↔ ∃ l ∈ ls, l.id = id := by
 refine list_snoc (P := fun ls => id ∈ idsOf ls ↔ ∃ l ∈ ls, l.id = id) ⟨fun h => (by cases h), fun ⟨_, h, _⟩ => (by cases h)⟩ (fun xs x h => ?_) ls
 have key : id ∈ idStep (idsOf xs) x ↔ id ∈ idsOf xs ∨ x.id = id := by
   unfold idStep
   by_cases hm : x.id ∈ idsOf xs
   · rw [if_pos hm]
     exact ⟨fun e => .inl e, fun e => by rcases e with e | e; exact e; rw [← e]; exact hm⟩
   · rw [if_neg hm, List.mem_append, List.mem_singleton]
     exact ⟨fun e => by rcases e with e | e; exact .inl e; exact .inr e.symm, fun e => by rcases e with e | e; exact .inl e; exact .inr e.symm⟩
 rw [idsOf_snoc, key, h]
 constructor
 · rintro (⟨l, hl, e⟩ | e)
   · exact ⟨l, List.mem_append.2 (.inl hl), e⟩
   · exact ⟨x, by simp, e⟩
 · rintro ⟨l, hl, e⟩
   rcases List.mem_append.1 hl with hl | hl
   · exact .inl ⟨l, hl, e⟩
   · rw [List.mem_singleton.1 hl] at e; exact .inr e
theorem ofId_snoc (ls : List LeafT) (l : LeafT) (id : List Nat) : ofId (ls ++ [l]) id = ofId ls id ++ (if l.id = id then [l] else []) := by
 unfold ofId
 rw [List.filter_append]
 congr 1
 by_cases h : l.id = id
 · rw [if_pos h, List.filter_cons_of_pos (by simpa using h)]; rfl
 · rw [if_neg h, List.filter_cons_of_neg (by simpa using h)]; rfl
theorem lowT_snoc (ls : List LeafT) (l : LeafT) (id : List Nat) : lowT K s0 (ls ++ [l]) id = lowT K s0 ls id ++ (if l.id = id then [lfL K s0 l] else []) := by
 unfold lowT
 rw [ofId_snoc, List.map_append]
 by_cases h : l.id = id
 · rw [if_pos h, if_pos h]; rfl
 · rw [if_neg h, if_neg h]; rfl
theorem low_nil (h : id ∉ idsOf ls) : lowT K s0 ls id = [] := by
 unfold lowT ofId
 rw [List.filter_eq_nil_iff.2 (fun l hl => by
  have : ¬ l.id = id := fun e => h ((ids_mem ls id).2 ⟨l, hl, e⟩)
  simpa using this)]
 rfl
theorem low_sum (ls : List LeafT) (id : List Nat) : sumT (lowT K s0 ls id) = amS (ofId ls id) := by
 unfold lowT sumT amS
 rw [List.map_map]
 rfl
theorem ids_sum (ls : List LeafT) : ∀ D : List (List Nat), D.Nodup → (D.map fun id => amS (ofId ls id)).sum ≤ amS ls := by
 refine list_snoc (P := fun ls => ∀ D : List (List Nat), D.Nodup → (D.map fun id => amS (ofId ls id)).sum ≤ amS ls) (fun D _ => ?_) (fun xs x h D hD => ?_) ls
 · have hz : ∀ D : List (List Nat), (D.map fun id => amS (ofId [] id)).sum = 0 := by
    intro D
    induction D with
    | nil => rfl
    | cons a D ih => rw [List.map_cons, List.sum_cons, ih]; rfl
   rw [hz]
   exact Nat.zero_le _
 · have hx : ∀ D : List (List Nat), D.Nodup → (D.map fun id => amS (ofId (xs ++ [x]) id)).sum ≤ (D.map fun id => amS (ofId xs id)).sum + (if x.id ∈ D then x.am else 0) := by
    intro D
    induction D with
    | nil => intro _; exact Nat.zero_le _
    | cons a D ih =>
     intro hn
     rw [List.nodup_cons] at hn
     have := ih hn.2
     rw [List.map_cons, List.sum_cons, List.map_cons, List.sum_cons, ofId_snoc, amS_app]
     by_cases e : x.id = a
     · have hnd : x.id ∉ D := by rw [e]; exact hn.1
       rw [if_neg hnd] at this
       rw [if_pos e, if_pos (by rw [e]; exact List.mem_cons_self), amS_one]
       omega
     · rw [if_neg e]
       have h0 : amS [] = 0 := rfl
       by_cases e2 : x.id ∈ D
       · rw [if_pos e2] at this
         rw [if_pos (List.mem_cons_of_mem _ e2)]
         omega
       · rw [if_neg e2] at this
         rw [if_neg (fun e3 => by rcases List.mem_cons.1 e3 with e3 | e3; exact e e3; exact e2 e3)]
         omega
   have h1 := hx D hD
   have h2 := h D hD
   rw [amS_app, amS_one]
   split at h1 <;> omega
theorem of_le (ls : List LeafT) (id : List Nat) : amS (ofId ls id) ≤ amS ls := by
 have := ids_sum ls [id] (by simp)
 simpa using this
theorem low_keys (ls : List LeafT) (id : List Nat) : (lowT K s0 ls id).map (·.k) = (ofId ls id).map (keyK K s0) := by
 unfold lowT
 rw [List.map_map]
 rfl
theorem low_keyed (hs0 : s0.length = 8) (h : (ls.map (keyK K s0)).Nodup) (id : List Nat) : Keyed ((lowT K s0 ls id).map (·.k)) := by
 rw [low_keys]
 refine ⟨fun k hk => ?_, ?_⟩
 · obtain ⟨l, _, rfl⟩ := List.mem_map.1 hk
   exact tagD_hash K s0 hs0 _ _
 · exact (List.Sublist.map _ List.filter_sublist).nodup h
theorem low_part (hs0 : s0.length = 8) (h : (ls.map (keyK K s0)).Nodup) (id : List Nat) : (partNd K s0 256 (lowT K s0 ls id)).s = amS (ofId ls id) := by
 rw [part_sum K s0 256 _ (low_keyed hs0 h id) (coh_top _), low_sum]
theorem low_hash (hs0 : s0.length = 8) (id : List Nat) : IsHash (partNd K s0 256 (lowT K s0 ls id)).h := part_hash K s0 hs0 256 _
theorem put_low (h : Fine K s0 ls) (hl : l.ok) (he : addE K s0 ls l = 0) : putE (lowT K s0 ls l.id) (lfL K s0 l) = 0 ∧ putN (lowT K s0 ls l.id) (lfL K s0 l) = lowT K s0 (ls ++ [l]) l.id := by
 obtain ⟨h1, h2, h3, h4⟩ := addE_zero he
 have hb : (leafB l).length = 123 := by
  have hr := recs_len l hl
  unfold leafB
  rw [List.length_flatMap]
  unfold recsOf recB
  have e1 := hl.id.1
  have e2 := hl.ow.1
  have e3 := hl.sp.1
  simp [List.length_append, e1, e2, e3, eight_len', szB]
 have hf : findT (lowT K s0 ls l.id) (lfL K s0 l).k = none := by
  cases hc : findT (lowT K s0 ls l.id) (lfL K s0 l).k with
  | none => rfl
  | some o =>
   exfalso
   obtain ⟨e1, e2⟩ := find_key hc
   apply h2
   have : o.k ∈ (lowT K s0 ls l.id).map (·.k) := List.mem_map.2 ⟨o, e2, rfl⟩
   rw [low_keys, e1] at this
   exact (List.Sublist.map _ List.filter_sublist).subset this
 have hlen : (lowT K s0 ls l.id).length ≤ ls.length := by
  unfold lowT ofId
  rw [List.length_map]
  exact List.length_filter_le _ _
 have Aa : wasS (lowT K s0 ls l.id) (lfL K s0 l).k = 0 := by unfold wasS; rw [hf]
 have hsum := of_le ls l.id
 have e0 : putE (lowT K s0 ls l.id) (lfL K s0 l) = 0 := by
  unfold putE
  rw [if_neg (fun e => by have := e.1; rw [show (lfL K s0 l).v = leafB l from rfl, hb] at this; omega), if_neg (by rw [show (lfL K s0 l).v = leafB l from rfl, hb]; decide), if_neg (fun e => by have := e.2; omega), Aa, low_sum, if_pos (by show amS (ofId ls l.id) - 0 + l.am < 18446744073709551616; omega)]
 refine ⟨e0, ?_⟩
 unfold putN
 rw [if_pos e0, put_new hf, lowT_snoc, if_pos rfl]
theorem low_other {id : List Nat} (h : l.id ≠ id) : lowT K s0 (ls ++ [l]) id = lowT K s0 ls id := by
 rw [lowT_snoc, if_neg h, List.append_nil]
end
/- The walks of commit's New, high and anchor. -/

theorem anchorK_hash (K s0 : List Wd) (hs : s0.length = 8) (n : Nd) : IsHash (anchorK K s0 n) := tagD_hash K s0 hs _ _
theorem nd_sum_at {n : Nd} (h : IsHash n.h) : (ndV n)[32]? = some (.int .u64 (n.s : Int)) := by
 unfold ndV ncells
 rw [List.getElem?_append_right (by rw [bcells_length, h.1]; exact Nat.le_refl _), bcells_length, h.1]
 rfl
theorem nd_bytes {v : World} {B g : Nat} {n : Nd} (hn : IsHash n.h) (h : Has v B 30 (ndV n).toArray) (hg : B ≠ g) : Bytes v g (.slice (some ⟨B, 0, none⟩) 32 32) n.h :=
 ⟨_, _, by rw [hn.1], by rw [hn.1]; exact Nat.le_refl _, hn.2, fun _ => ⟨B, 0, rfl, hg, fun i hi => by
  rw [Nat.zero_add]
  refine h.cell_is ?_
  rw [List.getElem?_toArray]
  unfold ndV ncells
  rw [List.getElem?_append_left (by rw [bcells_length]; exact hi)]
  exact bcells_get _ i hi⟩⟩
theorem zero_leafA : ∃ Z : Array Value, (∀ w, (zeroValue 50).run Tryz.prog w = .ok (.agg Z) w) ∧ Z.size = 2 ∧ ¬ Z = #[] := ⟨#[.slice none 0 0, .int .u64 0], fun w => by kernel_rfl, rfl, by decide⟩
theorem build_leaf2 (B s : Nat) (w : World) : (Instr.build 50 #[(0, .slice (some ⟨B, 0, none⟩) 32 32), (1, .int .u64 (s : Int))]).run Tryz.prog w = .ok (.agg #[.slice (some ⟨B, 0, none⟩) 32 32, .int .u64 (s : Int)]) w := by kernel_rfl
theorem partsN_2 {w : World} {g pg : Nat} {v0 v1 : Value} {p0 p1 : List Nat} (h : Has w pg 48 #[v0, v1]) (h0 : Bytes w g v0 p0) (h1 : Bytes w g v1 p1) (hne : pg ≠ g) : PartsN w g (.slice (some ⟨pg, 0, none⟩) 2 2) [p0, p1] :=
 ⟨_, _, rfl, fun _ => ⟨pg, 0, rfl, hne, fun i hi => by
  match i, hi with
  | 0, _ => exact ⟨v0, h.cell_is rfl, h0⟩
  | 1, _ => exact ⟨v1, h.cell_is rfl, h1⟩⟩⟩
theorem eight_bytes {v : World} {B g : Nat} {x : Nat} (h : Has v B 165 (bcells (eight x)).toArray) (hg : B ≠ g) : Bytes v g (.slice (some ⟨B, 0, none⟩) 8 8) (eight x) :=
 ⟨_, _, by rw [eight_length], by rw [eight_length]; exact Nat.le_refl _, eight_lt' x, fun _ => ⟨B, 0, rfl, hg, fun i hi => by
  rw [Nat.zero_add]
  refine h.cell_is ?_
  rw [List.getElem?_toArray]
  exact bcells_get _ i hi⟩⟩
theorem boxes_high (w : World) (LN : List Value) (Z : Array Value) : ∃ W1, W1 = (((w.alloc (.cells LN.toArray 30))).alloc (.cells Z 50)) ∧
   Has W1 (w.heap.size) 30 LN.toArray ∧ Has W1 (w.heap.size + 1) 50 Z ∧ Below w.heap.size w W1 := by
 refine ⟨_, rfl, ?_, ?_, ?_⟩
 · have := Has.new w 30 LN.toArray
   exact (this).alloc _
 · have := Has.new (w.alloc (.cells LN.toArray 30)) 50 Z
   exact (by simpa using this : Has _ (w.heap.size + 1) _ _)
 · exact ((Below.refl _ _).alloc (Nat.le_refl _) _).alloc (by simp) _

theorem boxes_anchor (w : World) (LN : List Value) (Z Y : Array Value) : ∃ W1, W1 = (((((w.alloc (.cells LN.toArray 30))).alloc (.cells Z 27))).alloc (.cells Y 165)) ∧
   Has W1 (w.heap.size) 30 LN.toArray ∧ Has W1 (w.heap.size + 1) 27 Z ∧ Has W1 (w.heap.size + 1 + 1) 165 Y ∧ Below w.heap.size w W1 := by
 refine ⟨_, rfl, ?_, ?_, ?_, ?_⟩
 · have := Has.new w 30 LN.toArray
   exact ((this).alloc _).alloc _
 · have := Has.new (w.alloc (.cells LN.toArray 30)) 27 Z
   exact ((by simpa using this : Has _ (w.heap.size + 1) _ _)).alloc _
 · have := Has.new (((w.alloc (.cells LN.toArray 30))).alloc (.cells Z 27)) 165 Y
   exact (by simpa using this : Has _ (w.heap.size + 1 + 1) _ _)
 · exact (((Below.refl _ _).alloc (Nat.le_refl _) _).alloc (by simp) _).alloc (by simp; omega) _
set_option maxRecDepth 100000 in
set_option maxHeartbeats 4000000 in
theorem coHigh_is (w : World) (n : Nd) (hn : IsHash n.h) (hs : n.s < 18446744073709551616) : Calls Tryz.prog 47 #[.agg (ndV n).toArray] w fun e w' => ∃ v', e = .returned (leafV v' n.s) ∧ Bytes w' w'.heap.size v' n.h ∧ Below w.heap.size w w' := by
 obtain ⟨ZL, hzl, Ac, hzln⟩ := zero_leafA
 obtain ⟨LN, hLN⟩ : ∃ L, L = ndV n := ⟨_, rfl⟩
 obtain ⟨s, hse⟩ : ∃ x, x = n.s := ⟨_, rfl⟩
 rw [← hLN, ← hse]
 have Ae := Hh hLN
 have ES := Hh hse
 have HN := Hh hn
 clear hLN hse hn hs
 go_enter Tryz.func47, Tryz.ntmps47
 go_upto_region 1 with (fail)
 obtain ⟨W1, hW1, h1, h2, hb1⟩ := boxes_high w LN ZL
 rw [← hW1]
 clear hW1
 obtain ⟨B, hB⟩ : ∃ b, b = w.heap.size := ⟨_, rfl⟩
 rw [← hB] at h1 h2 hb1 ⊢
 have Af := Hh hB
 have hBS : B + 1 < W1.heap.size := h2.lt
 clear hB
 have HC := Hh (show ∀ v : World, Has v B 30 LN.toArray → v.cell? ⟨B, 32, none⟩ = some (.int .u64 (s : Int)) from fun v hv => hv.cell_is (by rw [List.getElem?_toArray, Ae.o, ES.o]; exact nd_sum_at HN.o))
 have hS0 : Has W1.drew B 30 LN.toArray ∧ Below B w W1.drew := ⟨h1, below_drew hb1⟩
 have hz : Has W1.drew (B + 1) 50 ZL := h2
 have hBW : B + 1 < W1.drew.heap.size := hBS
 clear hb1 h1 h2 hBS
 have SZ := Hh (show (Tryz.prog.info? 50).map (·.size) = some 2 by kernel_rfl)
 refine wp_region_noPanic ?_
 refine wp_region_held_drew (S := (fun v => Has v B 30 LN.toArray ∧ Below B w v)) (by kernel_rfl) hS0 (fun hH0 => ?_)
 apply tl 0 rfl ?hv hH0 ?_
 case hv => intro w' hS; go_simp; try rfl
 simp only [qc]
 apply tl 1 rfl ?hv hH0 ?_
 case hv => intro w' hS; have z0 := HC.o w' hS.1; go_simp; try rfl
 simp only [qc]
 apply tl 2 rfl ?hv hH0 ?_
 case hv => intro w' hS; go_simp; try rfl
 simp only [qc]
 apply tl 3 rfl ?hv hH0 ?_
 case hv => intro w' hS; have z0 := HC.o w' hS.1; go_simp; try rfl
 simp only [qc]
 refine tk 4 (v := (.agg #[.slice (some ⟨B, 0, none⟩) 32 32, .int .u64 (s : Int)])) rfl (yieldsIf_build (by kernel_rfl) 50 #[(0, .tmp 4), (1, .tmp 6)] rfl #[(0, .slice (some ⟨B, 0, none⟩) 32 32), (1, .int .u64 (s : Int))] (by kernel_rfl) _ (fun w' _ => build_leaf2 B s w')) hH0 ?_
 simp only [qc]
 refine rdy [5] (ar1 rfl fun KK hKK => ?_)
 refine step_store_mid rfl 50 (.tmp 2) (.tmp 7) rfl (B + 1) 0 #[.slice (some ⟨B, 0, none⟩) 32 32, .int .u64 (s : Int)] rfl rfl (hz.there 0 2 (by rw [Ac]; exact Nat.le_refl 2)) SZ.o (by simp [Value.oneCell']) ?_
 have Aa := set_box (L := [.slice (some ⟨B, 0, none⟩) 32 32, .int .u64 (s : Int)]) hH0.2 hz (Nat.le_succ B) (Nat.le_of_lt (Nat.lt_of_succ_lt hBW)) Ac
 obtain ⟨xb, hxb⟩ : ∃ y, y = W1.drew.setCells (B + 1) 0 [.slice (some ⟨B, 0, none⟩) 32 32, .int .u64 (s : Int)] := ⟨_, rfl⟩
 rw [← hxb] at Aa
 change KK _ (W1.drew.setCells (B + 1) 0 [.slice (some ⟨B, 0, none⟩) 32 32, .int .u64 (s : Int)])
 rw [← hxb]
 have Ab : Has xb B 30 LN.toArray ∧ Below B w xb := ⟨hH0.1.kept Aa.2.2 (by omega), Aa.1⟩
 clear hxb
 refine hKK _ _ Ab fun hH1 => ?_
 clear hKK KK
 try simp only [qc]
 refine wpAnyH_done (by kernel_rfl) ?_ _
 refine NoPanic.normal ?_
 have HF := Hh Aa.2.1
 have Ad := Hh Ab
 clear Aa Ab
 go_wp2_with fail
 refine bodyPost_ret (results_cell_row rfl _ _ (B + 1) 50 #[.slice (some ⟨B, 0, none⟩) 32 32, .int .u64 (s : Int)] (0, 0) _ rfl HF.o Tryz.underlying50 rfl SZ.o) rfl ?_
 exact ⟨_, rfl, nd_bytes HN.o (by rw [← Ae.o]; exact Ad.o.1) (Nat.ne_of_lt Ad.o.1.lt), by have := Ad.o.2; rwa [Af.o] at this⟩
set_option maxRecDepth 100000 in
set_option maxHeartbeats 4000000 in
theorem coAnchor_is (K s0 : List Wd) (w : World) (hT : Tabs K s0 w) (n : Nd) (hn : IsHash n.h) (hs : n.s < 18446744073709551616) : Calls Tryz.prog 44 #[.agg (ndV n).toArray] w fun e w' => e = .returned (arr (anchorK K s0 n)) ∧ Below w.heap.size w w' := by
 obtain ⟨Z, hz, hZ, hZs, hZn⟩ := zero_eight
 obtain ⟨zk, hzk, hzs, hzn⟩ := zero_hashT
 obtain ⟨LN, hLN⟩ : ∃ L, L = ndV n := ⟨_, rfl⟩
 obtain ⟨s, hse⟩ : ∃ x, x = n.s := ⟨_, rfl⟩
 obtain ⟨D, hD⟩ : ∃ D, D = anchorK K s0 n := ⟨_, rfl⟩
 have hph : IsHash D := by rw [hD]; exact anchorK_hash K s0 hT.len _
 rw [← hLN, ← hD]
 have Ao := Hh hLN
 have ES := Hh hse
 have HD := Hh hD
 have HN := Hh hn
 have HT := Hh hT
 have HZ := Hh hZ
 have SZ := Hh (show (Tryz.prog.info? 27).map (·.size) = some (bcells D).toArray.size by rw [List.size_toArray, bcells_length, hph.1]; kernel_rfl)
 have An := Hh (show zk.size = (bcells D).length by rw [hzs, bcells_length, hph.1])
 have Af := hT.low
 clear hT hLN hD hph hse hn hZ hZs hzs
 go_enter Tryz.func44, Tryz.ntmps44
 go_upto_region 2 with (fail)
 obtain ⟨W1, hW1, h1, h2, h3, hb1⟩ := boxes_anchor w LN zk Z
 rw [← hW1]
 clear hW1
 obtain ⟨B, hB⟩ : ∃ b, b = w.heap.size := ⟨_, rfl⟩
 rw [← hB] at h1 h2 h3 hb1 Af ⊢
 have Aq := Hh hB
 clear hB
 have A1 := Hh (show ∀ v : World, Below B w v → Tabs K s0 v from fun v hv => by
  have hl2 := Af
  rw [Aq.o] at hv hl2
  exact HT.o.below hv hl2)
 have Al := Hh Af
 have HC := Hh (show ∀ v : World, Has v B 30 LN.toArray → v.cell? ⟨B, 32, none⟩ = some (.int .u64 (s : Int)) from fun v hv => hv.cell_is (by rw [List.getElem?_toArray, Ao.o, ES.o]; exact nd_sum_at HN.o))
 have Ax := Hh h1
 have Ay := Hh h2
 have Az := Hh h3
 have Av := Hh hb1
 clear h1 h2 h3 hb1 Af hs
 go_wp2_with fail
 go_loopw [5] (fun i wr => ∃ k : Nat, k ≤ 8 ∧ i = .int .i64 k ∧ Has wr (B + 2) 165 (splice (bcells (List.replicate 8 0)) 0 ((bcells (eight s)).take k)).toArray ∧ Has wr B 30 LN.toArray ∧ Has wr (B + 1) 27 zk ∧ Below B w wr) (fun i _ => 8 - (intOf i).toNat)
 case atStart => exact ⟨0, by omega, rfl, by rw [List.take_zero, splice_nil, ← HZ.o]; exact Az.o, Ax.o, Ay.o, Av.o⟩
 case round =>
  clear Ax Ay Az Av
  obtain ⟨k, hk, rfl, hW, hN1, hZ1, hK⟩ := hrel
  have HW := Hh hW
  have Am := Hh hN1
  have Au := Hh hZ1
  have Ar := Hh hK
  clear hW hN1 hZ1 hK
  by_cases hlt : k < 8
  · have hf := HW.o.free k
    have hc32 := HC.o wr Am.o
    obtain ⟨v0, hv0⟩ : ∃ v, wr.cell? ⟨B + 2, k, none⟩ = some v := by
      refine ⟨_, HW.o.cell_is (by rw [List.getElem?_toArray]; exact List.getElem?_eq_getElem (by rw [splice_len _ _ _ (by rw [List.length_take, bcells_length, bcells_length, eight_length]; simp; omega)]; rw [bcells_length]; simpa using hlt))⟩
    have Aa := HW.o.set (0 + k) (.int .u8 ((s / 2 ^ (8 * (7 - k)) % 256 : Nat) : Int))
    rw [List.setIfInBounds_toArray, splice_take_set _ _ _ _ _ (by rw [bcells_length, bcells_length, eight_length]; simp) (eight_get s k hlt), Nat.zero_add] at Aa
    have hv : ((s : Int) / 2 ^ (56 - 8 * k) % 256) = ((s / 2 ^ (8 * (7 - k)) % 256 : Nat) : Int) := by
      rw [show 56 - 8 * k = 8 * (7 - k) by omega, show (2 : Int) ^ (8 * (7 - k)) = ((2 ^ (8 * (7 - k)) : Nat) : Int) by simp]
      rfl
    have HV := Hh hv
    have As := Hh Aa
    have Ak := Hh (show ∀ u, Has (wr.setCell ⟨B + 2, k, none⟩ u) B 30 LN.toArray ∧ Has (wr.setCell ⟨B + 2, k, none⟩ u) (B + 1) 27 zk from fun u => ⟨Am.o.far (show B ≠ B + 2 by omega) u, Au.o.far (show B + 1 ≠ B + 2 by omega) u⟩)
    clear Aa hv
    go_wp2
    go_roundw
    case rel => exact ⟨k + 1, by omega, by go_num, by rw [HV.o]; exact As.o, (Ak.o _).1, (Ak.o _).2, Ar.o.setCell (show B ≤ B + 2 by omega) _⟩
    case measure => simp [intOf]; omega
  · obtain rfl : k = 8 := by omega
    have Ag : Has wr (B + 2) 165 (bcells (eight s)).toArray := by
      have h1 := HW.o
      rw [List.take_of_length_le (by rw [bcells_length, eight_length]; exact Nat.le_refl _), splice_all _ _ (by rw [bcells_length, bcells_length, eight_length]; simp)] at h1
      exact h1
    have Aw := Hh (show tagD K s0 anS [n.h, eight s].flatten = D by rw [HD.o, ES.o]; unfold anchorK; simp)
    have A0 := Hh (show [n.h, eight s].flatten.length ≤ 100000000 by simp [HN.o.1, eight_length])
    go_upto_region 7 with (fail)
    obtain ⟨W2, hW2⟩ : ∃ y, y = wr := ⟨_, rfl⟩
    subst hW2
    have hS0 : Has W2.drew B 30 LN.toArray ∧ Has W2.drew (B + 2) 165 (bcells (eight s)).toArray ∧ Below B w W2.drew := ⟨Am.o, Ag, below_drew Ar.o⟩
    have hz : Has W2.drew (B + 1) 27 zk := Au.o
    have hBW : B + 2 < W2.drew.heap.size := Ag.lt
    clear Ag HW Am Au Ar HZ
    refine wp_region_noPanic ?_
    refine wp_region_held_drew (S := (fun v => Has v B 30 LN.toArray ∧ Has v (B + 2) 165 (bcells (eight s)).toArray ∧ Below B w v)) (by kernel_rfl) hS0 (fun hH0 => ?_)
    apply tl 1 rfl ?hv hH0 ?_
    case hv => intro w' hS; go_simp; try rfl
    simp only [qc]
    apply tl 2 rfl ?hv hH0 ?_
    case hv => intro w' hS; go_simp; try rfl
    simp only [qc]
    apply tl 3 rfl ?hv hH0 ?_
    case hv => intro w' hS; go_simp; try rfl
    simp only [qc]
    refine rdy [0, 4] (AllReadyH.cons rfl (fun KK hKK => ?_) (ar1 rfl fun KK hKK => ?_))
    · go_simp
      refine (newTag_is anS _).mono ?_
      rintro _ x0 ⟨rfl, hx0⟩
      have Ab : Below W2.drew.heap.size W2.drew x0 := by rw [hx0]; exact (Below.refl _ _).alloc (Nat.le_refl _) _
      have hg : Has x0 W2.drew.heap.size 178 (tag0 anS).toArray := by rw [hx0]; exact Has.new _ _ _
      have hgb : B + 2 < W2.drew.heap.size := hBW
      obtain ⟨G, hG⟩ : ∃ g, g = W2.drew.heap.size := ⟨_, rfl⟩
      first | rw [← hG] | (have hG2 : W2.heap.size = G := hG.symm; rw [hG2])
      rw [← hG] at hg
      rw [← hG] at hgb
      clear hG
      have Ah : Has x0 B 30 LN.toArray ∧ Has x0 (B + 2) 165 (bcells (eight s)).toArray ∧ Below B w x0 := ⟨hH0.1.below Ab hH0.1.lt, hH0.2.1.below Ab hH0.2.1.lt, hH0.2.2.trans (Ab.mono (by omega))⟩
      replace hz := hz.below Ab hz.lt
      try replace hp := hp.below Ab hp.lt
      replace hBW : B + 2 < x0.heap.size := Nat.lt_of_lt_of_le hBW Ab.size
      clear hx0
      refine hKK _ _ Ah fun hH1 => ?_
      clear hKK KK
      try simp only [qc]
      refine rdy [4] (ar1 rfl fun KK hKK => ?_)
      refine step_buildN rfl 121 48 2 _ rfl _ 1 24 Tryz.underlying121 info_slice [.tmp 20, .tmp 21] rfl [.slice (some ⟨B, 0, none⟩) 32 32, .slice (some ⟨B + 2, 0, none⟩) 8 8] rfl (by simp [Value.cells]) rfl rfl (by decide) (by decide) (by decide) ?_
      obtain ⟨x4, hx4⟩ : ∃ y, y = x0.alloc (.cells #[.slice (some ⟨B, 0, none⟩) 32 32, .slice (some ⟨B + 2, 0, none⟩) 8 8] 48) := ⟨_, rfl⟩
      first | rw [← hx4] | (change KK _ (x0.alloc (.cells #[.slice (some ⟨B, 0, none⟩) 32 32, .slice (some ⟨B + 2, 0, none⟩) 8 8] 48)); rw [← hx4])
      have Ac : Below x0.heap.size x0 x4 := by rw [hx4]; exact (Below.refl _ _).alloc (Nat.le_refl _) _
      have hp : Has x4 x0.heap.size 48 #[.slice (some ⟨B, 0, none⟩) 32 32, .slice (some ⟨B + 2, 0, none⟩) 8 8] := by rw [hx4]; exact Has.new _ _ _
      have hpb : B + 2 < x0.heap.size := hBW
      obtain ⟨R, hR⟩ : ∃ g, g = x0.heap.size := ⟨_, rfl⟩
      first | rw [← hR] | (have hR2 : W2.heap.size = R := hR.symm; rw [hR2])
      rw [← hR] at hp
      rw [← hR] at hpb
      clear hR
      have Ai : Has x4 B 30 LN.toArray ∧ Has x4 (B + 2) 165 (bcells (eight s)).toArray ∧ Below B w x4 := ⟨hH1.1.below Ac hH1.1.lt, hH1.2.1.below Ac hH1.2.1.lt, hH1.2.2.trans (Ac.mono (by omega))⟩
      replace hz := hz.below Ac hz.lt
      try replace hg := hg.below Ac hg.lt
      replace hBW : B + 2 < x4.heap.size := Nat.lt_of_lt_of_le hBW Ac.size
      clear hx4
      refine hKK _ _ Ai fun hH2 => ?_
      clear hKK KK
      try simp only [qc]
      refine rdy [5] (ar1 rfl fun KK hKK => ?_)
      go_simp
      have hp2 := hp.ne hg (by decide)
      have Ad := tagSum_is K s0 _ (A1.o _ hH2.2.2) G anS (by decide) (Nat.le_trans Al.o (by omega)) hg _ [n.h, eight s] (partsN_2 hp (nd_bytes HN.o (by rw [← Ao.o]; exact hH2.1) (by omega)) (eight_bytes hH2.2.1 (by omega)) hp2) A0.o (by simp)
      rw [Aw.o] at Ad
      unfold arr at Ad
      refine Ad.mono ?_
      rintro _ xa ⟨rfl, hka⟩
      have Aj : Has xa B 30 LN.toArray ∧ Has xa (B + 2) 165 (bcells (eight s)).toArray ∧ Below B w xa := ⟨hH2.1.kept hka (by omega), hH2.2.1.kept hka (by omega), hH2.2.2.trans (hka.below (by omega) (fun j e => by have e' : j = G := e; omega))⟩
      replace hz := hz.kept hka (by omega)
      replace hBW : B + 2 < xa.heap.size := Nat.lt_of_lt_of_le hBW hka.size
      clear Ad hka
      refine hKK _ _ Aj fun hH3 => ?_
      clear hKK KK
      try simp only [qc]
      refine rdy [6] (ar1 rfl fun KK hKK => ?_)
      refine step_store_mid rfl 27 (.tmp 2) (.tmp 23) rfl (B + 1) 0 (bcells D).toArray rfl rfl (hz.there 0 _ (by rw [List.size_toArray, An.o]; exact Nat.le_of_eq (Nat.zero_add _))) SZ.o (all_oneCell_toArray (bcells_one D)) ?_
      have Aa := set_box hH3.2.2 hz (Nat.le_succ B) (by omega) An.o
      obtain ⟨xb, hxb⟩ : ∃ y, y = xa.setCells (B + 1) 0 (bcells D) := ⟨_, rfl⟩
      rw [← hxb] at Aa
      change KK _ (xa.setCells (B + 1) 0 (bcells D))
      rw [← hxb]
      have Ae : Has xb B 30 LN.toArray ∧ Has xb (B + 2) 165 (bcells (eight s)).toArray ∧ Below B w xb := ⟨hH3.1.kept Aa.2.2 (by omega), hH3.2.1.kept Aa.2.2 (by omega), Aa.1⟩
      clear hxb
      refine hKK _ _ Ae fun hH4 => ?_
      clear hKK KK
      try simp only [qc]
      refine wpAnyH_done (by kernel_rfl) ?_ _
      refine NoPanic.normal ?_
      have HF := Hh Aa.2.1
      have Ap := Hh Aa.1
      clear Aa Ae
      go_wp2_with fail
      refine bodyPost_ret (results_cell_row rfl _ _ (B + 1) 27 (bcells D).toArray (0, 0) _ rfl HF.o Tryz.underlying27 rfl SZ.o) rfl ?_
      exact ⟨rfl, by have := Ap.o; rwa [Aq.o] at this⟩
    · refine step_buildN rfl 121 48 2 _ rfl _ 1 24 Tryz.underlying121 info_slice [.tmp 20, .tmp 21] rfl [.slice (some ⟨B, 0, none⟩) 32 32, .slice (some ⟨B + 2, 0, none⟩) 8 8] rfl (by simp [Value.cells]) rfl rfl (by decide) (by decide) (by decide) ?_
      obtain ⟨x4, hx4⟩ : ∃ y, y = W2.drew.alloc (.cells #[.slice (some ⟨B, 0, none⟩) 32 32, .slice (some ⟨B + 2, 0, none⟩) 8 8] 48) := ⟨_, rfl⟩
      first | rw [← hx4] | (change KK _ (W2.drew.alloc (.cells #[.slice (some ⟨B, 0, none⟩) 32 32, .slice (some ⟨B + 2, 0, none⟩) 8 8] 48)); rw [← hx4])
      have Ac : Below W2.drew.heap.size W2.drew x4 := by rw [hx4]; exact (Below.refl _ _).alloc (Nat.le_refl _) _
      have hp : Has x4 W2.drew.heap.size 48 #[.slice (some ⟨B, 0, none⟩) 32 32, .slice (some ⟨B + 2, 0, none⟩) 8 8] := by rw [hx4]; exact Has.new _ _ _
      have hpb : B + 2 < W2.drew.heap.size := hBW
      obtain ⟨R, hR⟩ : ∃ g, g = W2.drew.heap.size := ⟨_, rfl⟩
      first | rw [← hR] | (have hR2 : W2.heap.size = R := hR.symm; rw [hR2])
      rw [← hR] at hp
      rw [← hR] at hpb
      clear hR
      have Ai : Has x4 B 30 LN.toArray ∧ Has x4 (B + 2) 165 (bcells (eight s)).toArray ∧ Below B w x4 := ⟨hH0.1.below Ac hH0.1.lt, hH0.2.1.below Ac hH0.2.1.lt, hH0.2.2.trans (Ac.mono (by omega))⟩
      replace hz := hz.below Ac hz.lt
      try replace hg := hg.below Ac hg.lt
      replace hBW : B + 2 < x4.heap.size := Nat.lt_of_lt_of_le hBW Ac.size
      clear hx4
      refine hKK _ _ Ai fun hH1 => ?_
      clear hKK KK
      try simp only [qc]
      refine rdy [0] (ar1 rfl fun KK hKK => ?_)
      go_simp
      refine (newTag_is anS _).mono ?_
      rintro _ x0 ⟨rfl, hx0⟩
      have Ab : Below x4.heap.size x4 x0 := by rw [hx0]; exact (Below.refl _ _).alloc (Nat.le_refl _) _
      have hg : Has x0 x4.heap.size 178 (tag0 anS).toArray := by rw [hx0]; exact Has.new _ _ _
      have hgb : B + 2 < x4.heap.size := hBW
      obtain ⟨G, hG⟩ : ∃ g, g = x4.heap.size := ⟨_, rfl⟩
      first | rw [← hG] | (have hG2 : W2.heap.size = G := hG.symm; rw [hG2])
      rw [← hG] at hg
      rw [← hG] at hgb
      clear hG
      have Ah : Has x0 B 30 LN.toArray ∧ Has x0 (B + 2) 165 (bcells (eight s)).toArray ∧ Below B w x0 := ⟨hH1.1.below Ab hH1.1.lt, hH1.2.1.below Ab hH1.2.1.lt, hH1.2.2.trans (Ab.mono (by omega))⟩
      replace hz := hz.below Ab hz.lt
      try replace hp := hp.below Ab hp.lt
      replace hBW : B + 2 < x0.heap.size := Nat.lt_of_lt_of_le hBW Ab.size
      clear hx0
      refine hKK _ _ Ah fun hH2 => ?_
      clear hKK KK
      try simp only [qc]
      refine rdy [5] (ar1 rfl fun KK hKK => ?_)
      go_simp
      have hp2 := hp.ne hg (by decide)
      have Ad := tagSum_is K s0 _ (A1.o _ hH2.2.2) G anS (by decide) (Nat.le_trans Al.o (by omega)) hg _ [n.h, eight s] (partsN_2 hp (nd_bytes HN.o (by rw [← Ao.o]; exact hH2.1) (by omega)) (eight_bytes hH2.2.1 (by omega)) hp2) A0.o (by simp)
      rw [Aw.o] at Ad
      unfold arr at Ad
      refine Ad.mono ?_
      rintro _ xa ⟨rfl, hka⟩
      have Aj : Has xa B 30 LN.toArray ∧ Has xa (B + 2) 165 (bcells (eight s)).toArray ∧ Below B w xa := ⟨hH2.1.kept hka (by omega), hH2.2.1.kept hka (by omega), hH2.2.2.trans (hka.below (by omega) (fun j e => by have e' : j = G := e; omega))⟩
      replace hz := hz.kept hka (by omega)
      replace hBW : B + 2 < xa.heap.size := Nat.lt_of_lt_of_le hBW hka.size
      clear Ad hka
      refine hKK _ _ Aj fun hH3 => ?_
      clear hKK KK
      try simp only [qc]
      refine rdy [6] (ar1 rfl fun KK hKK => ?_)
      refine step_store_mid rfl 27 (.tmp 2) (.tmp 23) rfl (B + 1) 0 (bcells D).toArray rfl rfl (hz.there 0 _ (by rw [List.size_toArray, An.o]; exact Nat.le_of_eq (Nat.zero_add _))) SZ.o (all_oneCell_toArray (bcells_one D)) ?_
      have Aa := set_box hH3.2.2 hz (Nat.le_succ B) (by omega) An.o
      obtain ⟨xb, hxb⟩ : ∃ y, y = xa.setCells (B + 1) 0 (bcells D) := ⟨_, rfl⟩
      rw [← hxb] at Aa
      change KK _ (xa.setCells (B + 1) 0 (bcells D))
      rw [← hxb]
      have Ae : Has xb B 30 LN.toArray ∧ Has xb (B + 2) 165 (bcells (eight s)).toArray ∧ Below B w xb := ⟨hH3.1.kept Aa.2.2 (by omega), hH3.2.1.kept Aa.2.2 (by omega), Aa.1⟩
      clear hxb
      refine hKK _ _ Ae fun hH4 => ?_
      clear hKK KK
      try simp only [qc]
      refine wpAnyH_done (by kernel_rfl) ?_ _
      refine NoPanic.normal ?_
      have HF := Hh Aa.2.1
      have Ap := Hh Aa.1
      clear Aa Ae
      go_wp2_with fail
      refine bodyPost_ret (results_cell_row rfl _ _ (B + 1) 27 (bcells D).toArray (0, 0) _ rfl HF.o Tryz.underlying27 rfl SZ.o) rfl ?_
      exact ⟨rfl, by have := Ap.o; rwa [Aq.o] at this⟩
section
/- A commit in memory; an empty one. -/

def entP (e : List Nat × Nat) : Ent := (e.1, .pointer (some ⟨e.2, 0, none⟩))
def entL (K s0 : List Wd) (l : LeafT) : Ent := (keyK K s0 l, .agg l.cells.toArray)
structure CmAt (K s0 : List Wd) (S : Nat → Prop) (w : World) (g : Nat) (ls : List LeafT) (m0 m1 : Nat) (E : List (List Nat × Nat)) (Z : Nat → Nat → Prop) : Prop where
 obj : Has w g 101 #[.map (some m0), .map (some m1), .int .u64 (amS ls : Int)]
 map0 : MapIs w m0 (E.map entP)
 map1 : MapIs w m1 (ls.map (entL K s0))
 ids : E.map (·.1) = idsOf ls
 trees : ∀ e ∈ E, Tr K s0 (Z e.2) w e.2 (lowT K s0 ls e.1)
 zone : ∀ e ∈ E, ∀ k, Z e.2 k → k < w.heap.size ∧ S k ∧ k ≠ g ∧ k ≠ m0 ∧ k ≠ m1
 apart : ∀ e ∈ E, ∀ e' ∈ E, e.2 ≠ e'.2 → ∀ k, Z e.2 k → ¬ Z e'.2 k
 gs : (E.map (·.2)).Nodup
 low : ∀ e ∈ E, 2 + 1 ≤ e.2
 inS : S g ∧ S m0 ∧ S m1
 ne : m0 ≠ m1
 fine : Fine K s0 ls
def Cm (K s0 : List Wd) (S : Nat → Prop) (w : World) (g : Nat) (ls : List LeafT) : Prop := ∃ m0 m1 E Z, CmAt K s0 S w g ls m0 m1 E Z
theorem map_has_ne {w : World} {b : Nat} {l : List Ent} (h : MapIs w b l) {j : Nat} {t : TypeId} {cs : Array Value} (hh : Has w j t cs) : j ≠ b := fun e => by
 obtain ⟨es, clock, hm, _⟩ := h
 unfold Has at hh
 rw [e, hm] at hh
 cases hh
variable {K s0 : List Wd} {S S' T : Nat → Prop} {w w' : World} {g m0 m1 : Nat} {ls : List LeafT} {E : List (List Nat × Nat)} {Z : Nat → Nat → Prop}
theorem CmAt.gm (h : CmAt K s0 S w g ls m0 m1 E Z) : g ≠ m0 ∧ g ≠ m1 := ⟨map_has_ne h.map0 h.obj, map_has_ne h.map1 h.obj⟩
theorem CmAt.kept (h : CmAt K s0 S w g ls m0 m1 E Z) (hk : Kept T w w') (hs : ∀ k, k < w.heap.size → S k → ¬ T k) : CmAt K s0 S w' g ls m0 m1 E Z :=
 ⟨h.obj.kept hk (hs _ h.obj.lt h.inS.1), h.map0.kept hk (hs _ h.map0.lt h.inS.2.1), h.map1.kept hk (hs _ h.map1.lt h.inS.2.2), h.ids, fun e he => (h.trees e he).kept hk (fun k hl hz => hs k hl (h.zone e he k hz).2.1), fun e he k hz => ⟨Nat.lt_of_lt_of_le (h.zone e he k hz).1 hk.size, (h.zone e he k hz).2⟩, h.apart, h.gs, h.low, h.inS, h.ne, h.fine⟩
theorem CmAt.quiet (h : CmAt K s0 S w g ls m0 m1 E Z) (hb : Below w.heap.size w w') : CmAt K s0 S w' g ls m0 m1 E Z := h.kept (Kept.of_below (S := fun _ => False) hb) (fun _ _ _ e => e)
theorem CmAt.zoneS (h : CmAt K s0 S w g ls m0 m1 E Z) (hs : ∀ k, k < w.heap.size → S k → S' k) : CmAt K s0 S' w g ls m0 m1 E Z :=
 ⟨h.obj, h.map0, h.map1, h.ids, h.trees, fun e he k hz => ⟨(h.zone e he k hz).1, hs k (h.zone e he k hz).1 (h.zone e he k hz).2.1, (h.zone e he k hz).2.2⟩, h.apart, h.gs, h.low, ⟨hs _ h.obj.lt h.inS.1, hs _ h.map0.lt h.inS.2.1, hs _ h.map1.lt h.inS.2.2⟩, h.ne, h.fine⟩
theorem Cm.kept (h : Cm K s0 S w g ls) (hk : Kept T w w') (hs : ∀ k, k < w.heap.size → S k → ¬ T k) : Cm K s0 S w' g ls := by
 obtain ⟨m0, m1, E, Z, h⟩ := h
 exact ⟨m0, m1, E, Z, h.kept hk hs⟩
theorem Cm.quiet (h : Cm K s0 S w g ls) (hb : Below w.heap.size w w') : Cm K s0 S w' g ls := h.kept (Kept.of_below (S := fun _ => False) hb) (fun _ _ _ e => e)
theorem Cm.zoneS (h : Cm K s0 S w g ls) (hs : ∀ k, k < w.heap.size → S k → S' k) : Cm K s0 S' w g ls := by
 obtain ⟨m0, m1, E, Z, h⟩ := h
 exact ⟨m0, m1, E, Z, h.zoneS hs⟩
theorem Cm.lt (h : Cm K s0 S w g ls) : g < w.heap.size := by
 obtain ⟨m0, m1, E, Z, h⟩ := h
 exact h.obj.lt
theorem Cm.fine (h : Cm K s0 S w g ls) : Fine K s0 ls := by
 obtain ⟨m0, m1, E, Z, h⟩ := h
 exact CmAt.fine h
theorem CmAt.cells (h : CmAt K s0 S w g ls m0 m1 E Z) : w.cell? ⟨g, 0, none⟩ = some (.map (some m0)) ∧ w.cell? ⟨g, 1, none⟩ = some (.map (some m1)) ∧ w.cell? ⟨g, 2, none⟩ = some (.int .u64 (amS ls : Int)) := ⟨h.obj.cell_is rfl, h.obj.cell_is rfl, h.obj.cell_is rfl⟩
set_option maxRecDepth 100000 in
theorem build_commit (a b : Nat) (w : World) : (Instr.build 101 #[(0, .map (some a)), (1, .map (some b))]).run Tryz.prog w = .ok (.agg #[.map (some a), .map (some b), .int .u64 0]) w := by kernel_rfl
set_option maxRecDepth 100000 in
set_option maxHeartbeats 1000000 in
theorem coNew_is (K s0 : List Wd) (S : Nat → Prop) (w : World) (hn : ∀ k, w.heap.size ≤ k → S k) : Calls Tryz.prog 10 #[] w fun e w' => ∃ g, e = .returned (.pointer (some ⟨g, 0, none⟩)) ∧ Cm K s0 S w' g [] ∧ Below w.heap.size w w' ∧ w.heap.size ≤ g := by
 have hs1 : (w.alloc (.map #[] 0)).heap.size = w.heap.size + 1 := by simp
 have hs2 : ((w.alloc (.map #[] 0)).alloc (.map #[] 0)).heap.size = w.heap.size + 1 + 1 := by simp
 obtain ⟨W3, hW3⟩ : ∃ y, y = ((w.alloc (.map #[] 0)).alloc (.map #[] 0)).alloc (.cells #[.map (some w.heap.size), .map (some (w.heap.size + 1)), .int .u64 0] 101) := ⟨_, rfl⟩
 have hm0 : MapIs W3 w.heap.size [] := by
  rw [hW3]
  exact (MapIs.new w).kept (S := fun _ => False) (((Kept.refl _ _).alloc _).alloc _) (fun h => h)
 have hm1 : MapIs W3 (w.heap.size + 1) [] := by
  have := MapIs.new (w.alloc (.map #[] 0))
  rw [hs1] at this
  rw [hW3]
  exact this.kept (S := fun _ => False) ((Kept.refl _ _).alloc _) (fun h => h)
 have hob : Has W3 (w.heap.size + 1 + 1) 101 #[.map (some w.heap.size), .map (some (w.heap.size + 1)), .int .u64 0] := by
  have := Has.new ((w.alloc (.map #[] 0)).alloc (.map #[] 0)) 101 #[.map (some w.heap.size), .map (some (w.heap.size + 1)), .int .u64 0]
  rw [hs2] at this
  rw [hW3]
  exact this
 have Aa : Below w.heap.size w W3 := by
  rw [hW3]
  exact (((Below.refl _ _).alloc (Nat.le_refl _) _).alloc (by rw [hs1]; omega) _).alloc (by rw [hs2]; omega) _
 have hcm : Cm K s0 S W3 (w.heap.size + 1 + 1) [] := ⟨w.heap.size, w.heap.size + 1, [], fun _ _ => False, hob, hm0, hm1, rfl, fun e he => (by cases he), fun e he => (by cases he), fun e he => (by cases he), List.nodup_nil, fun e he => (by cases he), ⟨hn _ (by omega), hn _ (Nat.le_refl _), hn _ (by omega)⟩, by omega, fine_nil⟩
 have Ab := Hh (And.intro hcm Aa)
 have EW := Hh hW3
 have hmm := @run_makeMap Tryz.prog
 have hbd := build_commit w.heap.size (w.heap.size + 1)
 clear hm0 hm1 hob Aa hcm hW3 hs1 hs2 hn
 go_enter Tryz.func10, Tryz.ntmps10
 go_wp2
 go_ret
 have hf := Ab.o
 rw [EW.o] at hf
 exact ⟨_, rfl, hf.1, hf.2, by omega⟩
end
end Go.Proofs.YtknfbccbdiidjaaGreatDoor
