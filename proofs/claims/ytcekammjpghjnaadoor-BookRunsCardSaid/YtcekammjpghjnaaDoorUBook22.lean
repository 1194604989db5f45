/- sha.Sum at one part that lies somewhere. -/
import Derived.Test.YtcekammjpghjnaaDoorWs
import Derived.Test.YtcekammjpghjnaaDoorUSha7
import Derived.Test.YtcekammjpghjnaaDoorUBook21
namespace Go.Proofs.YtcekammjpghjnaaDoor
set_option linter.unusedVariables false
set_option linter.unusedSimpArgs false
open Go.ChangeShapes Go.WideShapes Go.ChangeAt Go.RowKit

theorem sum_one (K s0 : List Wd) (W : World) (G o n c : Nat) (m : List Nat) (hT : Tabs K s0 W) (hm : m.length = n) (hm2 : n ≤ c) (hc : c ≤ 1000000000) (hb : ∀ x ∈ m, x < 256) (hG : G < W.heap.size) (hr : ∀ i, i < n → W.cell? ⟨G, o + i, none⟩ = some (.int .u8 ((m.getD i 0 : Nat) : Int))) :
  Calls Tryd.prog 32 #[.slice (some ⟨W.heap.size, 0, none⟩) 1 1] (W.alloc (.cells #[.slice (some ⟨G, o, none⟩) n c] 87)) fun e w' => e = .returned (arr (digest K s0 m)) ∧ Below W.heap.size W w' := by
 have hk := (Kept.refl (fun _ => False) W).alloc (.cells #[.slice (some ⟨G, o, none⟩) n c] 87)
 have hp : Parts (W.alloc (.cells #[.slice (some ⟨G, o, none⟩) n c] 87)) (.slice (some ⟨W.heap.size, 0, none⟩) 1 1) [m] := by
  refine ⟨_, _, rfl, fun _ => ⟨W.heap.size, 0, rfl, fun i hi => ?_⟩⟩
  have hi0 : i = 0 := by simpa using hi
  subst hi0
  refine ⟨.slice (some ⟨G, o, none⟩) n c, (Has.new W 87 #[.slice (some ⟨G, o, none⟩) n c]).cell_is rfl, ?_⟩
  change Bytes _ _ _ m
  refine ⟨some ⟨G, o, none⟩, c, by rw [hm], by omega, hb, fun _ => ⟨G, o, rfl, by simp; omega, fun i hi => ?_⟩⟩
  rw [World.cell?_alloc_lt W _ _ hG]
  exact hr i (by omega)
 have hs := sum_is K s0 _ _ [m] (hT.kept hk (fun _ h => h.elim)) hp (by simp; omega) (by simp)
 rw [show [m].flatten = m by simp] at hs
 exact hs.mono fun e w' he => ⟨he.1, ((Below.refl W.heap.size W).alloc (Nat.le_refl _) _).trans (he.2.mono (by simp))⟩
end Go.Proofs.YtcekammjpghjnaaDoor
/- The walk of Step.offer: a step's offer, its lock by its secret where it is right. -/
namespace Go.Proofs.YtcekammjpghjnaaDoor
set_option linter.unusedVariables false
set_option linter.unusedSimpArgs false
open Go.ChangeShapes Go.WideShapes Go.ChangeAt Go.RowKit Go.Maps

def Stp.offer (K s0 : List Wd) (s : Stp) : Off := if s.right then { s.o with lock := digest K s0 s.sec } else s.o
theorem stp_offer_ok (K s0 : List Wd) (hs0 : s0.length = 8) (s : Stp) (h : s.ok) : (s.offer K s0).ok := by
 unfold Stp.offer; split
 · exact ⟨h.o.1, digest_hash K s0 hs0 _, h.o.2.2⟩
 · exact h.o

theorem off_lock_get (o : Off) (h : o.ok) (D : List Nat) (hD : D.length = 32) (j : Nat) (hj : j < 68) : ({ o with lock := D } : Off).cells[j]? = if 35 ≤ j ∧ j < 67 then (bcells D)[j - 35]? else o.cells[j]? := by
 have e : ∀ l : List Nat, ({ o with lock := l } : Off).cells = ([.int .i64 o.no, .int .i64 o.frm] ++ bcells o.id ++ [.int .u64 (o.am : Int)]) ++ (bcells l ++ [.int .i64 o.til]) := fun l => by simp [Off.cells]
 have e0 : o.cells = ([.int .i64 o.no, .int .i64 o.frm] ++ bcells o.id ++ [.int .u64 (o.am : Int)]) ++ (bcells o.lock ++ [.int .i64 o.til]) := e o.lock
 have hp : ([.int .i64 o.no, .int .i64 o.frm] ++ bcells o.id ++ [.int .u64 (o.am : Int)] : List Value).length = 35 := by simp [bcells_length, h.1.1]
 have hq : (bcells o.lock).length = 32 := by rw [bcells_length, h.2.1.1]
 have hr : (bcells D).length = 32 := by rw [bcells_length, hD]
 rw [e D, e0]
 generalize ([.int .i64 o.no, .int .i64 o.frm] ++ bcells o.id ++ [.int .u64 (o.am : Int)] : List Value) = A at hp
 generalize bcells o.lock = B at hq
 generalize bcells D = C at hr
 by_cases h1 : j < 35
 · rw [if_neg (by omega), List.getElem?_append_left (by omega), List.getElem?_append_left (by omega)]
 · rw [List.getElem?_append_right (by omega), hp]
   by_cases h2 : j < 67
   · rw [if_pos (by omega), List.getElem?_append_left (by omega)]
   · rw [if_neg (by omega), List.getElem?_append_right (by omega), List.getElem?_append_right (by omega), hp, List.getElem?_append_right (by omega), hq, hr]
theorem stp_lock {w : World} {G : Nat} {t : TypeId} {s : Stp} {D : List Nat} (h : Has w G t s.cells.toArray) (hs : s.ok) (hD : IsHash D) :
   (w.setCells G 70 (bcells D)).rangeAt G 35 ({ s.o with lock := D } : Off).cells ∧ Kept (fun k => k = G) w (w.setCells G 70 (bcells D)) ∧ w.there G 70 32 := by
 obtain ⟨cur, h1, h2, h3, h4⟩ := Has.setCells (bcells D) 70 w _ h
 have hl := s.length hs
 have hsz : s.cells.toArray.size = 137 := by rw [List.size_toArray, hl]
 refine ⟨fun j v hv => ?_, h4, fun j hj => ⟨?_, h.free _⟩⟩
 · have hok : ({ s.o with lock := D } : Off).ok := ⟨hs.o.1, hD, hs.o.2.2⟩
   have hj := (List.getElem?_eq_some_iff.1 hv).1
   rw [Off.length _ hok] at hj
   rw [off_lock_get s.o hs.o D hD.1 j hj] at hv
   refine h1.cell_is ?_
   rw [h3 (35 + j) (by omega), bcells_length, hD.1]
   by_cases c : 35 ≤ j ∧ j < 67
   · rw [if_pos c] at hv
     rw [if_pos (by omega), show 35 + j - 70 = j - 35 by omega]; exact hv
   · rw [if_neg c] at hv
     rw [if_neg (by omega), ← h.cell]
     exact stp_off hs h j v hv
 · rw [h.cell, List.getElem?_toArray, List.getElem?_eq_getElem (by omega)]; rfl

set_option maxRecDepth 100000 in
set_option maxHeartbeats 2000000 in
theorem stepOffer_is (K s0 : List Wd) (w : World) (hT : Tabs K s0 w) (s : Stp) (hs : s.ok) :
  Calls Tryd.prog 9 #[.agg s.cells.toArray] w fun e w' => e = .returned (.agg (s.offer K s0).cells.toArray) ∧ Below w.heap.size w w' := by
 obtain ⟨Z, hz, hzs, hzn⟩ := zero_off
 have hbox := Has.new w 44 s.cells.toArray
 have g136 := (stp_get hs).2.2.2.2
 have hk1 := (Kept.refl (fun _ => False) w).alloc (.cells s.cells.toArray 44)
 have HBOX := Lib.hid hbox
 have HK1 := Lib.hid hk1
 have HT1 := Lib.hid (hT.kept hk1 (fun _ h => h.elim))
 have HS := Lib.hid hs
 have hlen := s.o.length hs.o
 have HLEN := Lib.hid hlen
 have SZ68 := Lib.hid (show (Tryd.prog.info? 42).map (·.size) = some 68 by kernel_rfl)
 have SZ32 := Lib.hid (show (Tryd.prog.info? 39).map (·.size) = some 32 by kernel_rfl)
 obtain ⟨R, hR⟩ : ∃ R, R = s.right := ⟨_, rfl⟩
 rw [← hR] at g136
 have G136 := Lib.hid g136
 have HR := Lib.hid hR
 have HTT := Lib.hid hT
 clear hk1 hbox hT hs hlen g136 hR
 go_enter Tryd.func9, Tryd.ntmps9
 go_upto_region 1 with (fail)
 have hbx := HBOX.out.alloc (.cells Z 42)
 have hres := Has.new (w.alloc (.cells s.cells.toArray 44)) 42 Z
 have hk2 := HK1.out.alloc (.cells Z 42)
 have hsz : (w.alloc (.cells s.cells.toArray 44)).heap.size = w.heap.size + 1 := by simp
 rw [hsz] at hres
 have c136 := hbx.cell_is (i := 136) (by rw [List.getElem?_toArray]; exact G136.out)
 have HT2 := Lib.hid (HTT.out.kept hk2 (fun _ h => h.elim))
 have HBX := Lib.hid hbx
 have HRES := Lib.hid hres
 have HK2 := Lib.hid hk2
 clear hbx hres hk2 hsz HBOX HK1 HT1 HTT
 generalize (w.alloc (.cells s.cells.toArray 44)).alloc (.cells Z 42) = W at c136 HT2 HBX HRES HK2 ⊢
 generalize hG : w.heap.size = G at c136 HBX HRES ⊢
 have HG := Lib.hid hG
 clear hG
 cases R with
 | false =>
  have HOFF := Lib.hid (show s.offer K s0 = s.o by unfold Stp.offer; rw [← HR.out]; rfl)
  have hro := stp_off HS.out HBX.out
  have HRO := Lib.hid hro
  have hone : s.o.cells.toArray.all (·.oneCell') = true := all_oneCell_toArray (off_one s.o)
  have HONE := Lib.hid hone
  clear hro hone
  go_wp2_with (first
   | (refine wpList_load_mid rfl 42 (.tmp 11) rfl G 35 rfl s.o.cells _ HRO.out Tryd.underlying42 rfl (by rw [HLEN.out]; exact SZ68.out) ?_)
   | (refine wpList_store_row rfl 42 (.tmp 2) (.tmp 12) rfl (G + 1) s.o.cells.toArray rfl rfl 42 Z HRES.out (by rw [List.size_toArray, HLEN.out]; exact SZ68.out) (by rw [hzs, List.size_toArray, HLEN.out]) HONE.out ?_))
  have hk9 := kept_setRow (g := G + 1) W s.o.cells.toArray
  have HK9 := Lib.hid (HK2.out.step hk9 (fun k hk => .inr (by have e : k = G + 1 := hk; rw [HG.out, e]; exact Nat.le_succ G)))
  have HRES9 := Lib.hid (show Has (W.setRow (G + 1) s.o.cells.toArray) (G + 1) 42 s.o.cells.toArray from HRES.out.setRow)
  refine bodyPost_ret (results_cell_row rfl _ _ (G + 1) 42 s.o.cells.toArray (0, 0) _ rfl HRES9.out Tryd.underlying42 rfl (by rw [List.size_toArray, HLEN.out]; exact SZ68.out)) rfl ?_
  exact ⟨by rw [HOFF.out], HK9.out.below (Nat.le_refl _) (fun _ h => h.elim)⟩
 | true =>
  obtain ⟨D, hD⟩ : ∃ D, D = digest K s0 s.sec := ⟨_, rfl⟩
  have hDh : IsHash D := by rw [hD]; exact digest_hash K s0 HT2.out.len s.sec
  have HOFF := Lib.hid (show s.offer K s0 = { s.o with lock := D } by unfold Stp.offer; rw [← HR.out, hD]; rfl)
  have hok : ({ s.o with lock := D } : Off).ok := ⟨HS.out.o.1, hDh, HS.out.o.2.2⟩
  have hrs := stp_sec HS.out HBX.out
  have hsum := sum_one K s0 W G 104 32 32 s.sec HT2.out HS.out.sec.1 (Nat.le_refl _) (by decide) HS.out.sec.2 HBX.out.lt (fun i hi => hrs i _ (by rw [bcells_get _ _ (by rw [HS.out.sec.1]; exact hi)]))
  rw [← hD] at hsum
  unfold arr at hsum
  have HSUM := Lib.hid hsum
  have HDH := Lib.hid hDh
  have HOK := Lib.hid hok
  obtain ⟨O, hO⟩ : ∃ O : Off, O = { s.o with lock := D } := ⟨_, rfl⟩
  have hOl : O.cells.length = 68 := by rw [hO]; exact Off.length _ hok
  have hone : O.cells.toArray.all (·.oneCell') = true := all_oneCell_toArray (off_one O)
  have hdone : (bcells D).toArray.all (·.oneCell') = true := all_oneCell_toArray (bcells_oneC D)
  have hds : (bcells D).toArray.size = 32 := by rw [List.size_toArray, bcells_length, hDh.1]
  have HONE := Lib.hid hone
  have HOL := Lib.hid hOl
  have HO := Lib.hid hO
  have HDONE := Lib.hid hdone
  have HDS := Lib.hid hds
  clear hD hDh hok hrs hsum hO hOl hone hdone hds
  go_wp2_with fail
  refine HSUM.out.mono ?_
  rintro _ W3 ⟨rfl, hb3⟩
  have hk3 : Kept (fun _ => False) W W3 := Kept.of_below hb3
  have hb4 := HBX.out.kept hk3 (fun h => h)
  have hr4 := HRES.out.kept hk3 (fun h => h)
  obtain ⟨r1, r2, r3⟩ := stp_lock hb4 HS.out HDH.out
  rw [← HO.out] at r1
  have hk5 := HK2.out.trans hk3
  have R1 := Lib.hid r1
  have R3 := Lib.hid r3
  have HRES4 := Lib.hid (hr4.kept r2 (by omega))
  have HK4 := Lib.hid (hk5.step r2 (fun k hk => .inr (by rw [HG.out]; exact Nat.le_of_eq hk.symm)))
  clear hb3 hk3 hb4 hr4 r1 r2 r3 hk5
  go_wp2_with (first
   | (refine wpList_store_mid rfl 39 (.tmp 10) (.tmp 8) rfl G 70 (bcells D).toArray rfl rfl (by rw [HDS.out]; exact R3.out) (by rw [HDS.out]; exact SZ32.out) HDONE.out ?_)
   | (refine wpList_load_mid rfl 42 (.tmp 11) rfl G 35 rfl O.cells _ R1.out Tryd.underlying42 rfl (by rw [HOL.out]; exact SZ68.out) ?_)
   | (refine wpList_store_row rfl 42 (.tmp 2) (.tmp 12) rfl (G + 1) O.cells.toArray rfl rfl 42 Z HRES4.out (by rw [List.size_toArray, HOL.out]; exact SZ68.out) (by rw [hzs, List.size_toArray, HOL.out]) HONE.out ?_))
  have hk9 := kept_setRow (g := G + 1) (W3.setCells G 70 (bcells D).toArray.toList) O.cells.toArray
  have HK9 := Lib.hid (HK4.out.step hk9 (fun k hk => .inr (by have e : k = G + 1 := hk; rw [HG.out, e]; exact Nat.le_succ G)))
  have HRES9 := Lib.hid (show Has ((W3.setCells G 70 (bcells D).toArray.toList).setRow (G + 1) O.cells.toArray) (G + 1) 42 O.cells.toArray from HRES4.out.setRow)
  refine bodyPost_ret (results_cell_row rfl _ _ (G + 1) 42 O.cells.toArray (0, 0) _ rfl HRES9.out Tryd.underlying42 rfl (by rw [List.size_toArray, HOL.out]; exact SZ68.out)) rfl ?_
  exact ⟨by rw [HOFF.out, HO.out], HK9.out.below (Nat.le_refl _) (fun _ h => h.elim)⟩
end Go.Proofs.YtcekammjpghjnaaDoor
