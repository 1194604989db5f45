/- A book with its blocks laid open; the walks of Has, Total, Fund. -/
import Derived.Test.YtcekammjpghjnaaDoorWs
import Derived.Test.YtcekammjpghjnaaDoorUBook4
namespace Go.Proofs.YtcekammjpghjnaaDoor
set_option linter.unusedVariables false
set_option linter.unusedSimpArgs false
open Go.ChangeShapes Go.WideShapes Go.ChangeAt Go.RowKit Go.Maps

structure BookAt (w : World) (g m0 m1 : Nat) (v : Value) (b : Bk) : Prop where
 obj : Has w g 71 #[.map (some m0), .map (some m1), v, .int .u64 (b.k0 : Int), .int .u64 (b.k1 : Int)]
 row : w.ownsRow 0 42 68 v b.offers.length (b.offers.flatMap Off.cells)
 map0 : MapIs w m0 b.l0
 map1 : MapIs w m1 b.l1
 ne : m0 ≠ m1
def bset (g m0 m1 : Nat) (v : Value) : Nat → Prop := fun k => k = g ∨ k = m0 ∨ k = m1 ∨ v.ownBlock = some k
theorem BookAt.is {w : World} {g m0 m1 : Nat} {v : Value} {b : Bk} (h : BookAt w g m0 m1 v b) : BookIs w 0 g m0 m1 b :=
 ⟨⟨v, h.obj, h.row⟩, h.map0, h.map1, h.ne, Nat.zero_le _, Nat.zero_le _, Nat.zero_le _⟩
theorem BookAt.kept {S : Nat → Prop} {w w' : World} {g m0 m1 : Nat} {v : Value} {b : Bk} (h : BookAt w g m0 m1 v b) (hk : Kept S w w') (hs : ∀ k, bset g m0 m1 v k → ¬ S k) : BookAt w' g m0 m1 v b :=
 ⟨h.obj.kept hk (hs _ (.inl rfl)), own_kept h.row hk (fun k e => hs _ (.inr (.inr (.inr e)))), h.map0.kept hk (hs _ (.inr (.inl rfl))), h.map1.kept hk (hs _ (.inr (.inr (.inl rfl)))), h.ne⟩
theorem BookAt.lt {w : World} {g m0 m1 : Nat} {v : Value} {b : Bk} (h : BookAt w g m0 m1 v b) : ∀ k, bset g m0 m1 v k → k < w.heap.size := by
 intro k hk
 rcases hk with rfl | rfl | rfl | hk
 · exact h.obj.lt
 · exact h.map0.lt
 · exact h.map1.lt
 · rcases h.row.2 with ⟨rfl, _⟩ | ⟨g', cap, cur, rfl, _, hh, _⟩
   · simp [Value.ownBlock] at hk
   · simp [Value.ownBlock] at hk
     subst hk
     exact (Array.getElem?_eq_some_iff.1 hh).1
structure Bk.ok (b : Bk) : Prop where
 n0 : Nums b.l0
 n1 : Nums b.l1
 off : ∀ o ∈ b.offers, o.ok
 len : b.offers.length ≤ 1000
def Bk.side (b : Bk) (at_ : Int) : List Ent := if at_ = 0 then b.l0 else b.l1
def Bk.put (b : Bk) (at_ : Int) (l : List Ent) : Bk := if at_ = 0 then { b with l0 := l } else { b with l1 := l }
def Bk.has (b : Bk) (at_ : Int) (id : List Nat) : Nat := numOf (look (b.side at_) id)
def isSide (n : Int) : Prop := n = 0 ∨ n = 1
instance (n : Int) : Decidable (isSide n) := inferInstanceAs (Decidable (n = 0 ∨ n = 1))
theorem Bk.ok.side {b : Bk} (h : b.ok) (at_ : Int) : Nums (b.side at_) := by
 unfold Bk.side; split
 · exact h.n0
 · exact h.n1

theorem BookAt.sided {w : World} {g m0 m1 : Nat} {v : Value} {b : Bk} (h : BookAt w g m0 m1 v b) (at_ : Int) (ha : isSide at_) :
   ∃ m, w.cell? ⟨g, at_.toNat, none⟩ = some (.map (some m)) ∧ MapIs w m (b.side at_) ∧ m = (if at_ = 0 then m0 else m1) := by
 rcases ha with rfl | rfl
 · exact ⟨m0, h.obj.cell_is rfl, h.map0, rfl⟩
 · exact ⟨m1, h.obj.cell_is rfl, h.map1, rfl⟩

theorem side_yes (w : World) (n : Int) (h : isSide n) : Calls Tryd.prog 29 #[.int .i64 n] w fun e w' => e = .returned (.bool true) ∧ w' = w :=
 (side_is w n).mono fun e w' he => ⟨by rw [he.1]; exact congrArg _ (congrArg _ (decide_eq_true h)), he.2⟩
theorem side_no (w : World) (n : Int) (h : ¬ isSide n) : Calls Tryd.prog 29 #[.int .i64 n] w fun e w' => e = .returned (.bool false) ∧ w' = w :=
 (side_is w n).mono fun e w' he => ⟨by rw [he.1]; exact congrArg _ (congrArg _ (decide_eq_false h)), he.2⟩

set_option maxRecDepth 100000 in
set_option maxHeartbeats 1000000 in
theorem has_is (w : World) (g m0 m1 : Nat) (v : Value) (b : Bk) (at_ : Int) (id : List Nat) (h : BookAt w g m0 m1 v b) (hb : b.ok) (hid : IsHash id) (ha : isSide at_) :
  Calls Tryd.prog 17 #[.pointer (some ⟨g, 0, none⟩), .int .i64 at_, arr id] w fun e w' => e = .returned (.int .u64 (b.has at_ id : Nat)) ∧ Below w.heap.size w w' := by
 obtain ⟨m, c, hm, -⟩ := h.sided at_ ha
 have szk : (Tryd.prog.info? 39).map (·.size) = some (bcells id).toArray.size := by rw [List.size_toArray, bcells_length, hid.1]; kernel_rfl
 have hgl := h.obj.lt
 have hbox := Has.new w 39 (bcells id).toArray
 have HBOX := Lib.hid hbox
 have HBELL := Lib.hid ((Below.refl w.heap.size w).alloc (Nat.le_refl _) (.cells (bcells id).toArray 39))
 have hk := (Kept.refl (fun _ => False) w).alloc (.cells (bcells id).toArray 39)
 have q := lookup_is (T := 68) Tryd.underlying68 zero_u64 (hm.kept hk (fun h => h)).drew hid
 rw [look_num (hb.side at_) id] at q
 have d : (w.alloc (.cells (bcells id).toArray 39)).cell? ⟨g, at_.toNat, none⟩ = some (.map (some m)) := by rw [World.cell?_alloc_lt w _ _ hgl]; exact c
 have HS := Lib.hid (fun w => side_yes w at_ ha)
 unfold Bk.has
 obtain ⟨x, hx⟩ : ∃ x, x = numOf (look (b.side at_) id) := ⟨_, rfl⟩
 rw [← hx] at q ⊢
 unfold arr at q ⊢
 have SZK := Lib.hid szk
 obtain ⟨IA, hIA⟩ : ∃ A, A = (bcells id).toArray := ⟨_, rfl⟩
 rw [← hIA] at HBOX HBELL d q SZK ⊢
 clear hb hk c hid szk hbox h hx hIA hm hgl
 rcases ha with ha | ha
 all_goals
  subst ha
  simp only [Int.reduceToNat] at d
  go_enter Tryd.func17, Tryd.ntmps17
  go_upto_region 1 with (fail)
  generalize w.alloc (.cells IA 39) = W at d HBOX HBELL q ⊢
  go_upto_region 3 with (refine (HS.out W).mono ?_; rintro _ W8 ⟨rfl, e8⟩; have e9 := e8.symm; subst e9)
  go_still_tail 8, (by kernel_rfl)
  refine still_load_row rfl 39 (.tmp 5) rfl w.heap.size rfl 39 IA (0, 0) _ (show Has W.drew w.heap.size 39 IA from HBOX.out.drew) Tryd.underlying39 rfl SZK.out ?_
  repeat still_step
  try refine wpStill_nil ?_
  change wpList _ _ _ _ _ W.drew
  go_wp2
  go_ret
  exact ⟨rfl, HBELL.out.drew⟩

set_option maxRecDepth 100000 in
set_option maxHeartbeats 1000000 in
theorem total_of (w : World) (g m0 m1 : Nat) (v : Value) (b : Bk) (id : List Nat) (h : BookAt w g m0 m1 v b) (hb : b.ok) (hid : IsHash id) :
   Calls Tryd.prog 18 #[.pointer (some ⟨g, 0, none⟩), arr id] w fun e w' => e = .returned (.int .u64 (if (amounts b id).sum < 18446744073709551616 then (amounts b id).sum else 0 : Nat)) ∧ Below w.heap.size w w' := by
 have szk : (Tryd.prog.info? 39).map (·.size) = some (bcells id).toArray.size := by rw [List.size_toArray, bcells_length, hid.1]; kernel_rfl
 have hbox := Has.new w 39 (bcells id).toArray
 have HBOX := Lib.hid hbox
 have HBELL := Lib.hid ((Below.refl w.heap.size w).alloc (Nat.le_refl _) (.cells (bcells id).toArray 39))
 have hk := (Kept.refl (fun _ => False) w).alloc (.cells (bcells id).toArray 39)
 have hall := all_is _ 0 g m0 m1 b id (h.kept hk (fun _ _ h => h)).is hb.n0 hb.n1 hb.off hid hb.len
 unfold arr at hall ⊢
 have SZK := Lib.hid szk
 obtain ⟨IA, hIA⟩ : ∃ A, A = (bcells id).toArray := ⟨_, rfl⟩
 rw [← hIA] at HBOX HBELL SZK hall ⊢
 have HALL := Lib.hid hall
 clear hb hk hid szk hbox h hIA hall
 go_enter Tryd.func18, Tryd.ntmps18
 go_wp2_with (refine wpList_load_row rfl 39 (.tmp 3) rfl w.heap.size rfl 39 IA (0, 0) _ HBOX.out Tryd.underlying39 rfl SZK.out ?_)
 refine HALL.out.mono ?_
 rintro _ W2 ⟨rfl, hb2⟩
 have hb3 := (HBELL.out.trans (hb2.mono (by have := HBELL.out.size; omega)))
 have HB3 := Lib.hid hb3
 clear hb2 hb3 HALL HBOX
 generalize w.alloc (.cells IA 39) = W at HBELL ⊢
 by_cases hfit : (amounts b id).sum < 18446744073709551616
 · have hfin : totalV (amounts b id) = .tuple #[.int .u64 ((amounts b id).sum : Nat), .int .i64 0] := by
    unfold totalV; rw [if_pos hfit]
   rw [hfin]
   have HFIT := Lib.hid hfit
   clear hfin hfit
   go_wp2
   go_ret
   exact ⟨rfl, HB3.out⟩
 · have hfin : totalV (amounts b id) = .tuple #[.int .u64 0, .int .i64 10] := by
    unfold totalV; rw [if_neg hfit]
   rw [hfin]
   have HFIT := Lib.hid hfit
   clear hfin hfit
   go_wp2
   go_ret
   exact ⟨rfl, HB3.out⟩
end Go.Proofs.YtcekammjpghjnaaDoor
/- The walk of Fund. -/
namespace Go.Proofs.YtcekammjpghjnaaDoor
set_option linter.unusedVariables false
set_option linter.unusedSimpArgs false
open Go.ChangeShapes Go.WideShapes Go.ChangeAt Go.RowKit Go.Maps

def addL (l : List Ent) (id : List Nat) (n : Nat) : List Ent := putL l id (.int .u64 ((numOf (look l id) + n : Nat) : Int))
theorem num_le_sum (b : Bk) (at_ : Int) (id : List Nat) : b.has at_ id ≤ (amounts b id).sum := by
 unfold Bk.has Bk.side amounts
 rw [List.sum_append]
 split <;> simp <;> omega

theorem BookAt.put {w w' : World} {g m0 m1 : Nat} {v : Value} {b : Bk} (h : BookAt w g m0 m1 v b) (at_ : Int) (ha : isSide at_) (m : Nat) (hm : m = (if at_ = 0 then m0 else m1)) (l : List Ent) (hl : MapIs w' m l) (hk : Kept (· = m) w w') (hv : ∀ k, v.ownBlock = some k → k ≠ m) (hg : g ≠ m) :
   BookAt w' g m0 m1 v (b.put at_ l) := by
 rcases ha with rfl | rfl
 · rw [if_pos rfl] at hm; subst hm
   refine ⟨h.obj.kept hk hg, own_kept h.row hk hv, hl, h.map1.kept hk (Ne.symm h.ne), h.ne⟩
 · rw [if_neg (by decide)] at hm; subst hm
   refine ⟨h.obj.kept hk hg, own_kept h.row hk hv, h.map0.kept hk h.ne, hl, h.ne⟩
theorem BookAt.far {w : World} {g m0 m1 : Nat} {v : Value} {b : Bk} (h : BookAt w g m0 m1 v b) (at_ : Int) (m : Nat) (hm : m = (if at_ = 0 then m0 else m1)) : (∀ k, v.ownBlock = some k → k ≠ m) ∧ g ≠ m := by
 have key : ∀ m l, MapIs w m l → (∀ k, v.ownBlock = some k → k ≠ m) ∧ g ≠ m := fun m l hm => by
   obtain ⟨es, clock, hb, _⟩ := hm
   constructor
   · intro k hk e
     subst e
     rcases h.row.2 with ⟨e, _⟩ | ⟨g', cap, cur, e, _, hh, _⟩
     · rw [e] at hk; simp [Value.ownBlock] at hk
     · rw [e] at hk; simp [Value.ownBlock] at hk
       subst hk
       rw [hb] at hh; cases hh
   · rintro rfl
     have := h.obj
     unfold Has at this
     rw [hb] at this; cases this
 by_cases e : at_ = 0
 · rw [if_pos e] at hm; subst hm; exact key _ _ h.map0
 · rw [if_neg e] at hm; subst hm; exact key _ _ h.map1

theorem Has.range {w : World} {g : Nat} {t : TypeId} {L : List Value} (h : Has w g t L.toArray) : w.rangeAt g 0 L := fun j u hu => by
 rw [Nat.zero_add]; exact h.cell_is (by simpa using hu)
theorem hash_under : Tryd.prog.underlying 39 = some (.array 32 5) := by kernel_rfl

set_option maxRecDepth 100000 in
set_option maxHeartbeats 2000000 in
theorem fund_fits (w : World) (g m0 m1 : Nat) (v : Value) (b : Bk) (at_ : Int) (id : List Nat) (n : Nat) (h : BookAt w g m0 m1 v b) (hb : b.ok) (hid : IsHash id) (ha : isSide at_) (hn : 0 < n) (hs : (amounts b id).sum + n < 18446744073709551616) :
  Calls Tryd.prog 8 #[.pointer (some ⟨g, 0, none⟩), .int .i64 at_, arr id, .int .u64 (n : Int)] w fun e w' => e = .returned (.int .i64 0) ∧ BookAt w' g m0 m1 v (b.put at_ (addL (b.side at_) id n)) ∧ Kept (bset g m0 m1 v) w w' := by
 have szk : (Tryd.prog.info? 39).map (·.size) = some (bcells id).toArray.size := by rw [List.size_toArray, bcells_length, hid.1]; kernel_rfl
 have hbox := Has.new w 39 (bcells id).toArray
 have HBOX := Lib.hid hbox
 have hk := (Kept.refl (fun _ => False) w).alloc (.cells (bcells id).toArray 39)
 have HK := Lib.hid hk
 have hat := h.kept hk (fun _ _ h => h)
 have HAT := Lib.hid hat
 have hall := all_is _ 0 g m0 m1 b id hat.is hb.n0 hb.n1 hb.off hid hb.len
 have hT : totalV (amounts b id) = .tuple #[.int .u64 ((amounts b id).sum : Nat), .int .i64 0] := by
  unfold totalV; rw [if_pos (by omega)]
 rw [hT] at hall
 have HS := Lib.hid (fun w => side_yes w at_ ha)
 have hle := num_le_sum b at_ id
 unfold Bk.has at hle
 have hnum := look_num (hb.side at_) id
 obtain ⟨x, hx⟩ : ∃ x, x = numOf (look (b.side at_) id) := ⟨_, rfl⟩
 rw [← hx] at hnum hle
 have HX := Lib.hid hx
 have HNUM := Lib.hid hnum
 obtain ⟨T, hTT⟩ : ∃ T, T = (amounts b id).sum := ⟨_, rfl⟩
 rw [← hTT] at hs hall hle
 have hxn : x + n < 18446744073709551616 := by omega
 have HADD := Lib.hid (fun w => add_fits w T n hs)
 have hsz := hk.size
 have HSZ := Lib.hid hsz
 have HID := Lib.hid hid
 have HA := Lib.hid ha
 unfold arr at hall ⊢
 have SZK := Lib.hid szk
 have hu30 := hash_under
 have hszl : (Tryd.prog.info? 39).map (·.size) = some (bcells id).length := by rw [bcells_length, hid.1]; kernel_rfl
 obtain ⟨L, hIA⟩ : ∃ A, A = bcells id := ⟨_, rfl⟩
 rw [← hIA] at HBOX SZK HK HAT hall HSZ hszl ⊢
 have HIA := Lib.hid hIA
 have HSZL := Lib.hid hszl
 have HALL := Lib.hid hall
 have hsd := h.sided at_ ha
 clear hszl hb hk hid szk hbox hIA hall hat h hTT hT hsz hle hx hnum
 have ha0 : (0 : Int) ≤ at_ := by rcases ha with rfl | rfl <;> decide
 have ha1 : at_ < 2 := by rcases ha with rfl | rfl <;> decide
 clear ha hsd
 go_enter Tryd.func8, Tryd.ntmps8
 go_upto_region 1 with (fail)
 generalize w.alloc (.cells L.toArray 39) = W at HBOX SZK HK HAT HALL HSZ ⊢
 go_upto_region 3 with (refine (HS.out W).mono ?_; rintro _ W8 ⟨rfl, e8⟩; have e9 := e8.symm; subst e9)
 go_wp2_with (refine wpList_load_row rfl 39 (.tmp 6) rfl w.heap.size rfl 39 L.toArray (0, 0) _ HBOX.out Tryd.underlying39 rfl SZK.out ?_)
 refine HALL.out.mono ?_
 rintro _ W2 ⟨rfl, hb2⟩
 have HB2 := Lib.hid hb2
 clear hb2
 go_wp2_with fail
 refine (HADD.out W2).mono ?_
 rintro _ W9 ⟨rfl, e9⟩
 have e10 := e9.symm
 subst e10
 have hkB := HK.out.trans (Kept.of_below (S := fun _ => False) HB2.out)
 have hat2 := HAT.out.kept (Kept.of_below (S := fun _ => False) HB2.out) (fun _ _ h => h)
 obtain ⟨m, c, hm, hmm⟩ := hat2.sided _ HA.out
 have hbx := HBOX.out.kept (Kept.of_below (S := fun _ => False) HB2.out) (fun h => h)
 have q := lookup_is (T := 68) Tryd.underlying68 zero_u64 hm.drew HID.out
 obtain ⟨w1, v0, st, q1, hk1, ⟨hm1, hv0⟩, hst⟩ := entry_is (T := 68) Tryd.underlying68 zero_u64 hm.drew HID.out
 rw [HNUM.out] at q hv0
 have q3 := lookup_is (T := 68) Tryd.underlying68 zero_u64 hm1 HID.out
 rw [look_putL, Option.getD_some] at q3
 subst hv0
 clear hm1
 obtain ⟨w2, q2, hm2, hk2⟩ := hst (.int .u64 (IntKind.u64.wrap ((x : Int) + (n : Int))))
 unfold arr at q q1 q3
 rw [← HIA.out] at q q1 q3
 obtain ⟨hf1, hf2⟩ := hat2.far at_ m hmm
 have hbm : w.heap.size ≠ m := fun e => by
  obtain ⟨es, ck, hmb, _⟩ := hm
  unfold Has at hbx
  rw [e, hmb] at hbx
  cases hbx
 have r2 := hbx.drew.range
 have r1 := (hbx.drew.kept hk1 hbm).range
 have r3 := (hbx.drew.kept hk2 hbm).range
 have c1 := cell_held hk1 (show W2.drew.cell? _ = _ from c) hf2
 have c3 := cell_held hk2 (show W2.drew.cell? _ = _ from c) hf2
 have hwr : IntKind.u64.wrap ((x : Int) + (n : Int)) = ((x + n : Nat) : Int) := by rw [IntKind.wrap_u64]; omega
 have hfin : BookAt w2 g m0 m1 v (b.put at_ (addL (b.side at_) id n)) ∧ Kept (bset g m0 m1 v) w w2 := by
  refine ⟨(hat2.kept ((Kept.refl (fun _ => False) W2).drew) (fun _ _ h => h)).put at_ HA.out m hmm _ ?_ hk2 hf1 hf2, (hkB.mono (fun _ _ h => h.elim)).step hk2.undrew (fun k hk => .inl ?_)⟩
  · unfold addL; rw [← HX.out, ← hwr]; exact hm2
  · subst hk
    rw [hmm]
    split
    · exact .inr (.inl rfl)
    · exact .inr (.inr (.inl rfl))
 have HFIN := Lib.hid hfin
 have HBX := Lib.hid hbx
 have HAT2 := Lib.hid hat2
 have HM := Lib.hid hm2
 have HK2 := Lib.hid hk2
 have HKB := Lib.hid hkB
 have HMM := Lib.hid hmm
 clear hwr hfin hf1 hf2 hbm hat2 hm hmm hbx hst hk1 hm2 hk2 hkB HADD HALL HBOX HS HIA HNUM
 go_upto_region 9 with (fail)
 have hs := HSZL.out
 go_region_held3 (fun w' => w'.cell? ⟨g, at_.toNat, none⟩ = some (.map (some m)) ∧ w'.rangeAt w.heap.size 0 L) (first | exact ⟨c, r2⟩ | exact ⟨c1, r1⟩ | exact ⟨c3, r3⟩) (fail)
 all_goals
  go_wp2
  go_ret
  exact ⟨rfl, HFIN.out⟩
end Go.Proofs.YtcekammjpghjnaaDoor
