/- A book with its blocks laid open; the walks of Has, Total, Fund. -/
import Derived.Test.YtnddejgglbdkmaaDoorBook4
namespace Go.Proofs.YtnddejgglbdkmaaDoor
set_option linter.unusedVariables false
set_option linter.unusedSimpArgs false
open Go.ChangeShapes Go.WideShapes Go.ChangeAt Go.RowKit Go.Maps

/-- a book that lies at g, its maps at m0 and m1, its offers in the slice v. -/
structure BookAt (w : World) (g m0 m1 : Nat) (v : Value) (b : Bk) : Prop where
  obj : Has w g 77 #[.map (some m0), .map (some m1), v, .int .u64 (b.k0 : Int), .int .u64 (b.k1 : Int)]
  row : w.ownsRow 0 32 68 v b.offers.length (b.offers.flatMap Off.cells)
  map0 : MapIs w m0 b.l0
  map1 : MapIs w m1 b.l1
  ne : m0 ≠ m1
/-- the blocks of a book. -/
def bset (g m0 m1 : Nat) (v : Value) : Nat → Prop := fun k => k = g ∨ k = m0 ∨ k = m1 ∨ v.ownBlock = some k
theorem BookAt.is {w : World} {g m0 m1 : Nat} {v : Value} {b : Bk} (h : BookAt w g m0 m1 v b) : BookIs w 0 g m0 m1 b :=
  ⟨⟨v, h.obj, h.row⟩, h.map0, h.map1, h.ne, Nat.zero_le _, Nat.zero_le _, Nat.zero_le _⟩
theorem BookAt.kept {S : Nat → Prop} {w w' : World} {g m0 m1 : Nat} {v : Value} {b : Bk} (h : BookAt w g m0 m1 v b) (hk : Kept S w w') (hs : ∀ k, bset g m0 m1 v k → ¬ S k) : BookAt w' g m0 m1 v b :=
  ⟨h.obj.kept hk (hs _ (.inl rfl)), own_kept h.row hk (fun k e => hs _ (.inr (.inr (.inr e)))), h.map0.kept hk (hs _ (.inr (.inl rfl))), h.map1.kept hk (hs _ (.inr (.inr (.inl rfl)))), h.ne⟩
theorem BookAt.lt {w : World} {g m0 m1 : Nat} {v : Value} {b : Bk} (h : BookAt w g m0 m1 v b) : ∀ k, bset g m0 m1 v k → k < w.heap.size := by
  intro k hk
  rcases hk with rfl | rfl | rfl | hk
  · exact h.obj.lt
  · exact h.map0.lt
  · exact h.map1.lt
  · rcases h.row.2 with ⟨rfl, _⟩ | ⟨g', cap, cur, rfl, _, hh, _⟩
    · simp [Value.ownBlock] at hk
    · simp [Value.ownBlock] at hk
      subst hk
      exact (Array.getElem?_eq_some_iff.1 hh).1
/-- a book with numbers that can be. -/
structure Bk.ok (b : Bk) : Prop where
  n0 : Nums b.l0
  n1 : Nums b.l1
  off : ∀ o ∈ b.offers, o.ok
  len : b.offers.length ≤ 1000
/-- what a side has. -/
def Bk.side (b : Bk) (at_ : Int) : List Ent := if at_ = 0 then b.l0 else b.l1
def Bk.put (b : Bk) (at_ : Int) (l : List Ent) : Bk := if at_ = 0 then { b with l0 := l } else { b with l1 := l }
/-- how much a side has of an asset. -/
def Bk.has (b : Bk) (at_ : Int) (id : List Nat) : Nat := numOf (look (b.side at_) id)
def isSide (n : Int) : Prop := n = 0 ∨ n = 1
instance (n : Int) : Decidable (isSide n) := inferInstanceAs (Decidable (n = 0 ∨ n = 1))
theorem Bk.ok.side {b : Bk} (h : b.ok) (at_ : Int) : Nums (b.side at_) := by
  unfold Bk.side; split
  · exact h.n0
  · exact h.n1

theorem BookAt.sided {w : World} {g m0 m1 : Nat} {v : Value} {b : Bk} (h : BookAt w g m0 m1 v b) (at_ : Int) (ha : isSide at_) :
    ∃ m, w.cell? ⟨g, at_.toNat, none⟩ = some (.map (some m)) ∧ MapIs w m (b.side at_) ∧ m = (if at_ = 0 then m0 else m1) := by
  rcases ha with rfl | rfl
  · exact ⟨m0, h.obj.cell_is rfl, h.map0, rfl⟩
  · exact ⟨m1, h.obj.cell_is rfl, h.map1, rfl⟩

theorem side_yes (w : World) (n : Int) (h : isSide n) : Calls Tryd.prog 29 #[.int .i64 n] w fun e w' => e = .returned (.bool true) ∧ w' = w :=
  (side_is w n).mono fun e w' he => ⟨by rw [he.1]; exact congrArg _ (congrArg _ (decide_eq_true h)), he.2⟩
theorem side_no (w : World) (n : Int) (h : ¬ isSide n) : Calls Tryd.prog 29 #[.int .i64 n] w fun e w' => e = .returned (.bool false) ∧ w' = w :=
  (side_is w n).mono fun e w' he => ⟨by rw [he.1]; exact congrArg _ (congrArg _ (decide_eq_false h)), he.2⟩

set_option maxRecDepth 100000 in
set_option maxHeartbeats 1000000 in
theorem has_is (w : World) (g m0 m1 : Nat) (v : Value) (b : Bk) (at_ : Int) (id : List Nat) (h : BookAt w g m0 m1 v b) (hb : b.ok) (hid : IsHash id) (ha : isSide at_) :
    Calls Tryd.prog 16 #[.pointer (some ⟨g, 0, none⟩), .int .i64 at_, arr id] w fun e w' => e = .returned (.int .u64 (b.has at_ id : Nat)) ∧ Below w.heap.size w w' := by
  obtain ⟨m, c, hm, -⟩ := h.sided at_ ha
  have szk : (Tryd.prog.info? 30).map (·.size) = some (bcells id).toArray.size := by rw [List.size_toArray, bcells_length, hid.1]; kernel_rfl
  have hgl := h.obj.lt
  have hbox := Has.new w 30 (bcells id).toArray
  have HBOX := Lib.hid hbox
  have HBELL := Lib.hid ((Below.refl w.heap.size w).alloc (Nat.le_refl _) (.cells (bcells id).toArray 30))
  have hk := (Kept.refl (fun _ => False) w).alloc (.cells (bcells id).toArray 30)
  have q := lookup_is (T := 28) Tryd.underlying28 zero_u64 (hm.kept hk (fun h => h)).drew hid
  rw [look_num (hb.side at_) id] at q
  have d : (w.alloc (.cells (bcells id).toArray 30)).cell? ⟨g, at_.toNat, none⟩ = some (.map (some m)) := by rw [World.cell?_alloc_lt w _ _ hgl]; exact c
  have HS := Lib.hid (fun w => side_yes w at_ ha)
  unfold Bk.has
  obtain ⟨x, hx⟩ : ∃ x, x = numOf (look (b.side at_) id) := ⟨_, rfl⟩
  rw [← hx] at q ⊢
  unfold arr at q ⊢
  have SZK := Lib.hid szk
  obtain ⟨IA, hIA⟩ : ∃ A, A = (bcells id).toArray := ⟨_, rfl⟩
  rw [← hIA] at HBOX HBELL d q SZK ⊢
  clear hb hk c hid szk hbox h hx hIA hm hgl
  rcases ha with ha | ha
  all_goals
    subst ha
    simp only [Int.reduceToNat] at d
    go_enter Tryd.func16, Tryd.ntmps16
    go_upto_region 1 with (fail)
    generalize w.alloc (.cells IA 30) = W at d HBOX HBELL q ⊢
    go_upto_region 3 with (refine (HS.out W).mono ?_; rintro _ W8 ⟨rfl, e8⟩; have e9 := e8.symm; subst e9)
    go_still_tail 8, (by kernel_rfl)
    refine still_load_row rfl 30 (.tmp 5) rfl w.heap.size rfl 30 IA (0, 0) _ (show Has W.drew w.heap.size 30 IA from HBOX.out.drew) Tryd.underlying30 rfl SZK.out ?_
    repeat still_step
    try refine wpStill_nil ?_
    change wpList _ _ _ _ _ W.drew
    go_wp2
    go_ret
    exact ⟨rfl, HBELL.out.drew⟩

set_option maxRecDepth 100000 in
set_option maxHeartbeats 1000000 in
theorem total_of (w : World) (g m0 m1 : Nat) (v : Value) (b : Bk) (id : List Nat) (h : BookAt w g m0 m1 v b) (hb : b.ok) (hid : IsHash id) :
    Calls Tryd.prog 15 #[.pointer (some ⟨g, 0, none⟩), arr id] w fun e w' => e = .returned (.int .u64 (if (amounts b id).sum < 18446744073709551616 then (amounts b id).sum else 0 : Nat)) ∧ Below w.heap.size w w' := by
  have szk : (Tryd.prog.info? 30).map (·.size) = some (bcells id).toArray.size := by rw [List.size_toArray, bcells_length, hid.1]; kernel_rfl
  have hbox := Has.new w 30 (bcells id).toArray
  have HBOX := Lib.hid hbox
  have HBELL := Lib.hid ((Below.refl w.heap.size w).alloc (Nat.le_refl _) (.cells (bcells id).toArray 30))
  have hk := (Kept.refl (fun _ => False) w).alloc (.cells (bcells id).toArray 30)
  have hall := all_is _ 0 g m0 m1 b id (h.kept hk (fun _ _ h => h)).is hb.n0 hb.n1 hb.off hid hb.len
  unfold arr at hall ⊢
  have SZK := Lib.hid szk
  obtain ⟨IA, hIA⟩ : ∃ A, A = (bcells id).toArray := ⟨_, rfl⟩
  rw [← hIA] at HBOX HBELL SZK hall ⊢
  have HALL := Lib.hid hall
  clear hb hk hid szk hbox h hIA hall
  go_enter Tryd.func15, Tryd.ntmps15
  go_wp2_with (refine wpList_load_row rfl 30 (.tmp 3) rfl w.heap.size rfl 30 IA (0, 0) _ HBOX.out Tryd.underlying30 rfl SZK.out ?_)
  refine HALL.out.mono ?_
  rintro _ W2 ⟨rfl, hb2⟩
  have hb3 := (HBELL.out.trans (hb2.mono (by have := HBELL.out.size; omega)))
  have HB3 := Lib.hid hb3
  clear hb2 hb3 HALL HBOX
  generalize w.alloc (.cells IA 30) = W at HBELL ⊢
  by_cases hfit : (amounts b id).sum < 18446744073709551616
  · have hfin : totalV (amounts b id) = .tuple #[.int .u64 ((amounts b id).sum : Nat), .int .i64 0] := by
      unfold totalV; rw [if_pos hfit]
    rw [hfin]
    have HFIT := Lib.hid hfit
    clear hfin hfit
    go_wp2
    go_ret
    exact ⟨rfl, HB3.out⟩
  · have hfin : totalV (amounts b id) = .tuple #[.int .u64 0, .int .i64 10] := by
      unfold totalV; rw [if_neg hfit]
    rw [hfin]
    have HFIT := Lib.hid hfit
    clear hfin hfit
    go_wp2
    go_ret
    exact ⟨rfl, HB3.out⟩
end Go.Proofs.YtnddejgglbdkmaaDoor
