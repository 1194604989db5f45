/- The walk of Offer: what it refuses by its arguments. -/
import Derived.Test.YtnddejgglbdkmaaDoorBook8
namespace Go.Proofs.YtnddejgglbdkmaaDoor
set_option linter.unusedVariables false
set_option linter.unusedSimpArgs false
open Go.ChangeShapes Go.WideShapes Go.ChangeAt Go.RowKit Go.Maps

/-- the arguments of an offer can be. -/
def Off.fair (o : Off) : Prop := isSide o.frm ∧ 0 ≤ o.no ∧ 0 < o.am ∧ 0 ≤ o.til ∧ o.til ≤ 1073741824
instance (o : Off) : Decidable o.fair := inferInstanceAs (Decidable (_ ∧ _ ∧ _ ∧ _ ∧ _))
theorem off_cells (o : Off) (h : o.ok) : o.cells[0]? = some (.int .i64 o.no) ∧ o.cells[1]? = some (.int .i64 o.frm) ∧ o.cells[34]? = some (.int .u64 (o.am : Int)) ∧ o.cells[67]? = some (.int .i64 o.til) := by
  refine ⟨rfl, rfl, ?_, ?_⟩
  · rw [Off.cells, List.getElem?_append_right (by simp), List.getElem?_append_right (by simp [bcells_length, h.1.1])]
    simp [bcells_length, h.1.1]
  · rw [Off.cells, List.getElem?_append_right (by simp), List.getElem?_append_right (by simp [bcells_length, h.1.1])]
    simp [bcells_length, h.1.1, h.2.1.1]
theorem off_id {w : World} {G : Nat} {t : TypeId} {o : Off} (h : Has w G t o.cells.toArray) : w.rangeAt G 2 (bcells o.id) := fun j u hu => by
  have hj := (List.getElem?_eq_some_iff.1 hu).1
  refine h.cell_is ?_
  rw [List.getElem?_toArray, Off.cells, List.getElem?_append_right (by simp), List.getElem?_append_left (by simp; omega)]
  simpa using hu
/-- four numbers of an offer, in its own block. -/
theorem off_has {w : World} {G : Nat} {t : TypeId} {o : Off} (h : Has w G t o.cells.toArray) (ho : o.ok) :
    w.cell? ⟨G, 0, none⟩ = some (.int .i64 o.no) ∧ w.cell? ⟨G, 1, none⟩ = some (.int .i64 o.frm) ∧ w.cell? ⟨G, 34, none⟩ = some (.int .u64 (o.am : Int)) ∧ w.cell? ⟨G, 67, none⟩ = some (.int .i64 o.til) := by
  obtain ⟨a, b, c, d⟩ := off_cells o ho
  exact ⟨h.cell_is (by simpa using a), h.cell_is (by simpa using b), h.cell_is (by simpa using c), h.cell_is (by simpa using d)⟩

set_option maxRecDepth 100000 in
set_option maxHeartbeats 2000000 in
theorem offer_arg (w : World) (g : Nat) (o : Off) (ho : o.ok) (h : ¬ o.fair) :
    Calls Tryd.prog 11 #[.pointer (some ⟨g, 0, none⟩), .agg o.cells.toArray] w fun e w' => e = .returned (.int .i64 1) ∧ Below w.heap.size w w' := by
  have hbox := Has.new w 32 o.cells.toArray
  obtain ⟨d0, d1, d2, d3⟩ := off_has hbox ho
  have HBEL := Lib.hid ((Below.refl w.heap.size w).alloc (Nat.le_refl _) (.cells o.cells.toArray 32))
  have hfair : isSide o.frm → 0 ≤ o.no → 0 < o.am → 0 ≤ o.til → o.til ≤ 1073741824 → False := fun a b c d e => h ⟨a, b, c, d, e⟩
  have hy := fun w => side_yes w o.frm
  have hn := fun w => side_no w o.frm
  obtain ⟨no, hno⟩ : ∃ n, n = o.no := ⟨_, rfl⟩
  obtain ⟨frm, hfrm⟩ : ∃ n, n = o.frm := ⟨_, rfl⟩
  obtain ⟨am, ham⟩ : ∃ n, n = o.am := ⟨_, rfl⟩
  obtain ⟨til, htil⟩ : ∃ n, n = o.til := ⟨_, rfl⟩
  rw [← hno, ← hfrm, ← ham, ← htil] at hfair
  rw [← hno] at d0
  rw [← hfrm] at d1 hy hn
  rw [← ham] at d2
  rw [← htil] at d3
  obtain ⟨L, hL⟩ : ∃ A, A = o.cells := ⟨_, rfl⟩
  rw [← hL] at d0 d1 d2 d3 HBEL ⊢
  clear hbox hno hfrm ham htil hL h ho
  have HFAIR := Lib.hid hfair
  clear hfair
  by_cases hs : isSide frm
  · have HS := Lib.hid (fun w => hy w hs)
    by_cases h1 : 0 ≤ no
    · by_cases h2 : 0 < am
      · by_cases h3 : 0 ≤ til
        · have h4 : 1073741824 < til := Int.not_le.1 (fun e => HFAIR.out hs h1 h2 h3 e)
          clear hs hy hn HFAIR
          go_enter Tryd.func11, Tryd.ntmps11
          go_upto_region 1 with (fail)
          generalize w.alloc (.cells L.toArray 32) = W at d0 d1 d2 d3 HBEL ⊢
          go_wp2_with fail
          refine (HS.out W).mono ?_
          rintro _ W8 ⟨rfl, e8⟩
          have e9 := e8.symm
          subst e9
          go_wp2
          go_ret
          exact ⟨rfl, HBEL.out⟩
        · clear hs hy hn HFAIR
          go_enter Tryd.func11, Tryd.ntmps11
          go_upto_region 1 with (fail)
          generalize w.alloc (.cells L.toArray 32) = W at d0 d1 d2 d3 HBEL ⊢
          go_wp2_with fail
          refine (HS.out W).mono ?_
          rintro _ W8 ⟨rfl, e8⟩
          have e9 := e8.symm
          subst e9
          go_wp2
          go_ret
          exact ⟨rfl, HBEL.out⟩
      · have h2 : am = 0 := by omega
        subst h2
        clear hs hy hn HFAIR
        go_enter Tryd.func11, Tryd.ntmps11
        go_upto_region 1 with (fail)
        generalize w.alloc (.cells L.toArray 32) = W at d0 d1 d2 d3 HBEL ⊢
        go_wp2_with fail
        refine (HS.out W).mono ?_
        rintro _ W8 ⟨rfl, e8⟩
        have e9 := e8.symm
        subst e9
        go_wp2
        go_ret
        exact ⟨rfl, HBEL.out⟩
    · clear hs hy hn HFAIR
      go_enter Tryd.func11, Tryd.ntmps11
      go_upto_region 1 with (fail)
      generalize w.alloc (.cells L.toArray 32) = W at d0 d1 d2 d3 HBEL ⊢
      go_wp2_with fail
      refine (HS.out W).mono ?_
      rintro _ W8 ⟨rfl, e8⟩
      have e9 := e8.symm
      subst e9
      go_wp2
      go_ret
      exact ⟨rfl, HBEL.out⟩
  · have HS := Lib.hid (fun w => hn w hs)
    clear hs hy hn HFAIR
    go_enter Tryd.func11, Tryd.ntmps11
    go_upto_region 1 with (fail)
    generalize w.alloc (.cells L.toArray 32) = W at d0 d1 d2 d3 HBEL ⊢
    go_wp2_with fail
    refine (HS.out W).mono ?_
    rintro _ W8 ⟨rfl, e8⟩
    have e9 := e8.symm
    subst e9
    go_wp2
    go_ret
    exact ⟨rfl, HBEL.out⟩
end Go.Proofs.YtnddejgglbdkmaaDoor
