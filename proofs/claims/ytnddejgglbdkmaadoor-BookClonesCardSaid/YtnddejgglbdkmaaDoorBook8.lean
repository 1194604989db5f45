/- The walks of find with its closure, of slices.IndexFunc. -/
import Derived.Test.YtnddejgglbdkmaaDoorBook7
namespace Go.Proofs.YtnddejgglbdkmaaDoor
set_option linter.unusedVariables false
set_option linter.unusedSimpArgs false
open Go.ChangeShapes Go.WideShapes Go.ChangeAt Go.RowKit Go.Maps

theorem off_cell (o : Off) : o.cells[0]? = some (.int .i64 o.no) ∧ o.cells[1]? = some (.int .i64 o.frm) := ⟨rfl, rfl⟩
set_option maxRecDepth 100000 in
set_option maxHeartbeats 1000000 in
theorem pick_is (w : World) (o : Off) (frm no : Int) (B1 B2 : Nat) (h1 : w.cell? ⟨B1, 0, none⟩ = some (.int .i64 frm)) (h2 : w.cell? ⟨B2, 0, none⟩ = some (.int .i64 no)) :
    Calls Tryd.prog 56 #[.agg o.cells.toArray, .pointer (some ⟨B1, 0, none⟩), .pointer (some ⟨B2, 0, none⟩)] w fun e w' => e = .returned (.bool (decide (o.frm = frm ∧ o.no = no))) ∧ Below w.heap.size w w' := by
  have hbox := Has.new w 32 o.cells.toArray
  have d0 : (w.alloc (.cells o.cells.toArray 32)).cell? ⟨w.heap.size, 0, none⟩ = some (.int .i64 o.no) := hbox.cell_is (by simpa using (off_cell o).1)
  have d1 : (w.alloc (.cells o.cells.toArray 32)).cell? ⟨w.heap.size, 1, none⟩ = some (.int .i64 o.frm) := hbox.cell_is (by simpa using (off_cell o).2)
  have d2 : (w.alloc (.cells o.cells.toArray 32)).cell? ⟨B1, 0, none⟩ = some (.int .i64 frm) := by rw [World.cell?_alloc_lt w _ _ (World.block_lt_of_cell? w _ h1)]; exact h1
  have d3 : (w.alloc (.cells o.cells.toArray 32)).cell? ⟨B2, 0, none⟩ = some (.int .i64 no) := by rw [World.cell?_alloc_lt w _ _ (World.block_lt_of_cell? w _ h2)]; exact h2
  have HBEL := Lib.hid ((Below.refl w.heap.size w).alloc (Nat.le_refl _) (.cells o.cells.toArray 32))
  obtain ⟨n1, hn1⟩ : ∃ n, n = o.no := ⟨_, rfl⟩
  obtain ⟨f1, hf1⟩ : ∃ n, n = o.frm := ⟨_, rfl⟩
  obtain ⟨L, hL⟩ : ∃ A, A = o.cells := ⟨_, rfl⟩
  rw [← hn1] at d0
  rw [← hf1] at d1
  rw [← hL] at d0 d1 d2 d3 HBEL ⊢
  rw [← hn1, ← hf1]
  clear hbox h1 h2 hn1 hf1 hL
  by_cases e1 : f1 = frm
  · subst e1
    by_cases e2 : n1 = no
    · subst e2
      go_enter Tryd.func56, Tryd.ntmps56
      go_upto_region 1 with (fail)
      generalize w.alloc (.cells L.toArray 32) = W at d0 d1 d2 d3 HBEL ⊢
      go_wp2
      go_ret
      exact ⟨by simp, HBEL.out⟩
    · go_enter Tryd.func56, Tryd.ntmps56
      go_upto_region 1 with (fail)
      generalize w.alloc (.cells L.toArray 32) = W at d0 d1 d2 d3 HBEL ⊢
      go_wp2
      go_ret
      exact ⟨by simp [e2], HBEL.out⟩
  · go_enter Tryd.func56, Tryd.ntmps56
    go_upto_region 1 with (fail)
    generalize w.alloc (.cells L.toArray 32) = W at d0 d1 d2 d3 HBEL ⊢
    go_wp2
    go_ret
    exact ⟨by simp [e1], HBEL.out⟩

/-- where an offer stands. -/
def findI : List Off → Int → Int → Int
  | [], _, _ => -1
  | o :: os, f, n => if o.frm = f ∧ o.no = n then 0 else if findI os f n < 0 then -1 else findI os f n + 1
theorem findI_none (os : List Off) (f n : Int) (h : ∀ o ∈ os, ¬ (o.frm = f ∧ o.no = n)) : findI os f n = -1 := by
  induction os with
  | nil => rfl
  | cons o os ih =>
    rw [findI, if_neg (h o List.mem_cons_self), ih (fun p hp => h p (List.mem_cons_of_mem _ hp))]
    rfl
theorem findI_at (os : List Off) (f n : Int) (k : Nat) (o : Off) (hk : os[k]? = some o) (ho : o.frm = f ∧ o.no = n) (h : ∀ j p, j < k → os[j]? = some p → ¬ (p.frm = f ∧ p.no = n)) : findI os f n = k := by
  induction os generalizing k with
  | nil => simp at hk
  | cons q os ih =>
    cases k with
    | zero =>
      simp at hk; subst hk
      rw [findI, if_pos ho]; rfl
    | succ k =>
      rw [List.getElem?_cons_succ] at hk
      have := ih k hk (fun j p hj hp => h (j + 1) p (by omega) (by rw [List.getElem?_cons_succ]; exact hp))
      rw [findI, if_neg (h 0 q (by omega) rfl), this, if_neg (by omega)]
      omega

set_option maxRecDepth 100000 in
set_option maxHeartbeats 1000000 in
theorem index_is (w : World) (os : List Off) (hok : ∀ o ∈ os, o.ok) (hn : os.length ≤ 1000) (v : Value) (hv : w.ownsRow 0 32 68 v os.length (os.flatMap Off.cells)) (frm no : Int) (B1 B2 : Nat) (h1 : w.cell? ⟨B1, 0, none⟩ = some (.int .i64 frm)) (h2 : w.cell? ⟨B2, 0, none⟩ = some (.int .i64 no)) :
    Calls Tryd.prog 55 #[v, .func (.func 56) #[] #[.pointer (some ⟨B1, 0, none⟩), .pointer (some ⟨B2, 0, none⟩)]] w fun e w' => e = .returned (.int .i64 (findI os frm no)) ∧ Below w.heap.size w w' := by
  obtain ⟨va, vc, rfl⟩ : ∃ va vc, v = .slice va os.length vc := by
    rcases hv.2 with ⟨rfl, e⟩ | ⟨g', cap, cur, rfl, _⟩
    · exact ⟨none, 0, by rw [e]⟩
    · exact ⟨_, _, rfl⟩
  have HV := Lib.hid hv
  have HNN := Lib.hid hn
  have H1 := Lib.hid h1
  have H2 := Lib.hid h2
  obtain ⟨n9, hn9⟩ : ∃ n, n = os.length := ⟨_, rfl⟩
  have HN9 := Lib.hid hn9
  rw [← hn9] at hn ⊢
  clear hv h1 h2 hn9
  go_enter Tryd.func55, Tryd.ntmps55
  go_wp2
  go_loopw [8] (fun i wr => ∃ k : Nat, k ≤ n9 ∧ i = .int .i64 k ∧ Below w.heap.size w wr ∧ ∀ j p, j < k → os[j]? = some p → ¬ (p.frm = frm ∧ p.no = no)) (fun i _ => n9 - (intOf i).toNat)
  case atStart => exact ⟨0, by omega, rfl, Below.refl _ _, fun j p hj => absurd hj (by omega)⟩
  case round =>
    obtain ⟨k, hk, rfl, hbel, hno⟩ := hrel
    have HB := Lib.hid hbel
    have HNO := Lib.hid hno
    clear hbel hno
    by_cases hlt : k < n9
    · have hlt2 : k < os.length := by rw [← HN9.out]; exact hlt
      obtain ⟨o, ho⟩ : ∃ o, os[k]? = some o := ⟨_, List.getElem?_eq_getElem hlt2⟩
      have HO := Lib.hid ho
      have HOK := Lib.hid (hok o (List.mem_of_getElem? ho))
      obtain ⟨go_, cap, hvv, hBg, hgo, hrng⟩ := off_range HV.out hok ho
      injection hvv with hv1 hv2 hv3
      subst hv1 hv3
      have HRW := Lib.hid (rangeAt_kept hrng (Kept.of_below (S := fun _ => False) HB.out) (fun h => h))
      have hlen := Off.length o HOK.out
      have sz33 : (Tryd.prog.info? 32).map (·.size) = some o.cells.length := by rw [hlen]; kernel_rfl
      have SZ33 := Lib.hid sz33
      have HPK := Lib.hid (fun (W : World) (hW : Below w.heap.size w W) => pick_is W o frm no B1 B2 ((hW.cell (p := ⟨B1, 0, none⟩) (World.block_lt_of_cell? w _ H1.out)).trans H1.out) ((hW.cell (p := ⟨B2, 0, none⟩) (World.block_lt_of_cell? w _ H2.out)).trans H2.out))
      clear hrng ho sz33 hlen hv2
      have hkb : k < 1000 := by omega
      go_wp2_with (refine wpList_load_mid rfl 32 (.tmp 14) rfl go_ (k * 68) rfl o.cells _ (by rw [Nat.mul_comm]; exact HRW.out) Tryd.underlying32 rfl SZ33.out ?_)
      refine (HPK.out wr HB.out).mono ?_
      rintro _ w3 ⟨rfl, hb3⟩
      have HB3 := Lib.hid (HB.out.trans (hb3.mono HB.out.size))
      clear hb3
      by_cases hc : o.frm = frm ∧ o.no = no
      · rw [decide_eq_true hc]
        have hfi := findI_at os frm no k o HO.out hc HNO.out
        have HF := Lib.hid hfi
        clear hc hfi
        go_wp2
        go_ret
        exact ⟨by rw [HF.out]; rfl, HB3.out⟩
      · rw [decide_eq_false hc]
        have HC := Lib.hid hc
        clear hc
        go_wp2
        go_roundw
        case rel =>
          refine ⟨k + 1, by omega, by go_num, HB3.out, fun j p hj hp => ?_⟩
          by_cases hjk : j = k
          · subst hjk
            rw [HO.out] at hp
            exact Option.some.inj hp ▸ HC.out
          · exact HNO.out j p (by omega) hp
        case measure => simp [intOf]; omega
    · have hfi : findI os frm no = -1 := findI_none os frm no (fun o ho => by
        obtain ⟨j, hj⟩ := List.getElem?_of_mem ho
        have hjl := (List.getElem?_eq_some_iff.1 hj).1
        have := HN9.out
        exact HNO.out j o (by omega) hj)
      have HF := Lib.hid hfi
      clear hfi
      go_wp2
      go_ret
      exact ⟨by rw [HF.out]; rfl, HB.out⟩

set_option maxRecDepth 100000 in
set_option maxHeartbeats 1000000 in
theorem find_is (w : World) (g m0 m1 : Nat) (v : Value) (b : Bk) (frm no : Int) (h : BookAt w g m0 m1 v b) (hb : b.ok) :
    Calls Tryd.prog 33 #[.pointer (some ⟨g, 0, none⟩), .int .i64 frm, .int .i64 no] w fun e w' => e = .returned (.int .i64 (findI b.offers frm no)) ∧ Below w.heap.size w w' := by
  have hmf : ∀ (fn : Fn) (first cap : Array Value) (w : World), (Instr.makeFunc fn first cap).run Tryd.prog w = .ok (.func fn first cap) w := fun _ _ _ _ => rfl
  have b1 := Has.new w 3 #[.int .i64 frm]
  have k1 := (Kept.refl (fun _ => False) w).alloc (.cells #[.int .i64 frm] 3)
  have b2 := Has.new (w.alloc (.cells #[.int .i64 frm] 3)) 3 #[.int .i64 no]
  have k2 := (Kept.refl (fun _ => False) (w.alloc (.cells #[.int .i64 frm] 3))).alloc (.cells #[.int .i64 no] 3)
  have hsz : (w.alloc (.cells #[.int .i64 frm] 3)).heap.size = w.heap.size + 1 := by simp
  have c2 : ((w.alloc (.cells #[.int .i64 frm] 3)).alloc (.cells #[.int .i64 no] 3)).cell? ⟨g, 2, none⟩ = some v := ((h.kept k1 (fun _ _ h => h)).kept k2 (fun _ _ h => h)).obj.cell_is (i := 2) rfl
  have hrow := ((h.kept k1 (fun _ _ h => h)).kept k2 (fun _ _ h => h)).row
  have hix := index_is _ b.offers hb.off hb.len v hrow frm no _ _ ((b1.kept k2 (fun h => h)).cell_is (i := 0) rfl) (b2.cell_is (i := 0) rfl)
  have HIX := Lib.hid hix
  have HBEL := Lib.hid ((k1.trans k2).below (B := w.heap.size) (Nat.le_refl _) (fun _ h => h.elim))
  clear b1 b2 k1 k2 hrow hix h hb
  rw [hsz] at HIX
  have HSZ := Lib.hid hsz
  clear hsz
  go_enter Tryd.func33, Tryd.ntmps33
  go_upto_region 1 with (fail)
  generalize (w.alloc (.cells #[.int .i64 frm] 3)).alloc (.cells #[.int .i64 no] 3) = W at c2 HIX HBEL ⊢
  go_wp2_with fail
  refine HIX.out.mono ?_
  rintro _ w3 ⟨rfl, hb3⟩
  have HB3 := Lib.hid (HBEL.out.trans (hb3.mono HBEL.out.size))
  clear hb3
  go_wp2
  go_ret
  exact ⟨rfl, HB3.out⟩

end Go.Proofs.YtnddejgglbdkmaaDoor
