/- The walks of find with its closure, of slices.IndexFunc. -/
import Derived.Test.YtcekammjpghjnaaDoorWs
import Derived.Test.YtcekammjpghjnaaDoorUBook7
namespace Go.Proofs.YtcekammjpghjnaaDoor
set_option linter.unusedVariables false
set_option linter.unusedSimpArgs false
open Go.ChangeShapes Go.WideShapes Go.ChangeAt Go.RowKit Go.Maps

theorem off_cell (o : Off) : o.cells[0]? = some (.int .i64 o.no) ∧ o.cells[1]? = some (.int .i64 o.frm) := ⟨rfl, rfl⟩
set_option maxRecDepth 100000 in
set_option maxHeartbeats 1000000 in
theorem pick_is (w : World) (o : Off) (frm no : Int) (B1 B2 : Nat) (h1 : w.cell? ⟨B1, 0, none⟩ = some (.int .i64 frm)) (h2 : w.cell? ⟨B2, 0, none⟩ = some (.int .i64 no)) :
   Calls Tryd.prog 56 #[.agg o.cells.toArray, .pointer (some ⟨B1, 0, none⟩), .pointer (some ⟨B2, 0, none⟩)] w fun e w' => e = .returned (.bool (decide (o.frm = frm ∧ o.no = no))) ∧ Below w.heap.size w w' := by
 have hbox := Has.new w 42 o.cells.toArray
 have d0 : (w.alloc (.cells o.cells.toArray 42)).cell? ⟨w.heap.size, 0, none⟩ = some (.int .i64 o.no) := hbox.cell_is (by simpa using (off_cell o).1)
 have d1 : (w.alloc (.cells o.cells.toArray 42)).cell? ⟨w.heap.size, 1, none⟩ = some (.int .i64 o.frm) := hbox.cell_is (by simpa using (off_cell o).2)
 have d2 : (w.alloc (.cells o.cells.toArray 42)).cell? ⟨B1, 0, none⟩ = some (.int .i64 frm) := by rw [World.cell?_alloc_lt w _ _ (World.block_lt_of_cell? w _ h1)]; exact h1
 have d3 : (w.alloc (.cells o.cells.toArray 42)).cell? ⟨B2, 0, none⟩ = some (.int .i64 no) := by rw [World.cell?_alloc_lt w _ _ (World.block_lt_of_cell? w _ h2)]; exact h2
 have HBEL := Lib.hid ((Below.refl w.heap.size w).alloc (Nat.le_refl _) (.cells o.cells.toArray 42))
 obtain ⟨n1, hn1⟩ : ∃ n, n = o.no := ⟨_, rfl⟩
 obtain ⟨f1, hf1⟩ : ∃ n, n = o.frm := ⟨_, rfl⟩
 obtain ⟨L, hL⟩ : ∃ A, A = o.cells := ⟨_, rfl⟩
 rw [← hn1] at d0
 rw [← hf1] at d1
 rw [← hL] at d0 d1 d2 d3 HBEL ⊢
 rw [← hn1, ← hf1]
 clear hbox h1 h2 hn1 hf1 hL
 by_cases e1 : f1 = frm
 · subst e1
   by_cases e2 : n1 = no
   · subst e2
     go_enter Tryd.func56, Tryd.ntmps56
     go_upto_region 1 with (fail)
     generalize w.alloc (.cells L.toArray 42) = W at d0 d1 d2 d3 HBEL ⊢
     go_wp2
     go_ret
     exact ⟨by simp, HBEL.out⟩
   · go_enter Tryd.func56, Tryd.ntmps56
     go_upto_region 1 with (fail)
     generalize w.alloc (.cells L.toArray 42) = W at d0 d1 d2 d3 HBEL ⊢
     go_wp2
     go_ret
     exact ⟨by simp [e2], HBEL.out⟩
 · go_enter Tryd.func56, Tryd.ntmps56
   go_upto_region 1 with (fail)
   generalize w.alloc (.cells L.toArray 42) = W at d0 d1 d2 d3 HBEL ⊢
   go_wp2
   go_ret
   exact ⟨by simp [e1], HBEL.out⟩

def findI : List Off → Int → Int → Int
 | [], _, _ => -1
 | o :: os, f, n => if o.frm = f ∧ o.no = n then 0 else if findI os f n < 0 then -1 else findI os f n + 1
theorem findI_none (os : List Off) (f n : Int) (h : ∀ o ∈ os, ¬ (o.frm = f ∧ o.no = n)) : findI os f n = -1 := by
 induction os with
 | nil => rfl
 | cons o os ih =>
  rw [findI, if_neg (h o List.mem_cons_self), ih (fun p hp => h p (List.mem_cons_of_mem _ hp))]
  rfl
theorem findI_at (os : List Off) (f n : Int) (k : Nat) (o : Off) (hk : os[k]? = some o) (ho : o.frm = f ∧ o.no = n) (h : ∀ j p, j < k → os[j]? = some p → ¬ (p.frm = f ∧ p.no = n)) : findI os f n = k := by
 induction os generalizing k with
 | nil => simp at hk
 | cons q os ih =>
  cases k with
  | zero =>
   simp at hk; subst hk
   rw [findI, if_pos ho]; rfl
  | succ k =>
   rw [List.getElem?_cons_succ] at hk
   have := ih k hk (fun j p hj hp => h (j + 1) p (by omega) (by rw [List.getElem?_cons_succ]; exact hp))
   rw [findI, if_neg (h 0 q (by omega) rfl), this, if_neg (by omega)]
   omega

set_option maxRecDepth 100000 in
set_option maxHeartbeats 1000000 in
theorem index_is (w : World) (os : List Off) (hok : ∀ o ∈ os, o.ok) (hn : os.length ≤ 1000) (v : Value) (hv : w.ownsRow 0 42 68 v os.length (os.flatMap Off.cells)) (frm no : Int) (B1 B2 : Nat) (h1 : w.cell? ⟨B1, 0, none⟩ = some (.int .i64 frm)) (h2 : w.cell? ⟨B2, 0, none⟩ = some (.int .i64 no)) :
  Calls Tryd.prog 55 #[v, .func (.func 56) #[] #[.pointer (some ⟨B1, 0, none⟩), .pointer (some ⟨B2, 0, none⟩)]] w fun e w' => e = .returned (.int .i64 (findI os frm no)) ∧ Below w.heap.size w w' := by
 obtain ⟨va, vc, rfl⟩ : ∃ va vc, v = .slice va os.length vc := by
  rcases hv.2 with ⟨rfl, e⟩ | ⟨g', cap, cur, rfl, _⟩
  · exact ⟨none, 0, by rw [e]⟩
  · exact ⟨_, _, rfl⟩
 have HV := Lib.hid hv
 have HNN := Lib.hid hn
 have H1 := Lib.hid h1
 have H2 := Lib.hid h2
 obtain ⟨n9, hn9⟩ : ∃ n, n = os.length := ⟨_, rfl⟩
 have HN9 := Lib.hid hn9
 rw [← hn9] at hn ⊢
 clear hv h1 h2 hn9
 go_enter Tryd.func55, Tryd.ntmps55
 go_wp2
 go_loopw [8] (fun i wr => ∃ k : Nat, k ≤ n9 ∧ i = .int .i64 k ∧ Below w.heap.size w wr ∧ ∀ j p, j < k → os[j]? = some p → ¬ (p.frm = frm ∧ p.no = no)) (fun i _ => n9 - (intOf i).toNat)
 case atStart => exact ⟨0, by omega, rfl, Below.refl _ _, fun j p hj => absurd hj (by omega)⟩
 case round =>
  obtain ⟨k, hk, rfl, hbel, hno⟩ := hrel
  have HB := Lib.hid hbel
  have HNO := Lib.hid hno
  clear hbel hno
  by_cases hlt : k < n9
  · have hlt2 : k < os.length := by rw [← HN9.out]; exact hlt
    obtain ⟨o, ho⟩ : ∃ o, os[k]? = some o := ⟨_, List.getElem?_eq_getElem hlt2⟩
    have HO := Lib.hid ho
    have HOK := Lib.hid (hok o (List.mem_of_getElem? ho))
    obtain ⟨go_, cap, hvv, hBg, hgo, hrng⟩ := off_range HV.out hok ho
    injection hvv with hv1 hv2 hv3
    subst hv1 hv3
    have HRW := Lib.hid (rangeAt_kept hrng (Kept.of_below (S := fun _ => False) HB.out) (fun h => h))
    have hlen := Off.length o HOK.out
    have sz33 : (Tryd.prog.info? 42).map (·.size) = some o.cells.length := by rw [hlen]; kernel_rfl
    have SZ33 := Lib.hid sz33
    have HPK := Lib.hid (fun (W : World) (hW : Below w.heap.size w W) => pick_is W o frm no B1 B2 ((hW.cell (p := ⟨B1, 0, none⟩) (World.block_lt_of_cell? w _ H1.out)).trans H1.out) ((hW.cell (p := ⟨B2, 0, none⟩) (World.block_lt_of_cell? w _ H2.out)).trans H2.out))
    clear hrng ho sz33 hlen hv2
    have hkb : k < 1000 := by omega
    go_wp2_with (refine wpList_load_mid rfl 42 (.tmp 14) rfl go_ (k * 68) rfl o.cells _ (by rw [Nat.mul_comm]; exact HRW.out) Tryd.underlying42 rfl SZ33.out ?_)
    refine (HPK.out wr HB.out).mono ?_
    rintro _ w3 ⟨rfl, hb3⟩
    have HB3 := Lib.hid (HB.out.trans (hb3.mono HB.out.size))
    clear hb3
    by_cases hc : o.frm = frm ∧ o.no = no
    · rw [decide_eq_true hc]
      have hfi := findI_at os frm no k o HO.out hc HNO.out
      have HF := Lib.hid hfi
      clear hc hfi
      go_wp2
      go_ret
      exact ⟨by rw [HF.out]; rfl, HB3.out⟩
    · rw [decide_eq_false hc]
      have HC := Lib.hid hc
      clear hc
      go_wp2
      go_roundw
      case rel =>
       refine ⟨k + 1, by omega, by go_num, HB3.out, fun j p hj hp => ?_⟩
       by_cases hjk : j = k
       · subst hjk
         rw [HO.out] at hp
         exact Option.some.inj hp ▸ HC.out
       · exact HNO.out j p (by omega) hp
      case measure => simp [intOf]; omega
  · have hfi : findI os frm no = -1 := findI_none os frm no (fun o ho => by
      obtain ⟨j, hj⟩ := List.getElem?_of_mem ho
      have hjl := (List.getElem?_eq_some_iff.1 hj).1
      have := HN9.out
      exact HNO.out j o (by omega) hj)
    have HF := Lib.hid hfi
    clear hfi
    go_wp2
    go_ret
    exact ⟨by rw [HF.out]; rfl, HB.out⟩

set_option maxRecDepth 100000 in
set_option maxHeartbeats 1000000 in
theorem find_is (w : World) (g m0 m1 : Nat) (v : Value) (b : Bk) (frm no : Int) (h : BookAt w g m0 m1 v b) (hb : b.ok) :
  Calls Tryd.prog 35 #[.pointer (some ⟨g, 0, none⟩), .int .i64 frm, .int .i64 no] w fun e w' => e = .returned (.int .i64 (findI b.offers frm no)) ∧ Below w.heap.size w w' := by
 have hmf : ∀ (fn : Fn) (first cap : Array Value) (w : World), (Instr.makeFunc fn first cap).run Tryd.prog w = .ok (.func fn first cap) w := fun _ _ _ _ => rfl
 have b1 := Has.new w 3 #[.int .i64 frm]
 have k1 := (Kept.refl (fun _ => False) w).alloc (.cells #[.int .i64 frm] 3)
 have b2 := Has.new (w.alloc (.cells #[.int .i64 frm] 3)) 3 #[.int .i64 no]
 have k2 := (Kept.refl (fun _ => False) (w.alloc (.cells #[.int .i64 frm] 3))).alloc (.cells #[.int .i64 no] 3)
 have hsz : (w.alloc (.cells #[.int .i64 frm] 3)).heap.size = w.heap.size + 1 := by simp
 have c2 : ((w.alloc (.cells #[.int .i64 frm] 3)).alloc (.cells #[.int .i64 no] 3)).cell? ⟨g, 2, none⟩ = some v := ((h.kept k1 (fun _ _ h => h)).kept k2 (fun _ _ h => h)).obj.cell_is (i := 2) rfl
 have hrow := ((h.kept k1 (fun _ _ h => h)).kept k2 (fun _ _ h => h)).row
 have hix := index_is _ b.offers hb.off hb.len v hrow frm no _ _ ((b1.kept k2 (fun h => h)).cell_is (i := 0) rfl) (b2.cell_is (i := 0) rfl)
 have HIX := Lib.hid hix
 have HBEL := Lib.hid ((k1.trans k2).below (B := w.heap.size) (Nat.le_refl _) (fun _ h => h.elim))
 clear b1 b2 k1 k2 hrow hix h hb
 rw [hsz] at HIX
 have HSZ := Lib.hid hsz
 clear hsz
 go_enter Tryd.func35, Tryd.ntmps35
 go_upto_region 1 with (fail)
 generalize (w.alloc (.cells #[.int .i64 frm] 3)).alloc (.cells #[.int .i64 no] 3) = W at c2 HIX HBEL ⊢
 go_wp2_with fail
 refine HIX.out.mono ?_
 rintro _ w3 ⟨rfl, hb3⟩
 have HB3 := Lib.hid (HBEL.out.trans (hb3.mono HBEL.out.size))
 clear hb3
 go_wp2
 go_ret
 exact ⟨rfl, HB3.out⟩

end Go.Proofs.YtcekammjpghjnaaDoor
/- The walk of Offer: what it refuses by its arguments. -/
namespace Go.Proofs.YtcekammjpghjnaaDoor
set_option linter.unusedVariables false
set_option linter.unusedSimpArgs false
open Go.ChangeShapes Go.WideShapes Go.ChangeAt Go.RowKit Go.Maps

def Off.fair (o : Off) : Prop := isSide o.frm ∧ 0 ≤ o.no ∧ 0 < o.am ∧ 0 ≤ o.til ∧ o.til ≤ 1073741824
instance (o : Off) : Decidable o.fair := inferInstanceAs (Decidable (_ ∧ _ ∧ _ ∧ _ ∧ _))
theorem off_cells (o : Off) (h : o.ok) : o.cells[0]? = some (.int .i64 o.no) ∧ o.cells[1]? = some (.int .i64 o.frm) ∧ o.cells[34]? = some (.int .u64 (o.am : Int)) ∧ o.cells[67]? = some (.int .i64 o.til) := by
 refine ⟨rfl, rfl, ?_, ?_⟩
 · rw [Off.cells, List.getElem?_append_right (by simp), List.getElem?_append_right (by simp [bcells_length, h.1.1])]
   simp [bcells_length, h.1.1]
 · rw [Off.cells, List.getElem?_append_right (by simp), List.getElem?_append_right (by simp [bcells_length, h.1.1])]
   simp [bcells_length, h.1.1, h.2.1.1]
theorem off_id {w : World} {G : Nat} {t : TypeId} {o : Off} (h : Has w G t o.cells.toArray) : w.rangeAt G 2 (bcells o.id) := fun j u hu => by
 have hj := (List.getElem?_eq_some_iff.1 hu).1
 refine h.cell_is ?_
 rw [List.getElem?_toArray, Off.cells, List.getElem?_append_right (by simp), List.getElem?_append_left (by simp; omega)]
 simpa using hu
theorem off_has {w : World} {G : Nat} {t : TypeId} {o : Off} (h : Has w G t o.cells.toArray) (ho : o.ok) :
  w.cell? ⟨G, 0, none⟩ = some (.int .i64 o.no) ∧ w.cell? ⟨G, 1, none⟩ = some (.int .i64 o.frm) ∧ w.cell? ⟨G, 34, none⟩ = some (.int .u64 (o.am : Int)) ∧ w.cell? ⟨G, 67, none⟩ = some (.int .i64 o.til) := by
 obtain ⟨a, b, c, d⟩ := off_cells o ho
 exact ⟨h.cell_is (by simpa using a), h.cell_is (by simpa using b), h.cell_is (by simpa using c), h.cell_is (by simpa using d)⟩

set_option maxRecDepth 100000 in
set_option maxHeartbeats 2000000 in
theorem offer_arg (w : World) (g : Nat) (o : Off) (ho : o.ok) (h : ¬ o.fair) :
   Calls Tryd.prog 11 #[.pointer (some ⟨g, 0, none⟩), .agg o.cells.toArray] w fun e w' => e = .returned (.int .i64 1) ∧ Below w.heap.size w w' := by
 have hbox := Has.new w 42 o.cells.toArray
 obtain ⟨d0, d1, d2, d3⟩ := off_has hbox ho
 have HBEL := Lib.hid ((Below.refl w.heap.size w).alloc (Nat.le_refl _) (.cells o.cells.toArray 42))
 have hfair : isSide o.frm → 0 ≤ o.no → 0 < o.am → 0 ≤ o.til → o.til ≤ 1073741824 → False := fun a b c d e => h ⟨a, b, c, d, e⟩
 have hy := fun w => side_yes w o.frm
 have hn := fun w => side_no w o.frm
 obtain ⟨no, hno⟩ : ∃ n, n = o.no := ⟨_, rfl⟩
 obtain ⟨frm, hfrm⟩ : ∃ n, n = o.frm := ⟨_, rfl⟩
 obtain ⟨am, ham⟩ : ∃ n, n = o.am := ⟨_, rfl⟩
 obtain ⟨til, htil⟩ : ∃ n, n = o.til := ⟨_, rfl⟩
 rw [← hno, ← hfrm, ← ham, ← htil] at hfair
 rw [← hno] at d0
 rw [← hfrm] at d1 hy hn
 rw [← ham] at d2
 rw [← htil] at d3
 obtain ⟨L, hL⟩ : ∃ A, A = o.cells := ⟨_, rfl⟩
 rw [← hL] at d0 d1 d2 d3 HBEL ⊢
 clear hbox hno hfrm ham htil hL h ho
 have HFAIR := Lib.hid hfair
 clear hfair
 by_cases hs : isSide frm
 · have HS := Lib.hid (fun w => hy w hs)
   by_cases h1 : 0 ≤ no
   · by_cases h2 : 0 < am
     · by_cases h3 : 0 ≤ til
       · have h4 : 1073741824 < til := Int.not_le.1 (fun e => HFAIR.out hs h1 h2 h3 e)
         clear hs hy hn HFAIR
         go_enter Tryd.func11, Tryd.ntmps11
         go_upto_region 1 with (fail)
         generalize w.alloc (.cells L.toArray 42) = W at d0 d1 d2 d3 HBEL ⊢
         go_wp2_with fail
         refine (HS.out W).mono ?_
         rintro _ W8 ⟨rfl, e8⟩
         have e9 := e8.symm
         subst e9
         go_wp2
         go_ret
         exact ⟨rfl, HBEL.out⟩
       · clear hs hy hn HFAIR
         go_enter Tryd.func11, Tryd.ntmps11
         go_upto_region 1 with (fail)
         generalize w.alloc (.cells L.toArray 42) = W at d0 d1 d2 d3 HBEL ⊢
         go_wp2_with fail
         refine (HS.out W).mono ?_
         rintro _ W8 ⟨rfl, e8⟩
         have e9 := e8.symm
         subst e9
         go_wp2
         go_ret
         exact ⟨rfl, HBEL.out⟩
     · have h2 : am = 0 := by omega
       subst h2
       clear hs hy hn HFAIR
       go_enter Tryd.func11, Tryd.ntmps11
       go_upto_region 1 with (fail)
       generalize w.alloc (.cells L.toArray 42) = W at d0 d1 d2 d3 HBEL ⊢
       go_wp2_with fail
       refine (HS.out W).mono ?_
       rintro _ W8 ⟨rfl, e8⟩
       have e9 := e8.symm
       subst e9
       go_wp2
       go_ret
       exact ⟨rfl, HBEL.out⟩
   · clear hs hy hn HFAIR
     go_enter Tryd.func11, Tryd.ntmps11
     go_upto_region 1 with (fail)
     generalize w.alloc (.cells L.toArray 42) = W at d0 d1 d2 d3 HBEL ⊢
     go_wp2_with fail
     refine (HS.out W).mono ?_
     rintro _ W8 ⟨rfl, e8⟩
     have e9 := e8.symm
     subst e9
     go_wp2
     go_ret
     exact ⟨rfl, HBEL.out⟩
 · have HS := Lib.hid (fun w => hn w hs)
   clear hs hy hn HFAIR
   go_enter Tryd.func11, Tryd.ntmps11
   go_upto_region 1 with (fail)
   generalize w.alloc (.cells L.toArray 42) = W at d0 d1 d2 d3 HBEL ⊢
   go_wp2_with fail
   refine (HS.out W).mono ?_
   rintro _ W8 ⟨rfl, e8⟩
   have e9 := e8.symm
   subst e9
   go_wp2
   go_ret
   exact ⟨rfl, HBEL.out⟩
end Go.Proofs.YtcekammjpghjnaaDoor
