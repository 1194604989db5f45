/- The walk of (*book.Book).all. -/
import Derived.Test.YtcekammjpghjnaaDoorWs
import Derived.Test.YtcekammjpghjnaaDoorUBook3
import Derived.Test.YtcekammjpghjnaaDoorUMem
import Derived.Deep.CutBlock
import Derived.Deep.WholeRow
namespace Go.Proofs.YtcekammjpghjnaaDoor
set_option linter.unusedVariables false
set_option linter.unusedSimpArgs false
open Go.ChangeShapes Go.WideShapes Go.ChangeAt Go.RowKit Go.Maps

theorem info_u64 : (Tryd.prog.info? 22).map (fun i => (i.zero, i.size, i.bytes)) = some (some (.int .u64 0), 1, 8) := by kernel_rfl
theorem zero_u64 (w : World) : (zeroValue 22).run Tryd.prog w = .ok (.int .u64 0) w := by kernel_rfl
def numOf : Option Value → Nat
 | some (.int _ n) => n.toNat
 | _ => 0
def Nums (l : List Ent) : Prop := ∀ p ∈ l, ∃ n : Nat, p.2 = .int .u64 (n : Int) ∧ n < 18446744073709551616
theorem look_num {l : List Ent} (h : Nums l) (k : List Nat) : (look l k).getD (.int .u64 0) = .int .u64 (numOf (look l k) : Int) := by
 induction l with
 | nil => rfl
 | cons p l ih =>
  unfold look
  by_cases hk : p.1 = k
  · rw [if_pos hk]
    obtain ⟨n, hn, _⟩ := h p List.mem_cons_self
    rw [hn]; simp [numOf]
  · rw [if_neg hk]; exact ih (fun q hq => h q (List.mem_cons_of_mem _ hq))
theorem look_low {l : List Ent} (h : Nums l) (k : List Nat) : numOf (look l k) < 18446744073709551616 := by
 induction l with
 | nil => exact (by decide : (0 : Nat) < 18446744073709551616)
 | cons p l ih =>
  unfold look
  by_cases hk : p.1 = k
  · rw [if_pos hk]
    obtain ⟨n, hn, hl⟩ := h p List.mem_cons_self
    rw [hn]; simpa [numOf] using hl
  · rw [if_neg hk]; exact ih (fun q hq => h q (List.mem_cons_of_mem _ hq))
def amounts (b : Bk) (id : List Nat) : List Nat := [numOf (look b.l0 id), numOf (look b.l1 id)] ++ (b.offers.filter fun o => o.id = id).map (·.am)
def amtTo (x0 x1 : Nat) (os : List Off) (id : List Nat) (k : Nat) : List Nat := [x0, x1] ++ ((os.take k).filter fun o => o.id = id).map (·.am)
theorem amtTo_step (x0 x1 : Nat) (os : List Off) (id : List Nat) (k : Nat) (o : Off) (h : os[k]? = some o) : amtTo x0 x1 os id (k + 1) = if o.id = id then amtTo x0 x1 os id k ++ [o.am] else amtTo x0 x1 os id k := by
 unfold amtTo
 rw [List.take_add_one, h, List.filter_append, List.map_append]
 by_cases hi : o.id = id
 · simp [hi]
 · simp [hi]
theorem amtTo_len (x0 x1 : Nat) (os : List Off) (id : List Nat) (k : Nat) : (amtTo x0 x1 os id k).length ≤ k + 2 := by
 unfold amtTo
 rw [List.length_append, List.length_map]
 have h1 := List.length_filter_le (fun o : Off => decide (o.id = id)) (os.take k)
 have h2 : (os.take k).length ≤ k := by rw [List.length_take]; omega
 simp only [List.length_cons, List.length_nil]
 omega
theorem off_one (o : Off) : ∀ v ∈ o.cells, v.oneCell' = true := by
 intro v hv
 simp only [Off.cells, List.mem_append, List.mem_cons, List.not_mem_nil, or_false] at hv
 rcases hv with (rfl | rfl) | hv | rfl | hv | rfl
 · rfl
 · rfl
 · exact bcells_oneC _ v hv
 · rfl
 · exact bcells_oneC _ v hv
 · rfl
theorem zero_off : ∃ Z : Array Value, (∀ w, (zeroValue 42).run Tryd.prog w = .ok (.agg Z) w) ∧ Z.size = 68 ∧ ¬ Z = #[] :=
 ⟨(Off.cells ⟨0, 0, List.replicate 32 0, 0, List.replicate 32 0, 0⟩).toArray, fun w => by kernel_rfl, by kernel_rfl, fun e => by have := congrArg Array.size e; revert this; decide⟩
def ucellB (xs : List Nat) : List Value := xs.map fun (n : Nat) => Value.int .u64 (n : Int)

set_option maxRecDepth 100000 in
set_option maxHeartbeats 2000000 in
theorem all_is (w : World) (B g m0 m1 : Nat) (b : Bk) (id : List Nat) (h : BookIs w B g m0 m1 b) (h0 : Nums b.l0) (h1 : Nums b.l1) (hok : ∀ o ∈ b.offers, o.ok) (hid : IsHash id) (hn : b.offers.length ≤ 1000) :
  Calls Tryd.prog 30 #[.pointer (some ⟨g, 0, none⟩), arr id] w fun e w' => e = .returned (totalV (amounts b id)) ∧ Below w.heap.size w w' := by
 obtain ⟨i0, hi, hz0, hz1, hz2⟩ := info_parts info_u64
 obtain ⟨v, hg, hown⟩ := h.obj
 obtain ⟨va, vc, rfl⟩ : ∃ va vc, v = .slice va b.offers.length vc := by
  rcases hown.2 with ⟨rfl, e⟩ | ⟨g', cap, cur, rfl, _⟩
  · exact ⟨none, 0, by rw [e]⟩
  · exact ⟨_, _, rfl⟩
 have c0 : w.cell? ⟨g, 0, none⟩ = some (.map (some m0)) := hg.cell_is rfl
 have c1 : w.cell? ⟨g, 1, none⟩ = some (.map (some m1)) := hg.cell_is rfl
 have c2 : w.cell? ⟨g, 2, none⟩ = some (.slice va b.offers.length vc) := hg.cell_is rfl
 have HM0 := Lib.hid h.map0
 have HM1 := Lib.hid h.map1
 have HG := Lib.hid hg
 have HID := Lib.hid hid
 have szk : (Tryd.prog.info? 39).map (·.size) = some (bcells id).toArray.size := by rw [List.size_toArray, bcells_length, hid.1]; kernel_rfl
 have hgl := hg.lt
 have q0 := lookup_is (T := 68) Tryd.underlying68 zero_u64 ((h.map0.kept ((Kept.refl (fun _ => False) w).alloc (.cells (bcells id).toArray 39)) (fun h => h)).drew) hid
 have q1 := lookup_is (T := 68) Tryd.underlying68 zero_u64 ((h.map1.kept ((Kept.refl (fun _ => False) w).alloc (.cells (bcells id).toArray 39)) (fun h => h)).drew) hid
 rw [look_num h0] at q0
 rw [look_num h1] at q1
 unfold arr at q0 q1 ⊢
 have HOWN := Lib.hid hown
 have SZK := Lib.hid szk
 clear hg hid h szk hown
 go_enter Tryd.func30, Tryd.ntmps30
 go_upto_region 1 with (fail)
 have hbox := Has.new w 39 (bcells id).toArray
 have HBOX := Lib.hid hbox
 have d0 : (w.alloc (.cells (bcells id).toArray 39)).cell? ⟨g, 0, none⟩ = some (.map (some m0)) := by rw [World.cell?_alloc_lt w _ _ hgl]; exact c0
 have d1 : (w.alloc (.cells (bcells id).toArray 39)).cell? ⟨g, 1, none⟩ = some (.map (some m1)) := by rw [World.cell?_alloc_lt w _ _ hgl]; exact c1
 have d2 : (w.alloc (.cells (bcells id).toArray 39)).cell? ⟨g, 2, none⟩ = some (.slice va b.offers.length vc) := by rw [World.cell?_alloc_lt w _ _ hgl]; exact c2
 have hkw : Kept (fun _ => False) w (w.alloc (.cells (bcells id).toArray 39)) := (Kept.refl _ _).alloc _
 have HKw := Lib.hid hkw
 clear hbox c0 c1 c2 hkw
 generalize w.alloc (.cells (bcells id).toArray 39) = W at d0 d1 d2 HBOX HKw q0 q1 ⊢
 obtain ⟨IA, hIA⟩ : ∃ A, A = (bcells id).toArray := ⟨_, rfl⟩
 rw [← hIA] at HBOX q0 q1 SZK ⊢
 have HIA := Lib.hid hIA
 clear hIA
 refine wp_region_still_tail 14 (by kernel_rfl) (by kernel_rfl) ?_
 simp only [List.take_succ_cons, List.take_zero, List.drop_succ_cons, List.drop_zero]
 still_step
 still_step
 still_step
 still_step
 still_step
 refine still_load_row rfl 39 (.tmp 3) rfl w.heap.size rfl 39 IA (0, 0) _ (show Has W.drew w.heap.size 39 IA from HBOX.out.drew) Tryd.underlying39 rfl SZK.out ?_
 still_step
 still_step
 still_step
 still_step
 still_step
 still_step
 refine still_load_row rfl 39 (.tmp 3) rfl w.heap.size rfl 39 IA (0, 0) _ (show Has W.drew w.heap.size 39 IA from HBOX.out.drew) Tryd.underlying39 rfl SZK.out ?_
 still_step
 refine wpStill_nil ?_
 change wpList _ _ _ _ _ W.drew
 have hgW := World.block_lt_of_cell? W _ d2
 have d2a : ∀ o, (W.alloc o).cell? ⟨g, 2, none⟩ = some (.slice va b.offers.length vc) := fun o => by rw [World.cell?_alloc_lt W _ _ hgW]; exact d2
 go_wp2_with fail
 obtain ⟨x0, hx0⟩ : ∃ x, x = numOf (look b.l0 id) := ⟨_, rfl⟩
 obtain ⟨x1, hx1⟩ : ∃ x, x = numOf (look b.l1 id) := ⟨_, rfl⟩
 rw [← hx0, ← hx1]
 have hnew := Has.new W 22 #[.int .u64 (x0 : Int), .int .u64 (x1 : Int)]
 have hkW : Kept (fun _ => False) W (W.alloc (.cells #[.int .u64 (x0 : Int), .int .u64 (x1 : Int)] 22)).drew := ((Kept.refl _ _).alloc _).drew
 have hrow : (W.alloc (.cells #[.int .u64 (x0 : Int), .int .u64 (x1 : Int)] 22)).drew.ownsRow W.heap.size 22 1 (.slice (some ⟨W.heap.size, 0, none⟩) 2 2) 2 (ucellB [x0, x1]) := by
  refine ⟨rfl, .inr ⟨W.heap.size, 2, #[.int .u64 (x0 : Int), .int .u64 (x1 : Int)], rfl, Nat.le_refl _, hnew, by decide, by decide, rfl, rfl⟩⟩
 have HX0 := Lib.hid hx0
 have HX1 := Lib.hid hx1
 have HKW := Lib.hid hkW
 have HROW := Lib.hid hrow
 have HNN := Lib.hid hn
 clear hnew hkW hrow hx0 hx1 q0 q1 d0 d1 d2 d2a hgl hgW hn
 generalize (W.alloc (.cells #[.int .u64 (x0 : Int), .int .u64 (x1 : Int)] 22)).drew = W2 at HKW HROW ⊢
 go_loopw [29, 6] (fun i lv wr => ∃ k : Nat, k ≤ b.offers.length ∧ i = .int .i64 k ∧ (∃ lg lc, lv = .slice (some ⟨lg, 0, none⟩) (amtTo x0 x1 b.offers id k).length lc) ∧ wr.ownsRow W.heap.size 22 1 lv (amtTo x0 x1 b.offers id k).length (ucellB (amtTo x0 x1 b.offers id k)) ∧ Kept (fun k => W.heap.size ≤ k) W wr) (fun i _ _ => b.offers.length - (intOf i).toNat)
 case atStart => exact ⟨0, by omega, rfl, ⟨_, _, rfl⟩, HROW.out, HKW.out.mono (fun _ _ h => h.elim)⟩
 case round =>
  obtain ⟨k, hk, rfl, ⟨lg, lc, rfl⟩, hrow, hkr⟩ := hrel
  have HR := Lib.hid hrow
  have HKR := Lib.hid hkr
  clear hrow hkr HROW HKW
  by_cases hlt : k < b.offers.length
  · have hkb : k < 1000 := by have := HNN.out; omega
    obtain ⟨o, ho⟩ : ∃ o, b.offers[k]? = some o := ⟨_, List.getElem?_eq_getElem hlt⟩
    obtain ⟨go_, cap, hv, hBg, hgo, hrng⟩ := off_range HOWN.out hok ho
    injection hv with hv1 hv2 hv3
    subst hv1 hv3
    have hom := hok o (List.mem_of_getElem? ho)
    have hlen := Off.length o hom
    have hrw := rangeAt_kept (rangeAt_kept hrng HKw.out (fun h => h)) HKR.out (by have := HKw.out.size; omega)
    have HRW := Lib.hid hrw
    have HO := Lib.hid ho
    have HLEN := Lib.hid hlen
    clear hrw hrng ho hlen
    have sz33 : (Tryd.prog.info? 42).map (·.size) = some o.cells.length := by rw [HLEN.out]; kernel_rfl
    have SZ33 := Lib.hid sz33
    clear sz33
    obtain ⟨Z, hz, hzs, hzn⟩ := zero_off
    have hs33 : (Tryd.prog.info? 42).map (·.size) = some o.cells.toArray.size := by rw [List.size_toArray]; exact SZ33.out
    have hzz : Z.size = o.cells.toArray.size := by rw [hzs, List.size_toArray, HLEN.out]
    have hone : o.cells.toArray.all (·.oneCell') = true := all_oneCell_toArray (off_one o)
    have HS33 := Lib.hid hs33
    have HZZ := Lib.hid hzz
    have HONE := Lib.hid hone
    clear hs33 hzz hone
    have hnw : ∀ C, Has ((wr.alloc (.cells Z 42)).setRow wr.heap.size C) wr.heap.size 42 C ∧ Kept (fun _ => False) wr ((wr.alloc (.cells Z 42)).setRow wr.heap.size C) := fun C => by
      rw [World.setRow_alloc_new]
      exact ⟨Has.new wr _ _, (Kept.refl _ _).alloc _⟩
    have HNW := Lib.hid hnw
    clear hnw
    go_upto_region 5 with (first
      | (refine wpList_load_mid rfl 42 (.tmp 31) rfl go_ (k * 68) rfl o.cells _ (by rw [Nat.mul_comm]; exact HRW.out) Tryd.underlying42 rfl SZ33.out ?_)
      | (refine wpList_store_row rfl 42 (.tmp 8) (.tmp 32) rfl wr.heap.size o.cells.toArray rfl rfl 42 Z (heap_alloc_new wr _) HS33.out HZZ.out HONE.out ?_))
    obtain ⟨h3, hk3⟩ := HNW.out o.cells.toArray
    generalize (wr.alloc (.cells Z 42)).setRow wr.heap.size o.cells.toArray = w3 at h3 hk3 ⊢
    generalize wr.heap.size = G at h3 ⊢
    have hid3 : w3.rangeAt G 2 (bcells o.id) := fun j u hu => by
      have hj := (List.getElem?_eq_some_iff.1 hu).1
      refine h3.cell_is ?_
      rw [List.getElem?_toArray, Off.cells, List.getElem?_append_right (by simp), List.getElem?_append_left (by simp; omega)]
      simpa using hu
    have ham3 : w3.cell? ⟨G, 34, none⟩ = some (.int .u64 (o.am : Int)) := h3.cell_is (by
      rw [List.getElem?_toArray, Off.cells, List.getElem?_append_right (by simp), List.getElem?_append_right (by simp [bcells_length, hom.1.1])]
      simp [bcells_length, hom.1.1])
    have hbx := ((HBOX.out.kept HKR.out (by have := HBOX.out.lt; omega)).kept hk3 (fun h => h))
    have heq := fun w => hash_eqIn o.id id hom.1 HID.out w
    unfold arr at heq
    rw [← HIA.out] at heq
    have HID3 := Lib.hid hid3
    have HBX := Lib.hid hbx
    have H3 := Lib.hid h3
    have HK3 := Lib.hid hk3
    have szo : (Tryd.prog.info? 39).map (·.size) = some (bcells o.id).length := by rw [bcells_length, hom.1.1]; kernel_rfl
    have SZO := Lib.hid szo
    clear hid3 hbx h3 hk3 szo
    by_cases hc : o.id = id
    · have hdec : decide (o.id = id) = true := decide_eq_true hc
      rw [hdec] at heq
      have HC := Lib.hid hc
      clear hc hdec
      go_wp2_with (first
        | (refine wpList_load_mid rfl 39 (.tmp 33) rfl G 2 rfl (bcells o.id) _ HID3.out Tryd.underlying39 rfl SZO.out ?_)
        | (refine wpList_load_row rfl 39 (.tmp 3) rfl w.heap.size rfl 39 IA (0, 0) _ HBX.out Tryd.underlying39 rfl SZK.out ?_)
        | (at_builtin; refine wpList_append_own _ rfl (.tmp 37) (.tmp 40) 79 rfl W.heap.size 22 i0 (.int .u64 0) 1 8 Tryd.underlying79 hi hz0 hz1 hz2 rfl (by decide) _ (amtTo x0 x1 b.offers id k).length (ucellB (amtTo x0 x1 b.offers id k)) rfl ((own_kept HR.out HK3.out (fun _ _ h => h)).alloc _) ⟨w3.heap.size, 0, none⟩ 1 1 [.int .u64 (o.am : Int)] rfl rfl (World.news_of_block (heap_alloc_new w3 _)) (by simp [Value.oneCell']) (by have := amtTo_len x0 x1 b.offers id k; have := HNN.out; unfold maxLen; omega) (by have := amtTo_len x0 x1 b.offers id k; have := HNN.out; omega) (by have h1 := HKR.out.size; have h2 := HK3.out.size; simp; omega) ?_; intro v' w4 hown4 hgr4 _))
      go_roundw
      case rel =>
        have hst := amtTo_step x0 x1 b.offers id k o HO.out
        rw [if_pos HC.out] at hst
        have hl2 : (amtTo x0 x1 b.offers id (k + 1)).length = (amtTo x0 x1 b.offers id k).length + 1 := by rw [hst]; simp
        have hu2 : ucellB (amtTo x0 x1 b.offers id (k + 1)) = ucellB (amtTo x0 x1 b.offers id k) ++ [.int .u64 (o.am : Int)] := by rw [hst]; simp [ucellB]
        obtain ⟨g', cap, cur, rfl, hr4⟩ := own_open hown4 (by omega)
        have hk4 : Kept (fun k => W.heap.size ≤ k) W w4 := by
          refine ((HKR.out.trans (HK3.out.mono (fun _ _ h => h.elim))).alloc _).grown hgr4 (fun j hj => .inl ?_)
          have hl3 : 0 < (amtTo x0 x1 b.offers id k).length := by unfold amtTo; simp
          obtain ⟨g3, cap3, cur3, hv3, hB3, _⟩ := own_open HR.out hl3
          rw [hv3] at hj
          injection hj with hj
          rw [← hj]; exact hB3
        refine ⟨k + 1, by omega, by go_num, ⟨g', cap, by rw [hl2]⟩, by rw [hl2, hu2]; exact hown4, hk4⟩
      case measure => simp [intOf]; omega
    · have hdec : decide (o.id = id) = false := decide_eq_false hc
      rw [hdec] at heq
      have HC := Lib.hid hc
      clear hc hdec
      go_wp2_with (first
        | (refine wpList_load_mid rfl 39 (.tmp 33) rfl G 2 rfl (bcells o.id) _ HID3.out Tryd.underlying39 rfl SZO.out ?_)
        | (refine wpList_load_row rfl 39 (.tmp 3) rfl w.heap.size rfl 39 IA (0, 0) _ HBX.out Tryd.underlying39 rfl SZK.out ?_))
      go_roundw
      case rel =>
        have hst := amtTo_step x0 x1 b.offers id k o HO.out
        rw [if_neg HC.out] at hst
        refine ⟨k + 1, by omega, by go_num, ⟨lg, lc, by rw [hst]⟩, by rw [hst]; exact own_kept HR.out HK3.out (fun _ _ h => h), HKR.out.trans (HK3.out.mono (fun _ _ h => h.elim))⟩
      case measure => simp [intOf]; omega
  · have hk9 : k = b.offers.length := by omega
    have hful : amtTo x0 x1 b.offers id k = amounts b id := by
      unfold amtTo amounts
      rw [hk9, List.take_length, HX0.out, HX1.out]
    have hlow : ∀ x ∈ amounts b id, x < 18446744073709551616 := by
      intro x hx
      unfold amounts at hx
      rcases List.mem_append.1 hx with hx | hx
      · simp only [List.mem_cons, List.not_mem_nil, or_false] at hx
        rcases hx with rfl | rfl
        · exact look_low h0 id
        · exact look_low h1 id
      · obtain ⟨o, ho, rfl⟩ := List.mem_map.1 hx
        exact (hok o (List.mem_filter.1 ho).1).2.2
    have HFUL := Lib.hid hful
    have HLOW := Lib.hid hlow
    clear hful hlow
    have HK9 := Lib.hid hk9
    have hlen9 : (amtTo x0 x1 b.offers id k).length ≤ 1000000 := by
      have h1 := amtTo_len x0 x1 b.offers id k
      have h2 := HNN.out
      omega
    obtain ⟨n9, hn9⟩ : ∃ n, n = (amtTo x0 x1 b.offers id k).length := ⟨_, rfl⟩
    have HN9 := Lib.hid hn9
    have hr9 := HR.out
    rw [← hn9] at hr9 hlen9 ⊢
    have hna : n9 = (amounts b id).length := by rw [hn9, HFUL.out]
    rw [HFUL.out] at hr9
    have HR9 := Lib.hid hr9
    have HNA := Lib.hid hna
    have hbel : Below w.heap.size w wr := by
      refine (HKw.out.step HKR.out (fun k hk => .inr ?_)).below (Nat.le_refl _) (fun _ h => h.elim)
      have := HKw.out.size
      omega
    have HBEL := Lib.hid hbel
    clear hr9 hn9 hk9 hna hbel
    go_wp2_with fail
    refine (total_is _ (some ⟨lg, 0, none⟩) n9 lc (amounts b id) HNA.out hlen9 HLOW.out ?_).mono ?_
    · intro hp
      refine ⟨lg, 0, rfl, fun i hi => ?_⟩
      obtain ⟨g', cap, cur, hv, hB', hh, _, _, _, h4⟩ := own_open HR9.out hp
      injection hv with hv1 _ _
      injection hv1 with hv1
      injection hv1 with hv1 _ _
      subst hv1
      refine hh.cell_is ?_
      rw [Nat.zero_add, h4 i (by omega)]
      unfold ucellB
      have hi2 : i < (amounts b id).length := by rw [← HNA.out]; exact hi
      simp [hi2]
    rintro _ _ ⟨rfl, rfl⟩
    by_cases hfit : (amounts b id).sum < 18446744073709551616
    · obtain ⟨tt, htt⟩ : ∃ t, t = (amounts b id).sum := ⟨_, rfl⟩
      have hfin : totalV (amounts b id) = .tuple #[.int .u64 (tt : Int), .int .i64 0] := by
        unfold totalV; rw [if_pos hfit, htt]
      rw [hfin]
      have HFIN := Lib.hid hfin
      clear hfin hfit htt
      go_wp2
      go_ret2
      exact ⟨by rw [HFIN.out]; rfl, HBEL.out⟩
    · have hfin : totalV (amounts b id) = .tuple #[.int .u64 0, .int .i64 10] := by
        unfold totalV; rw [if_neg hfit]
      rw [hfin]
      have HFIN := Lib.hid hfin
      clear hfin hfit
      go_wp2
      go_ret2
      exact ⟨by rw [HFIN.out]; rfl, HBEL.out⟩
end Go.Proofs.YtcekammjpghjnaaDoor

