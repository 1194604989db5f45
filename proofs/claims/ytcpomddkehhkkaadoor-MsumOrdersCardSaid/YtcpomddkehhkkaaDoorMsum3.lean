/- The walk of msum.Branch. -/
import Derived.Test.YtcpomddkehhkkaaDoorMsum2
import Derived.Test.YtcpomddkehhkkaaDoorStill
import Derived.Deep.CutBlock
namespace Go.Proofs.YtcpomddkehhkkaaDoor
set_option linter.unusedVariables false
set_option linter.unusedSimpArgs false
open Go.ChangeShapes Go.WideShapes Go.ChangeAt Go.RowKit

theorem results_cell_tmp {fn : Func} {p q : Tmp} {ty : TypeId} {fs : Array _} (h : fn.results = #[.cell p ty, .tmp q]) (tmps : Array Value) (w : World) (g : Nat) (t : TypeId) (cs : Array Value) (fr : Nat × Nat) (v : Value)
    (hp : tmps.getD p undef = .pointer (some ⟨g, 0, none⟩)) (hq : tmps.getD q undef = v) (hg : w.heap[g]? = some (.cells cs t fr))
    (hu : Tryd.prog.underlying ty = some (.struct fs)) (hi : (Tryd.prog.info? ty).map (·.size) = some cs.size) :
    (results fn tmps).run Tryd.prog w = .ok (.tuple #[.agg cs, v]) w := by
  have hp' : tmps[p]?.getD undef = .pointer (some ⟨g, 0, none⟩) := by simpa using hp
  have hq' : tmps[q]?.getD undef = v := by simpa using hq
  simp [results, h, hp', hq', asAddr, run_loadVar_row w g t ty cs fr _ hg hu rfl hi]
set_option maxRecDepth 100000 in
theorem branch_over (w : World) (ha hb : List Nat) (sa sb : Nat) (h1 : ha.length = 32) (h2 : hb.length = 32) (ho : 18446744073709551616 ≤ sa + sb) (hl : sa + sb < 36893488147419103232) :
    Calls Tryd.prog 17 #[nodeV ha sa, nodeV hb sb] w fun e w' => e = .returned (.tuple #[nodeV (List.replicate 32 0) 0, .int .i64 10]) ∧ Below w.heap.size w w' := by
  have HO := Lib.hid ho
  have HL := Lib.hid hl
  have na : (ncells ha sa).toArray[32]? = some (.int .u64 (sa : Int)) := by rw [List.getElem?_toArray, ncells, List.getElem?_append_right (by rw [bcells_length, h1]; exact Nat.le_refl _), bcells_length, h1]; rfl
  have nb : (ncells hb sb).toArray[32]? = some (.int .u64 (sb : Int)) := by rw [List.getElem?_toArray, ncells, List.getElem?_append_right (by rw [bcells_length, h2]; exact Nat.le_refl _), bcells_length, h2]; rfl
  unfold nodeV
  generalize (ncells ha sa).toArray = NA at na ⊢
  generalize (ncells hb sb).toArray = NB at nb ⊢
  clear ho hl h1 h2
  go_enter Tryd.func17, Tryd.ntmps17
  go_upto_region 1 with (fail)
  have h3 := three w NA 29 NB 29 #[Value.int .u8 0, Value.int .u8 0, Value.int .u8 0, Value.int .u8 0, Value.int .u8 0, Value.int .u8 0, Value.int .u8 0, Value.int .u8 0, Value.int .u8 0, Value.int .u8 0, Value.int .u8 0, Value.int .u8 0, Value.int .u8 0, Value.int .u8 0, Value.int .u8 0, Value.int .u8 0, Value.int .u8 0, Value.int .u8 0, Value.int .u8 0, Value.int .u8 0, Value.int .u8 0, Value.int .u8 0, Value.int .u8 0, Value.int .u8 0, Value.int .u8 0, Value.int .u8 0, Value.int .u8 0, Value.int .u8 0, Value.int .u8 0, Value.int .u8 0, Value.int .u8 0, Value.int .u8 0, Value.int .u64 0] 29
  generalize ((w.alloc (.cells NA 29)).alloc (.cells NB 29)).alloc (.cells #[Value.int .u8 0, Value.int .u8 0, Value.int .u8 0, Value.int .u8 0, Value.int .u8 0, Value.int .u8 0, Value.int .u8 0, Value.int .u8 0, Value.int .u8 0, Value.int .u8 0, Value.int .u8 0, Value.int .u8 0, Value.int .u8 0, Value.int .u8 0, Value.int .u8 0, Value.int .u8 0, Value.int .u8 0, Value.int .u8 0, Value.int .u8 0, Value.int .u8 0, Value.int .u8 0, Value.int .u8 0, Value.int .u8 0, Value.int .u8 0, Value.int .u8 0, Value.int .u8 0, Value.int .u8 0, Value.int .u8 0, Value.int .u8 0, Value.int .u8 0, Value.int .u8 0, Value.int .u8 0, Value.int .u64 0] 29) = W at h3 ⊢
  obtain ⟨hA, hB, hr, hbel, hsize⟩ := h3
  have ca := hA.cell_is na
  have cb := hB.cell_is nb
  have HR := Lib.hid hr
  have HBEL := Lib.hid hbel
  clear hA hB hr hbel hsize na nb
  go_wp2_with fail
  refine (add_over _ sa sb HO.out HL.out).mono ?_
  rintro _ w1 ⟨rfl, rfl⟩
  go_wp2_with (refine wpList_store_row rfl 29 (.tmp 4) (.tmp 19) rfl (w.heap.size + 1 + 1) #[Value.int .u8 0, Value.int .u8 0, Value.int .u8 0, Value.int .u8 0, Value.int .u8 0, Value.int .u8 0, Value.int .u8 0, Value.int .u8 0, Value.int .u8 0, Value.int .u8 0, Value.int .u8 0, Value.int .u8 0, Value.int .u8 0, Value.int .u8 0, Value.int .u8 0, Value.int .u8 0, Value.int .u8 0, Value.int .u8 0, Value.int .u8 0, Value.int .u8 0, Value.int .u8 0, Value.int .u8 0, Value.int .u8 0, Value.int .u8 0, Value.int .u8 0, Value.int .u8 0, Value.int .u8 0, Value.int .u8 0, Value.int .u8 0, Value.int .u8 0, Value.int .u8 0, Value.int .u8 0, Value.int .u64 0] rfl rfl 29 _ HR.out (by kernel_rfl) (by kernel_rfl) (by kernel_rfl) ?_)
  have hres : Has (w1.setRow (w.heap.size + 1 + 1) #[Value.int .u8 0, Value.int .u8 0, Value.int .u8 0, Value.int .u8 0, Value.int .u8 0, Value.int .u8 0, Value.int .u8 0, Value.int .u8 0, Value.int .u8 0, Value.int .u8 0, Value.int .u8 0, Value.int .u8 0, Value.int .u8 0, Value.int .u8 0, Value.int .u8 0, Value.int .u8 0, Value.int .u8 0, Value.int .u8 0, Value.int .u8 0, Value.int .u8 0, Value.int .u8 0, Value.int .u8 0, Value.int .u8 0, Value.int .u8 0, Value.int .u8 0, Value.int .u8 0, Value.int .u8 0, Value.int .u8 0, Value.int .u8 0, Value.int .u8 0, Value.int .u8 0, Value.int .u8 0, Value.int .u64 0]) (w.heap.size + 1 + 1) 29 #[Value.int .u8 0, Value.int .u8 0, Value.int .u8 0, Value.int .u8 0, Value.int .u8 0, Value.int .u8 0, Value.int .u8 0, Value.int .u8 0, Value.int .u8 0, Value.int .u8 0, Value.int .u8 0, Value.int .u8 0, Value.int .u8 0, Value.int .u8 0, Value.int .u8 0, Value.int .u8 0, Value.int .u8 0, Value.int .u8 0, Value.int .u8 0, Value.int .u8 0, Value.int .u8 0, Value.int .u8 0, Value.int .u8 0, Value.int .u8 0, Value.int .u8 0, Value.int .u8 0, Value.int .u8 0, Value.int .u8 0, Value.int .u8 0, Value.int .u8 0, Value.int .u8 0, Value.int .u8 0, Value.int .u64 0] := HR.out.setRow
  have hlt := HR.out.lt
  refine bodyPost_ret (results_cell_tmp rfl _ _ (w.heap.size + 1 + 1) 29 #[Value.int .u8 0, Value.int .u8 0, Value.int .u8 0, Value.int .u8 0, Value.int .u8 0, Value.int .u8 0, Value.int .u8 0, Value.int .u8 0, Value.int .u8 0, Value.int .u8 0, Value.int .u8 0, Value.int .u8 0, Value.int .u8 0, Value.int .u8 0, Value.int .u8 0, Value.int .u8 0, Value.int .u8 0, Value.int .u8 0, Value.int .u8 0, Value.int .u8 0, Value.int .u8 0, Value.int .u8 0, Value.int .u8 0, Value.int .u8 0, Value.int .u8 0, Value.int .u8 0, Value.int .u8 0, Value.int .u8 0, Value.int .u8 0, Value.int .u8 0, Value.int .u8 0, Value.int .u8 0, Value.int .u64 0] (0, 0) _ rfl rfl hres Tryd.underlying29 (by kernel_rfl)) rfl ?_
  exact ⟨rfl, HBEL.out.trans ((kept_setRow (g := w.heap.size + 1 + 1) w1 _).below (by omega) (fun k hk => by have e : k = w.heap.size + 1 + 1 := hk; omega))⟩

theorem bcells_append (a b : List Nat) : bcells (a ++ b) = bcells a ++ bcells b := by simp [bcells]
theorem splice_two (Z X Y : List Value) (n : Nat) (hx : X.length = n) (hz : Z.length = n + Y.length) : splice (splice Z 0 X) n Y = X ++ Y := by
  have h := splice_append Z X Y 0 (by omega)
  rw [Nat.zero_add, hx] at h
  rw [h]
  exact splice_all _ _ (by rw [List.length_append]; omega)

set_option maxRecDepth 100000 in
set_option maxHeartbeats 1000000 in
theorem branch_fits (K s0 : List Wd) (w : World) (ha hb : List Nat) (sa sb : Nat) (hT : Tabs K s0 w) (h1 : IsHash ha) (h2 : IsHash hb) (hf : sa + sb < 18446744073709551616) :
    Calls Tryd.prog 17 #[nodeV ha sa, nodeV hb sb] w fun e w' =>
      e = .returned (.tuple #[nodeV (digest K s0 (ha ++ eight sa ++ (hb ++ eight sb))) (sa + sb), .int .i64 0]) ∧ Below w.heap.size w w' := by
  have HT := Lib.hid hT
  have HF := Lib.hid hf
  have HA := Lib.hid h1
  have HB := Lib.hid h2
  have na : (ncells ha sa).toArray[32]? = some (.int .u64 (sa : Int)) := by rw [List.getElem?_toArray, ncells, List.getElem?_append_right (by rw [bcells_length, h1.1]; exact Nat.le_refl _), bcells_length, h1.1]; rfl
  have nb : (ncells hb sb).toArray[32]? = some (.int .u64 (sb : Int)) := by rw [List.getElem?_toArray, ncells, List.getElem?_append_right (by rw [bcells_length, h2.1]; exact Nat.le_refl _), bcells_length, h2.1]; rfl
  have sza : (Tryd.prog.info? 29).map (·.size) = some (ncells ha sa).toArray.size := by rw [List.size_toArray, ncells, List.length_append, bcells_length, h1.1]; kernel_rfl
  have szb : (Tryd.prog.info? 29).map (·.size) = some (ncells hb sb).toArray.size := by rw [List.size_toArray, ncells, List.length_append, bcells_length, h2.1]; kernel_rfl
  have ea : nodeV ha sa = .agg (ncells ha sa).toArray := rfl
  have eb : nodeV hb sb = .agg (ncells hb sb).toArray := rfl
  rw [ea, eb]
  obtain ⟨NA, hNA⟩ : ∃ N, N = (ncells ha sa).toArray := ⟨_, rfl⟩
  obtain ⟨NB, hNB⟩ : ∃ N, N = (ncells hb sb).toArray := ⟨_, rfl⟩
  rw [← hNA] at na sza ⊢
  rw [← hNB] at nb szb ⊢
  have HNA := Lib.hid hNA
  have HNB := Lib.hid hNB
  have SZA := Lib.hid sza
  have SZB := Lib.hid szb
  clear hT h1 h2 hf ea eb hNA hNB sza szb
  go_enter Tryd.func17, Tryd.ntmps17
  go_upto_region 1 with (fail)
  have h3 := three w NA 29 NB 29 #[Value.int .u8 0, Value.int .u8 0, Value.int .u8 0, Value.int .u8 0, Value.int .u8 0, Value.int .u8 0, Value.int .u8 0, Value.int .u8 0, Value.int .u8 0, Value.int .u8 0, Value.int .u8 0, Value.int .u8 0, Value.int .u8 0, Value.int .u8 0, Value.int .u8 0, Value.int .u8 0, Value.int .u8 0, Value.int .u8 0, Value.int .u8 0, Value.int .u8 0, Value.int .u8 0, Value.int .u8 0, Value.int .u8 0, Value.int .u8 0, Value.int .u8 0, Value.int .u8 0, Value.int .u8 0, Value.int .u8 0, Value.int .u8 0, Value.int .u8 0, Value.int .u8 0, Value.int .u8 0, Value.int .u64 0] 29
  generalize ((w.alloc (.cells NA 29)).alloc (.cells NB 29)).alloc (.cells #[Value.int .u8 0, Value.int .u8 0, Value.int .u8 0, Value.int .u8 0, Value.int .u8 0, Value.int .u8 0, Value.int .u8 0, Value.int .u8 0, Value.int .u8 0, Value.int .u8 0, Value.int .u8 0, Value.int .u8 0, Value.int .u8 0, Value.int .u8 0, Value.int .u8 0, Value.int .u8 0, Value.int .u8 0, Value.int .u8 0, Value.int .u8 0, Value.int .u8 0, Value.int .u8 0, Value.int .u8 0, Value.int .u8 0, Value.int .u8 0, Value.int .u8 0, Value.int .u8 0, Value.int .u8 0, Value.int .u8 0, Value.int .u8 0, Value.int .u8 0, Value.int .u8 0, Value.int .u8 0, Value.int .u64 0] 29) = W at h3 ⊢
  obtain ⟨hA, hB, hr, hbel, hsize⟩ := h3
  have ca := hA.cell_is na
  have cb := hB.cell_is nb
  have HWA := Lib.hid hA
  have HWB := Lib.hid hB
  have HR := Lib.hid hr
  have HBEL := Lib.hid hbel
  have HSZ := Lib.hid hsize
  clear hA hB hr hbel hsize na nb
  go_wp2_with fail
  refine (add_fits _ sa sb HF.out).mono ?_
  rintro _ w1 ⟨rfl, rfl⟩
  obtain ⟨sab, hsab⟩ : ∃ s : Nat, s = sa + sb := ⟨_, rfl⟩
  rw [← hsab]
  have HS := Lib.hid hsab
  clear hsab
  go_wp2_with fail
  have hz : Has (w1.alloc (.cells Tryd.zeroCells96 96)) w1.heap.size 96 (bcells (List.replicate 80 0)).toArray := by
    have ez : (bcells (List.replicate 80 0)).toArray = Tryd.zeroCells96 := by kernel_rfl
    rw [ez]; exact Has.new w1 _ _
  have hk0 : Kept (fun _ => False) w1 (w1.alloc (.cells Tryd.zeroCells96 96)) := (Kept.refl _ _).alloc _
  generalize w1.alloc (.cells Tryd.zeroCells96 96) = W2 at hz hk0 ⊢
  obtain ⟨B3, hB3⟩ : ∃ B, B = w1.heap.size := ⟨_, rfl⟩
  rw [← hB3] at hz ⊢
  have hB3g : w.heap.size + 3 = B3 := by rw [hB3, HSZ.out]
  have HZ := Lib.hid hz
  have HK0 := Lib.hid hk0
  have HB3 := Lib.hid hB3
  clear hz hk0 hB3
  refine wp_region_still_tail 2 (by kernel_rfl) (by kernel_rfl) ?_
  simp only [List.take_succ_cons, List.take_zero, List.drop_succ_cons, List.drop_zero]
  refine still_load_row rfl 29 (.tmp 2) rfl w.heap.size rfl 29 NA (0, 0) _ (show Has W2.drew w.heap.size 29 NA from (HWA.out.kept (S := fun _ => False) HK0.out (fun h => h)).drew) Tryd.underlying29 rfl SZA.out ?_
  still_step
  refine wpStill_nil ?_
  change wpList _ _ _ _ _ W2.drew
  go_wp2_with fail
  have hsa : sa < 18446744073709551616 := by have := HF.out; omega
  have hsb : sb < 18446744073709551616 := by have := HF.out; omega
  rw [show Value.agg NA = nodeV ha sa by rw [HNA.out]; rfl]
  refine (put_is W2.drew ha sa B3 0 40 80 96 (bcells (List.replicate 80 0)) HA.out.1 hsa (Nat.le_refl _) HZ.out.drew (by rw [bcells_length, List.length_replicate]; omega)).mono ?_
  rintro _ w2 ⟨rfl, hw2, hk2⟩
  have HW2 := Lib.hid hw2
  have HK2 := Lib.hid ((HK0.out.mono (S' := (· = B3)) (fun _ _ h => h.elim)).trans hk2.undrew)
  clear hw2 hk2
  go_wp2_with fail
  refine wp_region_still_tail 2 (by kernel_rfl) (by kernel_rfl) ?_
  simp only [List.take_succ_cons, List.take_zero, List.drop_succ_cons, List.drop_zero]
  refine still_load_row rfl 29 (.tmp 3) rfl (w.heap.size + 1) rfl 29 NB (0, 0) _ (show Has w2.drew (w.heap.size + 1) 29 NB from (HWB.out.kept HK2.out (by omega)).drew) Tryd.underlying29 rfl SZB.out ?_
  still_step
  refine wpStill_nil ?_
  change wpList _ _ _ _ _ w2.drew
  go_wp2_with fail
  rw [show Value.agg NB = nodeV hb sb by rw [HNB.out]; rfl]
  refine (put_is w2.drew hb sb B3 40 40 40 96 _ HB.out.1 hsb (Nat.le_refl _) HW2.out.drew (by rw [splice_len _ _ _ (by rw [bcells_length, bcells_length, List.length_append, HA.out.1, eight_length, List.length_replicate]; omega), bcells_length, List.length_replicate]; omega)).mono ?_
  rintro _ w3 ⟨rfl, hw3, hk3⟩
  rw [splice_two _ _ _ 40 (by rw [bcells_length, List.length_append, HA.out.1, eight_length]) (by rw [bcells_length, bcells_length, List.length_append, HB.out.1, eight_length, List.length_replicate]), ← bcells_append] at hw3
  have hk30 : Kept (· = B3) w1 w3 := HK2.out.trans hk3.undrew
  have hM : (ha ++ eight sa ++ (hb ++ eight sb)).length = 80 := by rw [List.length_append, List.length_append, List.length_append, HA.out.1, HB.out.1, eight_length, eight_length]
  have hMl : ∀ x ∈ ha ++ eight sa ++ (hb ++ eight sb), x < 256 := fun x hx => by
    have he : ∀ s, ∀ x ∈ eight s, x < 256 := fun s x hx => by obtain ⟨j, _, rfl⟩ := List.mem_map.1 hx; exact Nat.mod_lt _ (by decide)
    rcases List.mem_append.1 hx with hx | hx
    · rcases List.mem_append.1 hx with hx | hx
      · exact HA.out.2 x hx
      · exact he _ x hx
    · rcases List.mem_append.1 hx with hx | hx
      · exact HB.out.2 x hx
      · exact he _ x hx
  obtain ⟨M, hMM⟩ : ∃ M, M = ha ++ eight sa ++ (hb ++ eight sb) := ⟨_, rfl⟩
  rw [← hMM] at hw3 hM hMl
  have hx1 : Below w.heap.size w w3 := HBEL.out.trans (hk30.below (by have := HSZ.out; omega) (fun k hk => by have e : k = B3 := hk; omega))
  have hr3 := HR.out.kept hk30 (by omega)
  have hTx : Tabs K s0 (w3.alloc (.cells #[Value.slice (some ⟨B3, 0, none⟩) 80 80] 22)) :=
    (HT.out.below hx1 HT.out.low).below ((Below.refl w3.heap.size w3).alloc (Nat.le_refl _) _) (by have := hx1.size; have := HT.out.low; omega)
  have hparts : Parts (w3.alloc (.cells #[Value.slice (some ⟨B3, 0, none⟩) 80 80] 22)) (.slice (some ⟨w3.heap.size, 0, none⟩) 1 1) [M] := by
    refine ⟨_, _, rfl, fun _ => ⟨w3.heap.size, 0, rfl, fun i hi => ?_⟩⟩
    have hi2 : i = 0 := by simp at hi; omega
    subst hi2
    refine ⟨_, Has.cell (Has.new w3 22 #[Value.slice (some ⟨B3, 0, none⟩) 80 80]) 0, ?_⟩
    change Bytes _ _ _ M
    have hsz : (w3.alloc (.cells #[Value.slice (some ⟨B3, 0, none⟩) 80 80] 22)).heap.size = w3.heap.size + 1 := by simp
    have hlt := hw3.lt
    refine ⟨some ⟨B3, 0, none⟩, 80, by rw [hM]; rfl, by omega, hMl, fun _ => ⟨B3, 0, rfl, by rw [hsz]; omega, fun i hi => ?_⟩⟩
    refine (hw3.alloc _).cell_is ?_
    rw [List.getElem?_toArray, Nat.zero_add, bcells_get _ _ hi]
  have HX1 := Lib.hid hx1
  have HR3 := Lib.hid hr3
  have HTX := Lib.hid hTx
  have HP := Lib.hid hparts
  have HMM := Lib.hid hMM
  have HM := Lib.hid hM
  clear hw3 hk3 hk30 hM hMl hx1 hr3 hTx hparts hMM HW2 HK2
  go_wp2_with fail
  refine (sum_a K s0 _ _ [M] M HTX.out HP.out (by simp) (by rw [HM.out]; decide) (by simp)).mono ?_
  rintro _ w5 ⟨A, rfl, hA, hb5⟩
  obtain ⟨N, F, hN, hN1, hA1, hA2, hA3, hA4, hst⟩ := node_ops (w.heap.size + 1 + 1) (digest K s0 M) sab (digest_length K s0 HT.out.len _) A hA
  have hk5 : Kept (fun _ => False) w3 w5 := ((Kept.refl (fun _ => False) w3).alloc _).trans (Kept.of_below hb5)
  have hr5 := HR3.out.kept hk5 (fun h => h)
  have hx5 : Below w.heap.size w w5 := HX1.out.trans (hk5.below HX1.out.size (fun _ h => h.elim))
  have hsz : (Tryd.prog.info? 29).map (·.size) = some N.size := by rw [hN1]; kernel_rfl
  have hres : Has (w5.setRow (w.heap.size + 1 + 1) N) (w.heap.size + 1 + 1) 29 N := hr5.setRow
  have hbel : Below w.heap.size w (w5.setRow (w.heap.size + 1 + 1) N) := hx5.trans ((kept_setRow (g := w.heap.size + 1 + 1) w5 N).below hx5.size (fun k hk => by have e : k = w.heap.size + 1 + 1 := hk; omega))
  have hone : N.all (·.oneCell') = true := by rw [hN]; exact all_oneCell_toArray (ncells_one _ _)
  have HA9 := Lib.hid hA
  have HN := Lib.hid hN
  have HR5 := Lib.hid hr5
  have HZ5 := Lib.hid hsz
  have HRES := Lib.hid hres
  have HBL := Lib.hid hbel
  have HONE := Lib.hid hone
  have HN1 := Lib.hid hN1
  clear hA hN hr5 hsz hres hbel hone hst hx5 hk5 hb5 hN1
  go_wp2_with (refine wpList_store_row rfl 29 (.tmp 4) (.tmp 31) rfl (w.heap.size + 1 + 1) N rfl rfl 29 _ HR5.out HZ5.out (by rw [HN1.out]; rfl) HONE.out ?_)
  refine bodyPost_ret (results_cell_tmp rfl _ _ (w.heap.size + 1 + 1) 29 N (0, 0) _ rfl rfl HRES.out Tryd.underlying29 HZ5.out) rfl ?_
  exact ⟨by rw [HN.out, HMM.out, HS.out]; rfl, HBL.out⟩
end Go.Proofs.YtcpomddkehhkkaaDoor
