/- What stands for an empty part of a tree: nothing. -/
import Derived.Test.YtcpomddkehhkkaaDoorTree3
namespace Go.Proofs.YtcpomddkehhkkaaDoor
set_option linter.unusedVariables false
set_option linter.unusedSimpArgs false
open Go.ChangeShapes Go.WideShapes Go.ChangeAt Go.RowKit Go.Maps

theorem enters_fill : ∀ args w, (callFunc 69 args).run Tryd.prog w = .ok (.enter 69 args) w := enters_of Tryd.func69 (by kernel_rfl) rfl
def Done (K s0 : List Wd) (w : World) (g m s : Nat) (w' : World) : Prop :=
  ∃ cs', TFrame K s0 w' g m cs' s ∧ (∀ h, h ≤ 256 → NodeAt cs' (3 + h * 33) (emptyNd K s0 h)) ∧ Kept (· = g) w w'
theorem zero_node : ∃ Z : Array Value, (∀ w, (zeroValue 29).run Tryd.prog w = .ok (.agg Z) w) ∧ Z.size = 33 ∧ ¬ Z = #[] ∧ Z = (ncells (List.replicate 32 0) 0).toArray := by
  have hs : (ncells (List.replicate 32 0) 0).toArray.size = 33 := by kernel_rfl
  exact ⟨_, fun w => by kernel_rfl, hs, fun e => (by rw [e] at hs; cases hs), rfl⟩
/-- the once of a tree, done or not. -/
theorem once_is (K s0 : List Wd) (w : World) (hT : Tabs K s0 w) (g m B1 s : Nat) (cs : Array Value) (hf : TFrame K s0 w g m cs s) (hb : w.cell? ⟨B1, 0, none⟩ = some (.pointer (some ⟨g, 0, none⟩))) (hne : B1 ≠ g) (hlow : 2 + 1 ≤ g) :
    Calls Tryd.prog 68 #[.pointer (some ⟨g, 0, none⟩), .func (.func 69) #[] #[.pointer (some ⟨B1, 0, none⟩)]] w fun e w' => e = .returned (.tuple #[]) ∧ Done K s0 w g m s w' := by
  rcases hf.once with h0 | ⟨h1, hn⟩
  · have hset := hf.obj.set 1 (.int .i32 1)
    have hk0 : Kept (· = g) w (w.setCell ⟨g, 1, none⟩ (.int .i32 1)) := (Kept.refl (· = g) w).set (p := ⟨g, 1, none⟩) (.inl rfl) _
    have hT1 : Tabs K s0 (w.setCell ⟨g, 1, none⟩ (.int .i32 1)) := hT.kept hk0 (fun k e => by have e' : k = g := e; omega)
    have hsz : (cs.setIfInBounds 1 (.int .i32 1)).size = 8486 := by rw [Array.size_setIfInBounds]; exact hf.size
    have hb1 : (w.setCell ⟨g, 1, none⟩ (.int .i32 1)).cell? ⟨B1, 0, none⟩ = some (.pointer (some ⟨g, 0, none⟩)) := cell_held hk0 hb hne
    have hfill := fill_is K s0 _ hT1 g B1 _ hset hsz hb1 hne hlow
    have key : ∀ cs' : Array Value, (∀ i, i < 3 ∨ 8484 ≤ i → cs'[i]? = (cs.setIfInBounds 1 (.int .i32 1))[i]?) → cs'[0]? = some (.int .u32 0) ∧ cs'[1]? = some (.int .i32 1) ∧ cs'[8484]? = cs[8484]? ∧ cs'[8485]? = cs[8485]? := fun cs' h => by
      refine ⟨?_, ?_, ?_, ?_⟩
      · rw [h 0 (by omega), Array.getElem?_setIfInBounds_ne (by omega)]; exact h0
      · rw [h 1 (by omega), Array.getElem?_setIfInBounds_self_of_lt (by rw [hf.size]; decide)]
      · rw [h _ (by omega), Array.getElem?_setIfInBounds_ne (by omega)]
      · rw [h _ (by omega), Array.getElem?_setIfInBounds_ne (by omega)]
    refine (do_first 69 (.pointer (some ⟨B1, 0, none⟩)) g 0 w (Filled K s0 (w.setCell ⟨g, 1, none⟩ (.int .i32 1)) g (cs.setIfInBounds 1 (.int .i32 1)) 256) (hf.obj.cell_is h0) (hf.obj.cell_is hf.lock) (hf.obj.free _) (hf.obj.free _) hfill enters_fill ?_).mono ?_
    · intro w' ⟨cs', p1, p2, p3, p4, p5⟩
      obtain ⟨q0, q1, _, _⟩ := key cs' p3
      exact ⟨p1.cell_is q0, p1.cell_is q1, p1.free _, p1.free _⟩
    · intro e w' ⟨he, w2, ⟨cs', p1, p2, p3, p4, p5⟩, hw⟩
      obtain ⟨q0, q1, q2, q3⟩ := key cs' p3
      refine ⟨he, (cs'.setIfInBounds 0 (.int .u32 1)).setIfInBounds 1 (.int .i32 0), ⟨?_, ?_, ?_, ?_, ?_, ?_⟩, fun h hh j v hv => ?_, ?_⟩
      · rw [hw]; exact (p1.drew.set 0 _).set 1 _
      · rw [Array.size_setIfInBounds, Array.size_setIfInBounds]; exact p2
      · rw [Array.getElem?_setIfInBounds_self_of_lt (by rw [Array.size_setIfInBounds, p2]; decide)]
      · rw [Array.getElem?_setIfInBounds_ne (by omega), Array.getElem?_setIfInBounds_ne (by omega), q2]; exact hf.lv
      · rw [Array.getElem?_setIfInBounds_ne (by omega), Array.getElem?_setIfInBounds_ne (by omega), q3]; exact hf.sm
      · refine .inr ⟨?_, fun h hh j v hv => ?_⟩
        · rw [Array.getElem?_setIfInBounds_ne (by omega), Array.getElem?_setIfInBounds_self_of_lt (by rw [p2]; decide)]
        · rw [Array.getElem?_setIfInBounds_ne (by omega), Array.getElem?_setIfInBounds_ne (by omega)]
          exact p4 h hh j v hv
      · rw [Array.getElem?_setIfInBounds_ne (by omega), Array.getElem?_setIfInBounds_ne (by omega)]
        exact p4 h hh j v hv
      · rw [hw]
        exact ((hk0.trans p5).drew.set (p := ⟨g, 0, none⟩) (.inl rfl) _).set (p := ⟨g, 1, none⟩) (.inl rfl) _
  · exact (do_done ⟨g, 0, none⟩ 1 (by decide) _ w (hf.obj.cell_is h1)).mono fun e w' ⟨he, hw⟩ => ⟨he, cs, by rw [hw]; exact hf, hn, by rw [hw]; exact Kept.refl _ _⟩

set_option maxRecDepth 100000 in
set_option maxHeartbeats 2000000 in
theorem nothing_is (K s0 : List Wd) (w : World) (hT : Tabs K s0 w) (g m s : Nat) (cs : Array Value) (hf : TFrame K s0 w g m cs s) (hlow : 2 + 1 ≤ g) (ht : Nat) (hh : ht ≤ 256) :
    Calls Tryd.prog 62 #[.pointer (some ⟨g, 0, none⟩), .int .i64 (ht : Int)] w fun e w' => e = .returned (.agg (ndV (emptyNd K s0 ht)).toArray) ∧ (∃ cs', TFrame K s0 w' g m cs' s) ∧ Kept (· = g) w w' := by
  have hmf : ∀ (fn : Fn) (first cap : Array Value) (w : World), (Instr.makeFunc fn first cap).run Tryd.prog w = .ok (.func fn first cap) w := fun _ _ _ _ => rfl
  have hglt := hf.obj.lt
  have s1 : ∀ (x : World) o, (x.alloc o).heap.size = x.heap.size + 1 := fun x o => by simp
  obtain ⟨Z, hz, hZs, hZn, -⟩ := zero_node
  have b1 := (Has.new w 53 #[.pointer (some ⟨g, 0, none⟩)]).alloc (.cells Z 29)
  have b2 := Has.new (w.alloc (.cells #[.pointer (some ⟨g, 0, none⟩)] 53)) 29 Z
  rw [s1] at b2
  have hk0 : Kept (fun _ => False) w ((w.alloc (.cells #[.pointer (some ⟨g, 0, none⟩)] 53)).alloc (.cells Z 29)) := ((Kept.refl _ _).alloc _).alloc _
  have hf0 : TFrame K s0 ((w.alloc (.cells #[.pointer (some ⟨g, 0, none⟩)] 53)).alloc (.cells Z 29)) g m cs s := ⟨hf.obj.kept hk0 (fun h => h), hf.size, hf.lock, hf.lv, hf.sm, hf.once⟩
  have hT0 := hT.kept hk0 (fun _ h => h.elim)
  have c1 : ((w.alloc (.cells #[.pointer (some ⟨g, 0, none⟩)] 53)).alloc (.cells Z 29)).cell? ⟨w.heap.size, 0, none⟩ = some (.pointer (some ⟨g, 0, none⟩)) := b1.cell_is rfl
  have hdo := once_is K s0 _ hT0 g m w.heap.size s cs hf0 c1 (by omega) hlow
  have HDO := Lib.hid hdo
  have HB1 := Lib.hid b1
  have HB2 := Lib.hid b2
  have HK0 := Lib.hid hk0
  have HGL := Lib.hid hglt
  have HLEN := Lib.hid hT.len
  have HZS := Lib.hid hZs
  clear hf hT b1 b2 hf0 hT0 hdo hk0 hglt hZs s1 hlow c1
  go_enter Tryd.func62, Tryd.ntmps62
  go_upto_region 1 with (fail)
  generalize (w.alloc (.cells #[.pointer (some ⟨g, 0, none⟩)] 53)).alloc (.cells Z 29) = W0 at HDO HB1 HB2 HK0 ⊢
  have c1 : W0.cell? ⟨w.heap.size, 0, none⟩ = some (.pointer (some ⟨g, 0, none⟩)) := HB1.out.cell_is rfl
  go_wp2_with fail
  refine HDO.out.mono ?_
  rintro _ w1 ⟨rfl, cs', hf1, hn, hk1⟩
  have d1 : w1.cell? ⟨w.heap.size, 0, none⟩ = some (.pointer (some ⟨g, 0, none⟩)) := cell_held hk1 c1 (by have := HGL.out; show ¬ w.heap.size = g; omega)
  have hb2 := HB2.out.kept hk1 (by have := HGL.out; omega)
  obtain ⟨LN, hLN⟩ : ∃ L, L = ndV (emptyNd K s0 ht) := ⟨_, rfl⟩
  have ln : LN.length = 33 := by rw [hLN]; exact ndV_len (empty_hash K s0 HLEN.out ht)
  have hr : w1.rangeAt g (3 + ht * 33) LN := by rw [hLN]; exact nodeAt_range hf1.obj (hn ht hh)
  have HR := Lib.hid hr
  have SZN := Lib.hid (show (Tryd.prog.info? 29).map (·.size) = some LN.length by rw [ln]; kernel_rfl)
  have SZA := Lib.hid (show (Tryd.prog.info? 29).map (·.size) = some LN.toArray.size by rw [List.size_toArray, ln]; kernel_rfl)
  have ONE := Lib.hid (show LN.toArray.all (·.oneCell') = true by rw [hLN]; exact ndV_one _)
  have HZN := Lib.hid (show Z.size = LN.toArray.size by rw [HZS.out, List.size_toArray, ln])
  have HB3 := Lib.hid hb2
  have hk2 : Kept (· = w.heap.size + 1) w1 (w1.setRow (w.heap.size + 1) LN.toArray) := kept_setRow (g := w.heap.size + 1) w1 LN.toArray
  have hgg : g < w.heap.size := HGL.out
  have HFIN := Lib.hid (show (∃ cs', TFrame K s0 (w1.setRow (w.heap.size + 1) LN.toArray) g m cs' s) ∧ Kept (· = g) w (w1.setRow (w.heap.size + 1) LN.toArray) from
    ⟨⟨cs', hf1.obj.kept hk2 (by omega), hf1.size, hf1.lock, hf1.lv, hf1.sm, hf1.once⟩, (HK0.out.mono (S' := (· = g)) (fun _ _ h => h.elim)).trans hk1 |>.step hk2 (fun k e => by have e' : k = w.heap.size + 1 := e; omega)⟩)
  have HRES := Lib.hid (show Has (w1.setRow (w.heap.size + 1) LN.toArray) (w.heap.size + 1) 29 LN.toArray from hb2.setRow)
  have hi1 : ¬ (257 : Int) ≤ (ht : Int) := by omega
  have ELN := Lib.hid hLN
  clear hf1 hn hk1 hb2 hLN ln hr hk2 hgg c1 HDO HB1 HB2 HK0
  go_wp2_with (first
    | (refine wpList_load_mid rfl 29 (.tmp 14) rfl g (3 + ht * 33) rfl LN _ HR.out Tryd.underlying29 rfl SZN.out ?_)
    | (refine wpList_store_row rfl 29 (.tmp 4) (.tmp 15) rfl (w.heap.size + 1) LN.toArray rfl rfl 29 Z HB3.out SZA.out HZN.out ONE.out ?_))
  refine bodyPost_ret (results_cell_row rfl _ _ (w.heap.size + 1) 29 LN.toArray (0, 0) _ rfl HRES.out Tryd.underlying29 rfl SZA.out) rfl ?_
  exact ⟨by rw [← ELN.out], HFIN.out⟩
end Go.Proofs.YtcpomddkehhkkaaDoor
