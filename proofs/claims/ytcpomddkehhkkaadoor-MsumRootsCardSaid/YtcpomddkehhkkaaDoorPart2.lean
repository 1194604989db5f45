/- Leaves parted in two rows, as the reference parts them: how the two rows lie, what an append does. -/
import Derived.Test.YtcpomddkehhkkaaDoorSome4
import Derived.Test.YtcpomddkehhkkaaDoorEmp1
import Derived.Test.YtcpomddkehhkkaaDoorBits
namespace Go.Proofs.YtcpomddkehhkkaaDoor
set_option linter.unusedVariables false
set_option linter.unusedSimpArgs false
open Go.ChangeShapes Go.WideShapes Go.ChangeAt Go.RowKit Go.Maps

/-- the leaves that go one way at a height. -/
def sideS (xs : List Sel) (h b : Nat) : List Sel := xs.filter fun x => bitAt x.key h = b
theorem side_leaf (xs : List Sel) (h b : Nat) : (sideS xs h b).map Sel.leaf = side (xs.map Sel.leaf) h b := by
  unfold sideS side
  rw [List.filter_map]
  rfl
theorem sideS_snoc (xs : List Sel) (k : Nat) (x : Sel) (hx : xs[k]? = some x) (h b : Nat) : sideS (xs.take (k + 1)) h b = if bitAt x.key h = b then sideS (xs.take k) h b ++ [x] else sideS (xs.take k) h b := by
  unfold sideS
  rw [List.take_add_one, hx, Option.toList_some, List.filter_append, List.filter_cons, List.filter_nil]
  split
  · next e => rw [if_pos (by simpa using e)]
  · next e => rw [if_neg (by simpa using e), List.append_nil]
theorem sideS_len (xs : List Sel) (h b : Nat) : (sideS xs h b).length ≤ xs.length := List.length_filter_le _ _
theorem sideS_mem {xs : List Sel} {h b : Nat} {x : Sel} (hx : x ∈ sideS xs h b) : x ∈ xs := (List.mem_filter.1 hx).1
def sumS (xs : List Sel) : Nat := (xs.map (·.s)).sum
theorem sumS_leaf (xs : List Sel) : sumT (xs.map Sel.leaf) = sumS xs := by
  unfold sumT sumS
  rw [List.map_map]; rfl
theorem sumS_sides (xs : List Sel) (h : Nat) : sumS (sideS xs h 0) + sumS (sideS xs h 1) = sumS xs := by
  induction xs with
  | nil => rfl
  | cons x xs ih =>
    have hb := bitAt_lt x.key h
    unfold sideS sumS at ih ⊢
    rw [List.filter_cons, List.filter_cons]
    by_cases h0 : bitAt x.key h = 0
    · rw [if_pos (by simpa using h0), if_neg (by simp; omega)]
      simp only [List.map_cons, List.sum_cons]
      omega
    · have h1 : bitAt x.key h = 1 := by omega
      rw [if_neg (by simpa using h0), if_pos (by simpa using h1)]
      simp only [List.map_cons, List.sum_cons]
      omega
theorem sumT_sides (T : List Lf) (h : Nat) : sumT (side T h 0) + sumT (side T h 1) = sumT T := by
  induction T with
  | nil => rfl
  | cons x xs ih =>
    have hb := bitAt_lt x.k h
    unfold side sumT at ih ⊢
    rw [List.filter_cons, List.filter_cons]
    by_cases h0 : bitAt x.k h = 0
    · rw [if_pos (by simpa using h0), if_neg (by simp; omega)]
      simp only [List.map_cons, List.sum_cons]
      omega
    · have h1 : bitAt x.k h = 1 := by omega
      rw [if_neg (by simpa using h0), if_pos (by simpa using h1)]
      simp only [List.map_cons, List.sum_cons]
      omega
theorem part_le (K s0 : List Wd) : ∀ (h : Nat) (T : List Lf), (partNd K s0 h T).s ≤ sumT T
  | 0, [] => Nat.le_refl _
  | 0, t :: T => by show t.s ≤ ((t :: T).map (·.s)).sum; simp
  | h + 1, T => by
    show (partNd K s0 h (side T h 0)).s + (partNd K s0 h (side T h 1)).s ≤ sumT T
    have h0 := part_le K s0 h (side T h 0)
    have h1 := part_le K s0 h (side T h 1)
    have := sumT_sides T h
    omega
/-- two rows of leaves whose slices lie in a block. -/
structure SideAt (w : World) (B : Nat) (f : Nat → Value) (g : Nat → List Sel) : Prop where
  blk : Has w B 114 #[f 0, f 1]
  own : ∀ b, b < 2 → w.ownsRow B 63 34 (f b) (g b).length ((g b).flatMap Sel.cells)
  apart : ∀ j, (f 0).ownBlock = some j → (f 1).ownBlock ≠ some j
theorem SideAt.kept {S : Nat → Prop} {w w' : World} {B : Nat} {f : Nat → Value} {g : Nat → List Sel} (h : SideAt w B f g) (hk : Kept S w w') (hs : ∀ k, k < w.heap.size → B ≤ k → ¬ S k) : SideAt w' B f g :=
  ⟨h.blk.kept hk (hs B h.blk.lt (Nat.le_refl _)), fun b hb => own_kept (h.own b hb) hk (fun k e => by
    rcases (h.own b hb).2 with ⟨e1, _⟩ | ⟨gs, cap, cur, e1, h1, h2, _⟩
    · rw [e1] at e; simp [Value.ownBlock] at e
    · rw [e1] at e
      obtain rfl : gs = k := by simpa [Value.ownBlock] using e
      exact hs gs (Array.getElem?_eq_some_iff.1 h2).1 h1), h.apart⟩
def upd {α : Type} (f : Nat → α) (b : Nat) (v : α) : Nat → α := fun i => if i = b then v else f i
theorem upd_same {α : Type} (f : Nat → α) (b : Nat) (v : α) : upd f b v b = v := if_pos rfl
theorem upd_other {α : Type} (f : Nat → α) {b i : Nat} (v : α) (h : i ≠ b) : upd f b v i = f i := if_neg h
/-- one leaf more in one of the rows. -/
theorem SideAt.push {w w6 : World} {B b g6 cap6 : Nat} {f : Nat → Value} {g : Nat → List Sel} {x : Sel} (h : SideAt w B f g) (hb : b < 2) (hg : w.grownBy w6 (f b).ownBlock)
    (hown : w6.ownsRow B 63 34 (.slice (some ⟨g6, 0, none⟩) ((g b).length + 1) cap6) ((g b).length + 1) ((g b).flatMap Sel.cells ++ x.cells)) (hat : (f b).ownBlock = some g6 ∨ g6 = w.heap.size) :
    SideAt (w6.setCell ⟨B, b, none⟩ (.slice (some ⟨g6, 0, none⟩) ((g b).length + 1) cap6)) B (upd f b (.slice (some ⟨g6, 0, none⟩) ((g b).length + 1) cap6)) (upd g b (g b ++ [x])) ∧ Kept (fun j => B ≤ j) w (w6.setCell ⟨B, b, none⟩ (.slice (some ⟨g6, 0, none⟩) ((g b).length + 1) cap6)) := by
  have hB := h.blk.lt
  have hne : ∀ c, c < 2 → ∀ k, (f c).ownBlock = some k → k ≠ B ∧ k < w.heap.size ∧ B ≤ k := fun c hc k e => by
    refine ⟨own_has_ne (h.own c hc) h.blk (by decide) k e, ?_, own_blk (h.own c hc) k e⟩
    rcases (h.own c hc).2 with ⟨e1, _⟩ | ⟨gs, cap, cur, e1, h1, h2, _⟩
    · rw [e1] at e; simp [Value.ownBlock] at e
    · rw [e1] at e
      obtain rfl : gs = k := by simpa [Value.ownBlock] using e
      exact (Array.getElem?_eq_some_iff.1 h2).1
  have hk6 : Kept (fun k => (f b).ownBlock = some k) w w6 := (Kept.refl _ w).grown hg (fun k e => .inl e)
  have hblk6 : Has w6 B 114 #[f 0, f 1] := h.blk.kept hk6 (fun e => (hne b hb B e).1 rfl)
  have hkc : Kept (· = B) w6 (w6.setCell ⟨B, b, none⟩ (.slice (some ⟨g6, 0, none⟩) ((g b).length + 1) cap6)) := (Kept.refl (· = B) w6).set (p := ⟨B, b, none⟩) (.inl rfl) _
  have hset := hblk6.set b (.slice (some ⟨g6, 0, none⟩) ((g b).length + 1) cap6)
  have hg6 : g6 ≠ B := fun e => by
    rcases hat with h1 | h1
    · exact (hne b hb g6 h1).1 e
    · omega
  have hold : ∀ c, c < 2 → c ≠ b → w6.ownsRow B 63 34 (f c) (g c).length ((g c).flatMap Sel.cells) ∧ (f c).ownBlock ≠ some g6 := fun c hc hcb => by
    have hdis : ∀ k, (f c).ownBlock = some k → (f b).ownBlock ≠ some k := fun k e e2 => by
      have : (c = 0 ∧ b = 1) ∨ (c = 1 ∧ b = 0) := by omega
      rcases this with ⟨rfl, rfl⟩ | ⟨rfl, rfl⟩
      · exact h.apart k e e2
      · exact h.apart k e2 e
    refine ⟨own_kept (h.own c hc) hk6 (fun k e e2 => hdis k e e2), fun e => ?_⟩
    rcases hat with h1 | h1
    · exact hdis g6 e h1
    · have := (hne c hc g6 e).2.1; omega
  refine ⟨⟨?_, fun c hc => ?_, fun j e1 e2 => ?_⟩, ?_⟩
  · have : b = 0 ∨ b = 1 := by omega
    rcases this with rfl | rfl
    · rw [upd_same, upd_other f _ (by decide)]
      simpa using hset
    · rw [upd_same, upd_other f _ (by decide)]
      simpa using hset
  · by_cases e : c = b
    · subst e
      rw [upd_same, upd_same]
      refine own_kept ?_ hkc (fun k e => ?_)
      · rw [List.length_append, List.flatMap_append]
        simpa using hown
      · obtain rfl : g6 = k := by simpa [Value.ownBlock] using e
        exact hg6
    · rw [upd_other f _ e, upd_other g _ e]
      exact own_kept (hold c hc e).1 hkc (fun k e2 => (hne c hc k e2).1)
  · have : b = 0 ∨ b = 1 := by omega
    rcases this with rfl | rfl
    · rw [upd_same] at e1
      rw [upd_other f _ (by decide)] at e2
      obtain rfl : g6 = j := by simpa [Value.ownBlock] using e1
      exact (hold 1 (by decide) (by decide)).2 e2
    · rw [upd_same] at e2
      rw [upd_other f _ (by decide)] at e1
      obtain rfl : g6 = j := by simpa [Value.ownBlock] using e2
      exact (hold 0 (by decide) (by decide)).2 e1
  · exact (hk6.mono (fun k _ e => (hne b hb k e).2.2)).trans (hkc.mono (fun k _ e => by have e' : k = B := e; omega))
end Go.Proofs.YtcpomddkehhkkaaDoor

/- The walk of the reference's Part. -/
namespace Go.Proofs.YtcpomddkehhkkaaDoor
set_option linter.unusedVariables false
set_option linter.unusedSimpArgs false
open Go.ChangeShapes Go.WideShapes Go.ChangeAt Go.RowKit Go.Maps

theorem EmpAt.kept {S : Nat → Prop} {w w' : World} {K s0 : List Wd} {g : Nat} (h : EmpAt w K s0 g) (hk : Kept S w w') (hs : ¬ S g) : EmpAt w' K s0 g := ⟨Nat.lt_of_lt_of_le h.1 hk.size, fun k hh => rangeAt_kept (h.2 k hh) hk hs⟩
theorem SelsAt.below {w w' : World} {A : Option Addr} {n : Nat} {xs : List Sel} (h : SelsAt w A n xs) (hb : Below w.heap.size w w') : SelsAt w' A n xs :=
  ⟨h.len, h.few, fun x hx => (h.ok x hx).below hb, fun hp => by
    obtain ⟨b, o, e, h1, h2⟩ := h.at_ hp
    exact ⟨b, o, e, Nat.lt_of_lt_of_le h1 hb.size, fun i x hi => rangeAt_kept (h2 i x hi) (Kept.of_below (S := fun _ => False) hb) (fun h => h)⟩⟩
theorem at_sel (b o n c k : Nat) (hk : k < n) (w : World) : (Instr.indexAt 60 (.slice (some ⟨b, o, none⟩) n c) (.int .i64 (k : Int))).run Tryd.prog w = .ok (.pointer (some ⟨b, o + k * 34, none⟩)) w := by
  have hu : Tryd.prog.underlying 60 = some (.slice (Tryd.prog.elem 60)) := by kernel_rfl
  have he : Tryd.prog.elem 60 = 63 := by kernel_rfl
  have hz : ∀ w, (sizeOf 63).run Tryd.prog w = .ok 34 w := fun w => by kernel_rfl
  rw [run_indexAt_slice w 60 ⟨b, o, none⟩ n c .i64 (k : Int) hu, if_pos ⟨by omega, by omega⟩, he, hz]
  simp only [Result.andThen, Int.toNat_natCast, Addr.add_mid]
/-- what Part answers. -/
def PartC (K s0 : List Wd) (ge ce h : Nat) (w : World) (A : Option Addr) (n c : Nat) (xs : List Sel) : Prop :=
  Calls Tryd.prog 29 #[.agg (tabsL s0 K).toArray, .slice (some ⟨ge, 0, none⟩) 257 ce, .slice A n c, .int .i64 (h : Int)] w fun e w' => e = .returned (.agg (ndV (partNd K s0 h (xs.map Sel.leaf))).toArray) ∧ Below w.heap.size w w'
/-- the two blocks that Part makes first. -/
theorem part_start (w : World) (LT : List Value) (Z : Array Value) : Has ((w.alloc (.cells LT.toArray 35)).alloc (.cells Z 38)) w.heap.size 35 LT.toArray ∧ Has ((w.alloc (.cells LT.toArray 35)).alloc (.cells Z 38)) (w.heap.size + 1) 38 Z ∧ Below w.heap.size w ((w.alloc (.cells LT.toArray 35)).alloc (.cells Z 38)) ∧ ((w.alloc (.cells LT.toArray 35)).alloc (.cells Z 38)).heap.size = w.heap.size + 2 := by
  have s1 : ∀ (x : World) o, (x.alloc o).heap.size = x.heap.size + 1 := fun x o => by simp
  have b1 := Has.new (w.alloc (.cells LT.toArray 35)) 38 Z
  rw [s1] at b1
  exact ⟨(Has.new w 35 LT.toArray).alloc _, b1, ((Below.refl w.heap.size w).alloc (Nat.le_refl _) _).alloc (by rw [s1]; omega) _, by rw [s1, s1]⟩
set_option maxRecDepth 100000 in
set_option maxHeartbeats 2000000 in
theorem rpart_none (K s0 : List Wd) (hK : K.length = 64) (hs0 : s0.length = 8) (ge ce h : Nat) (hh : h ≤ 256) (w : World) (A : Option Addr) (c : Nat) (he : EmpAt w K s0 ge) : PartC K s0 ge ce h w A 0 c [] := by
  unfold PartC
  rw [show ([] : List Sel).map Sel.leaf = [] from rfl, part_nil]
  obtain ⟨Z, hz, hZs, hZn, -⟩ := rn_zero
  obtain ⟨LT, hLT⟩ : ∃ L, L = tabsL s0 K := ⟨_, rfl⟩
  obtain ⟨LN, hLN⟩ : ∃ L, L = ndV (emptyNd K s0 h) := ⟨_, rfl⟩
  have ln : LN.length = 33 := by rw [hLN]; exact ndV_len (empty_hash K s0 hs0 h)
  rw [← hLT, ← hLN]
  obtain ⟨b0, b1, hbel, -⟩ := part_start w LT Z
  have hrow := rangeAt_kept (he.2 h hh) (Kept.of_below (S := fun _ => False) hbel) (fun h => h)
  rw [← hLN] at hrow
  have HB8 := Lib.hid b1
  have HBEL := Lib.hid hbel
  have HROW := Lib.hid hrow
  have SZL := Lib.hid (show (Tryd.prog.info? 38).map (·.size) = some LN.length by rw [ln]; kernel_rfl)
  have SZN := Lib.hid (show (Tryd.prog.info? 38).map (·.size) = some LN.toArray.size by rw [List.size_toArray]; exact SZL.out)
  have ONEN := Lib.hid (show LN.toArray.all (·.oneCell') = true by rw [hLN]; exact ndV_one _)
  have HZL := Lib.hid (show Z.size = LN.toArray.size by rw [hZs, List.size_toArray, ln])
  have hat := at_rn ge 257 ce h (by omega)
  clear b0 b1 hbel hrow ln hLN hLT hZs he hh
  go_enter Tryd.func29, Tryd.ntmps29
  go_upto_region 1 with (fail)
  generalize (w.alloc (.cells LT.toArray 35)).alloc (.cells Z 38) = W0 at HB8 HBEL HROW ⊢
  have hres : Has (W0.setRow (w.heap.size + 1) LN.toArray) (w.heap.size + 1) 38 LN.toArray := HB8.out.setRow
  have hbf : Below w.heap.size w (W0.setRow (w.heap.size + 1) LN.toArray) := HBEL.out.trans ((kept_setRow (g := w.heap.size + 1) W0 LN.toArray).below HBEL.out.size (fun k e => by have e' : k = w.heap.size + 1 := e; omega))
  have HRES := Lib.hid hres
  have HBF := Lib.hid hbf
  clear hres hbf
  go_wp2_with (first
    | (refine wpList_load_mid rfl 38 (.tmp 18) rfl ge (h * 33) rfl LN _ HROW.out Tryd.underlying38 rfl SZL.out ?_)
    | (refine wpList_store_row rfl 38 (.tmp 8) (.tmp 19) rfl (w.heap.size + 1) LN.toArray rfl rfl 38 Z HB8.out SZN.out HZL.out ONEN.out ?_))
  refine bodyPost_ret (results_cell_row rfl _ _ (w.heap.size + 1) 38 LN.toArray (0, 0) _ rfl HRES.out Tryd.underlying38 rfl SZN.out) rfl ?_
  exact ⟨rfl, HBF.out⟩
set_option maxRecDepth 100000 in
set_option maxHeartbeats 4000000 in
theorem rpart_leaf (K s0 : List Wd) (hK : K.length = 64) (hs0 : s0.length = 8) (ge ce : Nat) (w : World) (A : Option Addr) (n c : Nat) (x : Sel) (xs : List Sel) (hx : SelsAt w A n (x :: xs)) : PartC K s0 ge ce 0 w A n c (x :: xs) := by
  unfold PartC
  have hn0 : 0 < n := by rw [← hx.len]; simp
  obtain ⟨sb, so, hA, hsb, hrow⟩ := hx.at_ hn0
  subst hA
  have hok := hx.ok x List.mem_cons_self
  obtain ⟨Z, hz, hZs, hZn, -⟩ := rn_zero
  obtain ⟨LT, hLT⟩ : ∃ L, L = tabsL s0 K := ⟨_, rfl⟩
  obtain ⟨LN, hLN⟩ : ∃ L, L = ndV (leafNd K s0 x.v x.s) := ⟨_, rfl⟩
  have e0 : partNd K s0 0 ((x :: xs).map Sel.leaf) = leafNd K s0 x.v x.s := rfl
  rw [e0]
  have hh : IsHash (leafNd K s0 x.v x.s).h := digest_hash K s0 hs0 _
  have ln : LN.length = 33 := by rw [hLN]; exact ndV_len hh
  rw [← hLN, ← hLT]
  obtain ⟨b0, b1, hbel, -⟩ := part_start w LT Z
  obtain ⟨q1, q2⟩ := sel_get x.h.1
  have hr0 := hrow 0 x rfl
  rw [Nat.zero_mul, Nat.add_zero] at hr0
  obtain ⟨xa, hxa⟩ : ∃ a, a = x.a := ⟨_, rfl⟩
  obtain ⟨xn, hxn⟩ : ∃ a, a = x.v.length := ⟨_, rfl⟩
  obtain ⟨xc, hxc⟩ : ∃ a, a = x.c := ⟨_, rfl⟩
  obtain ⟨xv, hxv⟩ : ∃ a, a = x.s := ⟨_, rfl⟩
  rw [← hxa, ← hxn, ← hxc] at q1
  rw [← hxv] at q2
  have HKS := Lib.hid (show ∀ v, Kept (· = w.heap.size + 1) ((w.alloc (.cells LT.toArray 35)).alloc (.cells Z 38)) v → v.rangeAt w.heap.size 0 LT ∧ v.cell? ⟨sb, so + 32, none⟩ = some (.slice xa xn xc) ∧ v.cell? ⟨sb, so + 33, none⟩ = some (.int .u64 (xv : Int)) from fun v hk => by
    have hkw : Kept (· = w.heap.size + 1) w v := ((Kept.of_below hbel).mono (fun _ _ h => h)).trans hk
    exact ⟨(b0.kept hk (by show ¬ w.heap.size = w.heap.size + 1; omega)).row0, cell_held hkw (hr0 32 _ q1) (by show ¬ sb = w.heap.size + 1; omega), cell_held hkw (hr0 33 _ q2) (by show ¬ sb = w.heap.size + 1; omega)⟩)
  have HOF := Lib.hid (show ∀ v, Kept (fun _ => False) ((w.alloc (.cells LT.toArray 35)).alloc (.cells Z 38)) v → Calls Tryd.prog 15 #[.agg LT.toArray, .slice xa xn xc, .int .u64 (xv : Int)] v fun e w' => e = .returned (.agg LN.toArray) ∧ Below v.heap.size v w' from fun v hk => by
    have hbv : Below w.heap.size w v := hbel.trans (hk.below hbel.size (fun _ h => h.elim))
    have := refOf_is K s0 hK hs0 v (.slice x.a x.v.length x.c) x.v x.s (hok.bytes.alive hbv hbv.size) (by have := hok.short; omega) hok.s
    rw [hLT, hLN, hxa, hxn, hxc, hxv]; exact this)
  have HB8 := Lib.hid b1
  have HBEL := Lib.hid hbel
  have EZ := Lib.hid hZs
  have HLNL := Lib.hid ln
  have SZT := Lib.hid (show (Tryd.prog.info? 35).map (·.size) = some LT.length by rw [hLT, tabs_length K s0 hK hs0]; kernel_rfl)
  have SZN := Lib.hid (show (Tryd.prog.info? 38).map (·.size) = some LN.toArray.size by rw [List.size_toArray, ln]; kernel_rfl)
  have ONEN := Lib.hid (show LN.toArray.all (·.oneCell') = true by rw [hLN]; exact ndV_one _)
  have hat : ∀ w, (Instr.indexAt 60 (.slice (some ⟨sb, so, none⟩) n c) (.int .i64 0)).run Tryd.prog w = .ok (.pointer (some ⟨sb, so, none⟩)) w := fun w => by
    have := at_sel sb so n c 0 hn0 w
    rwa [Nat.zero_mul, Nat.add_zero] at this
  have hne : ((n : Int) == 0) = false := by simp; omega
  clear b0 b1 hbel hrow ln hLN hLT hZs hx hok hh e0 hxa hxn hxc hxv q1 q2 hr0 hsb hn0
  go_enter Tryd.func29, Tryd.ntmps29
  go_upto_region 4 with (fail)
  generalize (w.alloc (.cells LT.toArray 35)).alloc (.cells Z 38) = W0 at HB8 HBEL HKS HOF ⊢
  obtain ⟨B4, hB4⟩ : ∃ B, B = w.heap.size := ⟨_, rfl⟩
  obtain ⟨B8, hB8⟩ : ∃ B, B = w.heap.size + 1 := ⟨_, rfl⟩
  rw [← hB8] at HB8 HKS ⊢
  rw [← hB4] at HKS ⊢
  have EB := Lib.hid (And.intro hB4 hB8)
  clear hB4 hB8
  have hKept0 : Kept (fun _ => False) W0 W0.drew := (Kept.refl _ _).drew
  have hS0 := HKS.out W0 (Kept.refl _ _)
  refine wp_region_noPanic ?_
  refine wp_region_held_drew (S := (fun v => v.rangeAt B4 0 LT ∧ v.cell? ⟨sb, so + 32, none⟩ = some (.slice xa xn xc) ∧ v.cell? ⟨sb, so + 33, none⟩ = some (.int .u64 (xv : Int)))) (by kernel_rfl) hS0 (fun hH0 => ?_)
  refine wpAnyH_take (i := 0) (v := (.agg LT.toArray)) rfl (by kernel_rfl) (by kernel_rfl) (by kernel_rfl) (fun _ _ _ h => h) (yieldsIf_load_mid (by kernel_rfl) 35 (.tmp 4) rfl B4 0 rfl LT _ (fun w' h => h.1) Tryd.underlying35 rfl SZT.out) hH0 ?_
  simp only [Act.put, List.getElem_toArray, List.getElem_cons_zero, List.getElem_cons_succ, List.setIfInBounds_toArray, List.set_cons_zero, List.set_cons_succ]
  refine wpAnyH_take (i := 1) (v := ((.slice (some ⟨sb, so, none⟩) n c))) rfl (by kernel_rfl) (by kernel_rfl) (by kernel_rfl) (fun _ _ _ h => h) (Or.inl ⟨by kernel_rfl, by intro w' hS; obtain ⟨z0, z1, z2⟩ := hS; go_simp⟩) hH0 ?_
  simp only [Act.put, List.getElem_toArray, List.getElem_cons_zero, List.getElem_cons_succ, List.setIfInBounds_toArray, List.set_cons_zero, List.set_cons_succ]
  refine wpAnyH_take (i := 2) (v := ((.pointer (some ⟨sb, so, none⟩)))) rfl (by kernel_rfl) (by kernel_rfl) (by kernel_rfl) (fun _ _ _ h => h) (Or.inl ⟨by kernel_rfl, by intro w' hS; obtain ⟨z0, z1, z2⟩ := hS; go_simp⟩) hH0 ?_
  simp only [Act.put, List.getElem_toArray, List.getElem_cons_zero, List.getElem_cons_succ, List.setIfInBounds_toArray, List.set_cons_zero, List.set_cons_succ]
  refine wpAnyH_take (i := 3) (v := ((.pointer (some ⟨sb, so + 32, none⟩)))) rfl (by kernel_rfl) (by kernel_rfl) (by kernel_rfl) (fun _ _ _ h => h) (Or.inl ⟨by kernel_rfl, by intro w' hS; obtain ⟨z0, z1, z2⟩ := hS; go_simp⟩) hH0 ?_
  simp only [Act.put, List.getElem_toArray, List.getElem_cons_zero, List.getElem_cons_succ, List.setIfInBounds_toArray, List.set_cons_zero, List.set_cons_succ]
  refine wpAnyH_take (i := 4) (v := ((.slice xa xn xc))) rfl (by kernel_rfl) (by kernel_rfl) (by kernel_rfl) (fun _ _ _ h => h) (Or.inl ⟨by kernel_rfl, by intro w' hS; obtain ⟨z0, z1, z2⟩ := hS; go_simp⟩) hH0 ?_
  simp only [Act.put, List.getElem_toArray, List.getElem_cons_zero, List.getElem_cons_succ, List.setIfInBounds_toArray, List.set_cons_zero, List.set_cons_succ]
  refine wpAnyH_take (i := 5) (v := ((.slice (some ⟨sb, so, none⟩) n c))) rfl (by kernel_rfl) (by kernel_rfl) (by kernel_rfl) (fun _ _ _ h => h) (Or.inl ⟨by kernel_rfl, by intro w' hS; obtain ⟨z0, z1, z2⟩ := hS; go_simp⟩) hH0 ?_
  simp only [Act.put, List.getElem_toArray, List.getElem_cons_zero, List.getElem_cons_succ, List.setIfInBounds_toArray, List.set_cons_zero, List.set_cons_succ]
  refine wpAnyH_take (i := 6) (v := ((.pointer (some ⟨sb, so, none⟩)))) rfl (by kernel_rfl) (by kernel_rfl) (by kernel_rfl) (fun _ _ _ h => h) (Or.inl ⟨by kernel_rfl, by intro w' hS; obtain ⟨z0, z1, z2⟩ := hS; go_simp⟩) hH0 ?_
  simp only [Act.put, List.getElem_toArray, List.getElem_cons_zero, List.getElem_cons_succ, List.setIfInBounds_toArray, List.set_cons_zero, List.set_cons_succ]
  refine wpAnyH_take (i := 7) (v := ((.pointer (some ⟨sb, so + 33, none⟩)))) rfl (by kernel_rfl) (by kernel_rfl) (by kernel_rfl) (fun _ _ _ h => h) (Or.inl ⟨by kernel_rfl, by intro w' hS; obtain ⟨z0, z1, z2⟩ := hS; go_simp⟩) hH0 ?_
  simp only [Act.put, List.getElem_toArray, List.getElem_cons_zero, List.getElem_cons_succ, List.setIfInBounds_toArray, List.set_cons_zero, List.set_cons_succ]
  refine wpAnyH_take (i := 8) (v := ((.int .u64 (xv : Int)))) rfl (by kernel_rfl) (by kernel_rfl) (by kernel_rfl) (fun _ _ _ h => h) (Or.inl ⟨by kernel_rfl, by intro w' hS; obtain ⟨z0, z1, z2⟩ := hS; go_simp⟩) hH0 ?_
  simp only [Act.put, List.getElem_toArray, List.getElem_cons_zero, List.getElem_cons_succ, List.setIfInBounds_toArray, List.set_cons_zero, List.set_cons_succ]
  refine wpAnyH_ready (rs := [9]) (by kernel_rfl) (by simp) ?_
  refine AllReadyH.cons rfl (fun K hK => ?_) AllReadyH.nil
  go_simp
  refine (HOF.out _ hKept0).mono ?_
  rintro _ x1 ⟨rfl, hc1⟩
  have hk1 : Kept (fun _ => False) W0 x1 := hKept0.trans (Kept.of_below hc1)
  have hs1 := HKS.out _ (hk1.mono (S' := (· = B8)) (fun _ _ h => h.elim))
  have hz1 := HB8.out.kept hk1 (fun h => h)
  have HTH := Lib.hid (hz1.there 0 33 (by rw [EZ.out]; decide))
  obtain ⟨hr3, hkr⟩ := rset hz1 (show Z.size = LN.length by rw [EZ.out, HLNL.out])
  have hkk := (hk1.mono (S' := (· = B8)) (fun _ _ h => h.elim)).trans hkr
  have HS4 := Lib.hid (HKS.out _ hkk)
  have HFIN := Lib.hid (And.intro hr3 (HBEL.out.trans (hkk.below HBEL.out.size (fun k e => by have e' : k = B8 := e; have := EB.out; omega))))
  clear hc1 hz1 hr3 hkr hkk
  refine Shut.out hK _ _ hs1 (fun hH1 => ?_)
  clear hK K
  try simp only [Act.put, List.getElem_toArray, List.getElem_cons_zero, List.getElem_cons_succ, List.setIfInBounds_toArray, List.set_cons_zero, List.set_cons_succ]
  refine wpAnyH_ready (rs := [10]) (by kernel_rfl) (by simp) ?_
  refine AllReadyH.cons rfl (fun K hK => ?_) AllReadyH.nil
  refine step_store_mid rfl 38 (.tmp 8) (.tmp 31) rfl B8 0 LN.toArray rfl rfl (by rw [List.size_toArray, HLNL.out]; exact HTH.out) SZN.out ONEN.out ?_
  refine Shut.out hK _ _ HS4.out (fun hH2 => ?_)
  clear hK K
  try simp only [Act.put, List.getElem_toArray, List.getElem_cons_zero, List.getElem_cons_succ, List.setIfInBounds_toArray, List.set_cons_zero, List.set_cons_succ]
  refine wpAnyH_done (by kernel_rfl) ?_ _
  refine NoPanic.normal ?_
  clear hS0 hH0 hH1 hH2 hs1 hk1 hat hne
  go_wp2_with fail
  refine bodyPost_ret (results_cell_row rfl _ _ B8 38 LN.toArray (0, 0) _ rfl HFIN.out.1 Tryd.underlying38 rfl SZN.out) rfl ?_
  exact ⟨rfl, HFIN.out.2⟩
end Go.Proofs.YtcpomddkehhkkaaDoor

/- The walk of the reference's Part, one height more. -/
namespace Go.Proofs.YtcpomddkehhkkaaDoor
set_option linter.unusedVariables false
set_option linter.unusedSimpArgs false
open Go.ChangeShapes Go.WideShapes Go.ChangeAt Go.RowKit Go.Maps

theorem info_leafR : (Tryd.prog.info? 63).map (fun i => (i.zero, i.size, i.bytes)) = some (some (.agg (Sel.cells ⟨List.replicate 32 0, none, 0, [], 0, z32k⟩).toArray), 34, 64) := by kernel_rfl
theorem own_sels {v : World} {B n c : Nat} {A : Option Addr} {ys : List Sel} (h : v.ownsRow B 63 34 (.slice A n c) ys.length (ys.flatMap Sel.cells)) (hok : ∀ y ∈ ys, y.ok v) (hn : ys.length ≤ 1000000) : SelsAt v A n ys := by
  have hlen : n = ys.length := by
    rcases h.2 with ⟨e, h0⟩ | ⟨_, _, _, e, _⟩
    · injection e with e1 e2 e3 <;> omega
    · injection e with e1 e2 e3 <;> omega
  refine ⟨hlen.symm, by omega, hok, fun hpos => ?_⟩
  obtain ⟨gs, cap, cur, e, hB, hh, h1, h2, h3, h4⟩ := own_open h (by omega)
  injection e with e1 e2 e3
  refine ⟨gs, 0, e1, hh.lt, fun i x hi j u hu => ?_⟩
  have hj := (List.getElem?_eq_some_iff.1 hu).1
  rw [Sel.len'] at hj
  have hil := (List.getElem?_eq_some_iff.1 hi).1
  rw [Nat.zero_add]
  refine hh.cell_is ?_
  have hlt : i * 34 + j < ys.length * 34 := by
    have : (i + 1) * 34 ≤ ys.length * 34 := Nat.mul_le_mul_right 34 hil
    omega
  rw [h4 _ hlt, flat_getK Sel.cells 34 Sel.len' ys i j x hi hj]
  exact hu
theorem at_side (B b : Nat) (hb : b < 2) (w : World) : (Instr.indexAt 114 (.pointer (some ⟨B, 0, none⟩)) (.int .i64 (b : Int))).run Tryd.prog w = .ok (.pointer (some ⟨B, b, none⟩)) w := by
  have hu : Tryd.prog.underlying 114 = some (.array (Tryd.prog.arrayLen 114) (Tryd.prog.elem 114)) := by kernel_rfl
  have hl : Tryd.prog.arrayLen 114 = 2 := by kernel_rfl
  have he : Tryd.prog.elem 114 = 60 := by kernel_rfl
  have hz : ∀ w, (sizeOf 60).run Tryd.prog w = .ok 1 w := fun w => by kernel_rfl
  rw [run_indexAt_array w 114 ⟨B, 0, none⟩ .i64 (b : Int) hu, hl, if_pos ⟨by omega, by omega⟩, he, hz]
  simp only [Result.andThen, Int.toNat_natCast, Nat.mul_one, Addr.add_mid, Nat.zero_add]
/-- while the leaves are parted. -/
def PInv (xs : List Sel) (h B4 B8 B9 : Nat) (LT : List Value) (Z : Array Value) (w wr : World) (k : Nat) : Prop :=
  ∃ f, SideAt wr B9 f (fun b => sideS (xs.take k) h b) ∧ Has wr B4 35 LT.toArray ∧ Has wr B8 38 Z ∧ Below w.heap.size w wr
theorem PInv.kept {xs : List Sel} {h B4 B8 B9 : Nat} {LT : List Value} {Z : Array Value} {w wr v : World} {k : Nat} (hp : PInv xs h B4 B8 B9 LT Z w wr k) (hk : Kept (fun _ => False) wr v) : PInv xs h B4 B8 B9 LT Z w v k := by
  obtain ⟨f, h1, h2, h3, h4⟩ := hp
  exact ⟨f, h1.kept hk (fun _ _ _ h => h), h2.kept hk (fun h => h), h3.kept hk (fun h => h), h4.trans (hk.below h4.size (fun _ h => h.elim))⟩
theorem side_start (w : World) : SideAt (w.alloc (.cells #[.slice none 0 0, .slice none 0 0] 114)) w.heap.size (fun _ => .slice none 0 0) (fun _ => []) :=
  ⟨Has.new w _ _, fun b _ => World.ownsRow_nil _ _ _ _, fun j e => by simp [Value.ownBlock] at e⟩
theorem side_next (xs : List Sel) (k : Nat) (x : Sel) (hx : xs[k]? = some x) (h b : Nat) (hb : b = bitAt x.key h) : (fun c => sideS (xs.take (k + 1)) h c) = upd (fun c => sideS (xs.take k) h c) b (sideS (xs.take k) h b ++ [x]) := by
  funext c
  rw [sideS_snoc xs k x hx h c]
  by_cases e : bitAt x.key h = c
  · rw [if_pos e, ← e, ← hb, upd_same]
  · rw [if_neg e, upd_other _ _ (by omega)]
/-- one leaf more: what an append and a store leave. -/
theorem PInv.push {xs : List Sel} {h B4 B8 B9 : Nat} {LT : List Value} {Z : Array Value} {w wr : World} {k : Nat} {f : Nat → Value} {x : Sel} {b : Nat}
    (hs : SideAt wr B9 f (fun b => sideS (xs.take k) h b)) (h4 : Has wr B4 35 LT.toArray) (h8 : Has wr B8 38 Z) (hbel : Below w.heap.size w wr) (hlt4 : B4 < B9) (hlt8 : B8 < B9) (hw : w.heap.size ≤ B9)
    (hx : xs[k]? = some x) (hb : b = bitAt x.key h) {Bx : Nat} {t : TypeId} {LX : List Value} (hX : Has wr Bx t LX.toArray) (hLX : LX = x.cells) (ht1 : t = 63) (hown0 : ∀ j, (f b).ownBlock = some j → j ≠ Bx) (hxb : Bx ≠ B9)
    {fa : Option Addr} {fn fc : Nat} (hf : f b = .slice fa fn fc) (hfn : fn = (sideS (xs.take k) h b).length) (g6 cap6 : Nat) (w6 : World)
    (hown : w6.ownsRow B9 63 34 (.slice (some ⟨g6, 0, none⟩) (fn + 1) cap6) (fn + 1) ((sideS (xs.take k) h b).flatMap Sel.cells ++ LX)) (hg : wr.grownBy w6 (Value.slice fa fn fc).ownBlock) (hat : (Value.slice fa fn fc).ownBlock = some g6 ∨ g6 = wr.heap.size) :
    PInv xs h B4 B8 B9 LT Z w (w6.setCell ⟨B9, b, none⟩ (.slice (some ⟨g6, 0, none⟩) (fn + 1) cap6)) (k + 1) ∧ w6.rangeAt Bx 0 LX ∧ (w6.setCell ⟨B9, b, none⟩ (.slice (some ⟨g6, 0, none⟩) (fn + 1) cap6)).rangeAt Bx 0 LX ∧ w6.frozen? ⟨B9, b, none⟩ = false ∧ ∃ v, w6.cell? ⟨B9, b, none⟩ = some v := by
  have hb2 : b < 2 := by rw [hb]; exact bitAt_lt _ _
  subst hfn hLX
  rw [← hf] at hg hat
  obtain ⟨p1, p2⟩ := hs.push (x := x) hb2 hg hown hat
  have hk6 : Kept (fun j => (f b).ownBlock = some j) wr w6 := (Kept.refl _ wr).grown hg (fun k e => .inl e)
  have hneB : ∀ j, (f b).ownBlock = some j → j ≠ B9 := own_has_ne (hs.own b hb2) hs.blk (by decide)
  have hblk6 := hs.blk.kept hk6 (fun e => hneB B9 e rfl)
  have hX6 := hX.kept hk6 (fun e => hown0 Bx e rfl)
  have hkc : Kept (· = B9) w6 (w6.setCell ⟨B9, b, none⟩ (.slice (some ⟨g6, 0, none⟩) ((sideS (xs.take k) h b).length + 1) cap6)) := (Kept.refl (· = B9) w6).set (p := ⟨B9, b, none⟩) (.inl rfl) _
  refine ⟨⟨upd f b (.slice (some ⟨g6, 0, none⟩) ((sideS (xs.take k) h b).length + 1) cap6), ?_, h4.kept p2 (by omega), h8.kept p2 (by omega), hbel.trans (p2.below hbel.size (fun j e => by have e' : B9 ≤ j := e; omega))⟩, hX6.row0, (hX6.kept hkc hxb).row0, hblk6.free _, ?_⟩
  · rw [side_next xs k x hx h b hb]
    exact p1
  · have : b = 0 ∨ b = 1 := by omega
    rcases this with rfl | rfl
    · exact ⟨f 0, hblk6.cell_is rfl⟩
    · exact ⟨f 1, hblk6.cell_is rfl⟩
set_option maxRecDepth 100000 in
set_option maxHeartbeats 8000000 in
theorem rpart_step (K s0 : List Wd) (hK : K.length = 64) (hs0 : s0.length = 8) (ge ce h : Nat) (hh : h + 1 ≤ 256)
    (ih : ∀ (w : World) (A : Option Addr) (n c : Nat) (xs : List Sel), SelsAt w A n xs → n ≤ 1000 → EmpAt w K s0 ge → sumS xs < 18446744073709551616 → PartC K s0 ge ce h w A n c xs)
    (w : World) (A : Option Addr) (n c : Nat) (xs : List Sel) (hx : SelsAt w A n xs) (hn : n ≤ 1000) (he : EmpAt w K s0 ge) (hsum : sumS xs < 18446744073709551616) (hn0 : 0 < n) : PartC K s0 ge ce (h + 1) w A n c xs := by
  unfold PartC
  obtain ⟨sb, so, hA, hsb, hrow⟩ := hx.at_ hn0
  subst hA
  obtain ⟨Z, hz, hZs, hZn, -⟩ := rn_zero
  obtain ⟨ZL, hzl, hZLs, hZLn⟩ := zero_sel
  obtain ⟨isl, hil, hil0, hil1, hil2⟩ := info_parts info_leafR
  obtain ⟨LT, hLT⟩ : ∃ L, L = tabsL s0 K := ⟨_, rfl⟩
  obtain ⟨LN, hLN⟩ : ∃ L, L = ndV (partNd K s0 (h + 1) (xs.map Sel.leaf)) := ⟨_, rfl⟩
  have ln : LN.length = 33 := by rw [hLN]; exact ndV_len (part_hash K s0 hs0 _ _)
  rw [← hLN, ← hLT]
  obtain ⟨H, hH⟩ : ∃ H : Int, H = ((h + 1 : Nat) : Int) := ⟨_, rfl⟩
  rw [← hH]
  have hHb : 1 ≤ H ∧ H ≤ 256 := by omega
  have hsub : H - 1 = (h : Int) := by omega
  have hHz : (H == 0) = false := by simp; omega
  obtain ⟨b0, b1, hbel, hsz⟩ := part_start w LT Z
  have HX := Lib.hid hx
  have HE := Lib.hid he
  have HROW := Lib.hid hrow
  have HSB := Lib.hid hsb
  have HB4 := Lib.hid b0
  have HB8 := Lib.hid b1
  have HBEL := Lib.hid hbel
  have HSZ0 := Lib.hid hsz
  have EZ := Lib.hid hZs
  have EZL := Lib.hid hZLs
  have HLNL := Lib.hid ln
  have ELN := Lib.hid hLN
  have ELT := Lib.hid hLT
  have EH := Lib.hid hH
  have HL := Lib.hid (And.intro hK hs0)
  have HIH := Lib.hid ih
  have HSUM := Lib.hid hsum
  have HN := Lib.hid (And.intro hn hn0)
  have SZT := Lib.hid (show (Tryd.prog.info? 35).map (·.size) = some LT.length by rw [hLT, tabs_length K s0 hK hs0]; kernel_rfl)
  have SZN := Lib.hid (show (Tryd.prog.info? 38).map (·.size) = some LN.toArray.size by rw [List.size_toArray, ln]; kernel_rfl)
  have ONEN := Lib.hid (show LN.toArray.all (·.oneCell') = true by rw [hLN]; exact ndV_one _)
  have HZ34 := Lib.hid (show (Value.agg (Sel.cells ⟨List.replicate 32 0, none, 0, [], 0, z32k⟩).toArray).cells.size = 34 by kernel_rfl)
  have hne : ((n : Int) == 0) = false := by simp; omega
  have hnn : (n : Int) ≤ 1000 := by omega
  clear b0 b1 hbel hsz hrow ln hLN hLT hZs hZLs hx he hsb hH hK hs0 ih hsum hn hn0 hh
  go_enter Tryd.func29, Tryd.ntmps29
  go_upto_region 5 with (fail)
  generalize (w.alloc (.cells LT.toArray 35)).alloc (.cells Z 38) = W0 at HB4 HB8 HBEL HSZ0 ⊢
  obtain ⟨B4, hB4⟩ : ∃ B, B = w.heap.size := ⟨_, rfl⟩
  obtain ⟨B8, hB8⟩ : ∃ B, B = w.heap.size + 1 := ⟨_, rfl⟩
  rw [← hB8] at HB8 ⊢
  rw [← hB4] at HB4 ⊢
  have EB := Lib.hid (And.intro hB4 hB8)
  clear hB4 hB8
  go_wp2_with fail
  obtain ⟨B9, hB9⟩ : ∃ B, B = W0.heap.size := ⟨_, rfl⟩
  have hal : Kept (fun _ => False) W0 (W0.alloc (.cells #[.slice none 0 0, .slice none 0 0] 114)) := (Kept.refl _ _).alloc _
  have hst : PInv xs h B4 B8 B9 LT Z w (W0.alloc (.cells #[.slice none 0 0, .slice none 0 0] 114)) 0 :=
    ⟨fun _ => .slice none 0 0, by rw [hB9, List.take_zero]; exact side_start W0, HB4.out.kept hal (fun h => h), HB8.out.kept hal (fun h => h), HBEL.out.trans (hal.below HBEL.out.size (fun _ h => h.elim))⟩
  have HST := Lib.hid hst
  have EB9 := Lib.hid (show B9 = w.heap.size + 2 by rw [hB9, HSZ0.out])
  rw [← hB9]
  clear hal hst hB9 HB4 HB8
  go_loopw [35] (fun i wr => ∃ k : Nat, i = .int .i64 (k : Int) ∧ k ≤ n ∧ PInv xs h B4 B8 B9 LT Z w wr k) (fun i _ => n - (intOf i).toNat)
  case atStart => exact ⟨0, rfl, Nat.zero_le _, HST.out⟩
  case round =>
    clear HST
    obtain ⟨k, rfl, hk, hinv⟩ := hrel
    have HI := Lib.hid hinv
    clear hinv
    by_cases hlt : k < n
    · obtain ⟨x, hx⟩ : ∃ x, xs[k]? = some x := ⟨_, List.getElem?_eq_getElem (by rw [HX.out.len]; exact hlt)⟩
      have hbel : Below w.heap.size w wr := by obtain ⟨f, _, _, _, h⟩ := HI.out; exact h
      have hrw := rangeAt_kept (HROW.out k x hx) (Kept.of_below (S := fun _ => False) hbel) (fun h => h)
      obtain ⟨LX, hLX⟩ : ∃ L, L = x.cells := ⟨_, rfl⟩
      obtain ⟨LK, hLK⟩ : ∃ L, L = bcells x.key := ⟨_, rfl⟩
      have lx : LX.length = 34 := by rw [hLX]; exact Sel.len' x
      have lk : LK.length = 32 := by rw [hLK, bcells_length, x.h.1]
      rw [← hLX] at hrw
      obtain ⟨b, hb⟩ : ∃ b, b = bitAt x.key h := ⟨_, rfl⟩
      have hb2 : b < 2 := by rw [hb]; exact bitAt_lt _ _
      have HBIT := Lib.hid (show ∀ y, Calls Tryd.prog 49 #[.agg LK.toArray, .int .i64 (h : Int)] y fun e w' => e = .returned (.int .i64 (b : Int)) ∧ Below y.heap.size y w' from fun y => by
        rw [hLK]
        exact (refBit_in x.key (h : Int) y x.h (by omega) (by have := EH.out; omega)).mono fun e w' ⟨h1, h2⟩ => ⟨by rw [h1, Int.toNat_natCast, hb], by rw [h2]; exact (Below.refl _ _).alloc (Nat.le_refl _) _⟩)
      have HRW := Lib.hid hrw
      have HXK := Lib.hid hx
      have HLX := Lib.hid lx
      have ELX := Lib.hid hLX
      have ELK := Lib.hid hLK
      have EBX := Lib.hid hb
      have HB2 := Lib.hid hb2
      have SZX := Lib.hid (show (Tryd.prog.info? 63).map (·.size) = some LX.length by rw [lx]; kernel_rfl)
      have SZXA := Lib.hid (show (Tryd.prog.info? 63).map (·.size) = some LX.toArray.size by rw [List.size_toArray]; exact SZX.out)
      have SZK := Lib.hid (show (Tryd.prog.info? 26).map (·.size) = some LK.length by rw [lk]; kernel_rfl)
      have HONEX := Lib.hid (show ∀ u ∈ LX, u.oneCell' = true by rw [hLX]; exact Sel.one x)
      have ONEXA := Lib.hid (show LX.toArray.all (·.oneCell') = true from all_oneCell_toArray HONEX.out)
      have HZX := Lib.hid (show ZL.size = LX.toArray.size by rw [EZL.out, List.size_toArray, lx])
      have h9 := Has.new wr 63 ZL
      have hw9 : Has ((wr.alloc (.cells ZL 63)).setRow wr.heap.size LX.toArray) wr.heap.size 63 LX.toArray ∧ Kept (fun _ => False) wr ((wr.alloc (.cells ZL 63)).setRow wr.heap.size LX.toArray) := by
        rw [World.setRow_alloc_new]
        exact ⟨Has.new _ _ _, (Kept.refl _ _).alloc _⟩
      have H9 := Lib.hid h9
      have HW9 := Lib.hid hw9
      have HK2 := Lib.hid (show k + 1 ≤ n ∧ n - (k + 1) < n - k by omega)
      have HWK := Lib.hid (wrap64_succ k (by have := HN.out; omega))
      have hlt' : (k : Int) < (n : Int) := by omega
      have hat := at_sel sb so n c k hlt
      clear hbel hrw hx hLX hLK hb hb2 lx lk h9 hw9 hlt hk
      go_upto_region 9 with (first
        | (refine wpList_load_mid rfl 63 (.tmp 37) rfl sb (so + k * 34) rfl LX _ HRW.out Tryd.underlying63 rfl SZX.out ?_)
        | (refine wpList_store_row rfl 63 (.tmp 11) (.tmp 38) rfl wr.heap.size LX.toArray rfl rfl 63 ZL H9.out SZXA.out HZX.out ONEXA.out ?_))
      generalize (wr.alloc (.cells ZL 63)).setRow wr.heap.size LX.toArray = W9 at HW9 ⊢
      obtain ⟨Bx, hBx⟩ : ∃ B, B = wr.heap.size := ⟨_, rfl⟩
      rw [← hBx] at HW9 ⊢
      have EBXX := Lib.hid hBx
      have HKX := Lib.hid (show W9.rangeAt Bx 0 LK from fun j u hu => by
        rw [Nat.zero_add]
        refine HW9.out.1.cell_is ?_
        rw [List.getElem?_toArray, ELX.out, Sel.cells, List.getElem?_append_left (by rw [← ELK.out]; exact (List.getElem?_eq_some_iff.1 hu).1), ← ELK.out]
        exact hu)
      clear hBx H9 HRW
      go_wp2_with (refine wpList_load_mid rfl 26 (.tmp 39) rfl Bx 0 rfl LK _ HKX.out Tryd.underlying26 rfl SZK.out ?_)
      refine (HBIT.out _).mono ?_
      rintro _ y ⟨rfl, hy⟩
      have HKY := Lib.hid (show Kept (fun _ => False) wr y from HW9.out.2.trans (Kept.of_below hy))
      have HXY := Lib.hid (HW9.out.1.kept (Kept.of_below (S := fun _ => False) hy) (fun h => h))
      clear hy HKX HW9
      go_upto_region 10 with (fail)
      obtain ⟨W10, hW10⟩ : ∃ W, W = y := ⟨_, rfl⟩
      subst hW10
      have hKd : Kept (fun _ => False) W10 ((W10.alloc (.cells LX.toArray 63)).drew) := ((Kept.refl _ _).alloc _).drew
      obtain ⟨f, hsr, h4r, h8r, hbelr⟩ := HI.out
      have hs10 := hsr.kept HKY.out (fun _ _ _ h => h)
      have hsd := hs10.kept hKd (fun _ _ _ h => h)
      have h4 := h4r.kept (HKY.out.trans hKd) (fun h => h)
      have h8 := h8r.kept (HKY.out.trans hKd) (fun h => h)
      have hbel := hbelr.trans ((HKY.out.trans hKd).below hbelr.size (fun _ h => h.elim))
      have hb2 := HB2.out
      obtain ⟨fa, fc, hf⟩ := own_form (hsd.own b hb2)
      obtain ⟨fn, hfn⟩ : ∃ m, m = (sideS (xs.take k) h b).length := ⟨_, rfl⟩
      obtain ⟨FC, hFC⟩ : ∃ L, L = (sideS (xs.take k) h b).flatMap Sel.cells := ⟨_, rfl⟩
      have hownb := hsd.own b hb2
      rw [hf] at hownb
      change ((W10.alloc (.cells LX.toArray 63)).drew).ownsRow B9 63 34 (.slice fa (sideS (xs.take k) h b).length fc) (sideS (xs.take k) h b).length ((sideS (xs.take k) h b).flatMap Sel.cells) at hownb
      rw [← hfn] at hf
      rw [← hfn, ← hFC] at hownb
      have hfle : fn ≤ 1000 := by
        have h1 := sideS_len (xs.take k) h b
        have h2 := List.length_take_le k xs
        have h3 := HK2.out.1
        have h5 := HN.out.1
        omega
      have hcB : ∀ v, Kept (fun _ => False) W10 v → v.cell? ⟨B9, b, none⟩ = some (.slice fa fn fc) := fun v hk => by
        have hb0 := hs10.blk
        have hbv := hb0.kept hk (fun h => h)
        have : b = 0 ∨ b = 1 := by omega
        rcases this with rfl | rfl
        · rw [← hf]; exact hbv.cell_is rfl
        · rw [← hf]; exact hbv.cell_is rfl
      have hd1 : W10.cell? ⟨B9, b, none⟩ = some (.slice fa fn fc) := hcB W10 (Kept.refl _ _)
      have hd2 : (W10.alloc (.cells LX.toArray 63)).cell? ⟨B9, b, none⟩ = some (.slice fa fn fc) := hcB _ ((Kept.refl _ _).alloc _)
      have hS0 : W10.rangeAt Bx 0 LX := HXY.out.row0
      have hXd := HXY.out.kept hKd (fun h => h)
      have hSb : ((W10.alloc (.cells LX.toArray 63)).drew).rangeAt Bx 0 LX := hXd.row0
      have hne9 : Bx ≠ B9 := HXY.out.ne hs10.blk (by decide)
      have hneo : ∀ j, (f b).ownBlock = some j → j ≠ Bx := fun j e => by
        have h1 : j < wr.heap.size := by
          rcases (hsr.own b hb2).2 with ⟨e4, _⟩ | ⟨gs, cap, cur, e4, g1, g2, _⟩
          · rw [e4] at e; simp [Value.ownBlock] at e
          · rw [e4] at e
            obtain rfl : gs = j := by simpa [Value.ownBlock] using e
            exact (Array.getElem?_eq_some_iff.1 g2).1
        have := EBXX.out
        omega
      have hpush := PInv.push (x := x) hsd h4 h8 hbel (by have h1 := EB.out; have h2 := EB9.out; omega) (by have h1 := EB.out; have h2 := EB9.out; omega) (by have h2 := EB9.out; omega) HXK.out EBX.out hXd ELX.out rfl hneo hne9 hf hfn
      rw [← hFC] at hpush
      have HPUSH := Lib.hid hpush
      have HOWB := Lib.hid hownb
      have HNEW := Lib.hid (World.news_of_block (w := (W10.alloc (.cells LX.toArray 63)).drew) (cs := LX.toArray) (t := 63) (fr := (0, 0)) (heap_alloc_new W10 _))
      have HML := Lib.hid (show fn + 1 ≤ maxLen by unfold maxLen; omega)
      have HBY := Lib.hid (show (fn + 1) * 64 ≤ 140737488355328 by omega)
      have HBS := Lib.hid (show B9 ≤ ((W10.alloc (.cells LX.toArray 63)).drew).heap.size from Nat.le_of_lt hsd.blk.lt)
      have hidx : ∀ w, (Instr.indexAt 114 (.pointer (some ⟨B9, 0, none⟩)) (.int .i64 (b : Int))).run Tryd.prog w = .ok (.pointer (some ⟨B9, b, none⟩)) w := fun w => at_side B9 b hb2 w
      have hbi : (b : Int) < 2 := by omega
      clear hsr h4r h8r hbelr hs10 hsd h4 h8 hbel hownb hf hfn hFC hfle hcB hXd hne9 hneo hpush hKd hat hlt' hb2
      refine wp_region_noPanic ?_
      refine wp_region_held_drew (S := (fun v => v.rangeAt Bx 0 LX)) (by kernel_rfl) hS0 (fun hH0 => ?_)
      refine wpAnyH_take (i := 0) (v := ((.int .i64 (b : Int)))) rfl (by kernel_rfl) (by kernel_rfl) (by kernel_rfl) (fun _ _ _ h => h) (Or.inl ⟨by kernel_rfl, by intro w' hS; go_simp⟩) hH0 ?_
      simp only [Act.put, List.getElem_toArray, List.getElem_cons_zero, List.getElem_cons_succ, List.setIfInBounds_toArray, List.set_cons_zero, List.set_cons_succ]
      refine wpAnyH_take (i := 1) (v := ((.int .i64 (b : Int)))) rfl (by kernel_rfl) (by kernel_rfl) (by kernel_rfl) (fun _ _ _ h => h) (Or.inl ⟨by kernel_rfl, by intro w' hS; go_simp⟩) hH0 ?_
      simp only [Act.put, List.getElem_toArray, List.getElem_cons_zero, List.getElem_cons_succ, List.setIfInBounds_toArray, List.set_cons_zero, List.set_cons_succ]
      refine wpAnyH_take (i := 2) (v := ((.pointer (some ⟨B9, b, none⟩)))) rfl (by kernel_rfl) (by kernel_rfl) (by kernel_rfl) (fun _ _ _ h => h) (Or.inl ⟨by kernel_rfl, by intro w' hS; go_simp⟩) hH0 ?_
      simp only [Act.put, List.getElem_toArray, List.getElem_cons_zero, List.getElem_cons_succ, List.setIfInBounds_toArray, List.set_cons_zero, List.set_cons_succ]
      refine wpAnyH_take (i := 4) (v := (.agg LX.toArray)) rfl (by kernel_rfl) (by kernel_rfl) (by kernel_rfl) (fun _ _ _ h => h) (yieldsIf_load_mid (by kernel_rfl) 63 (.tmp 11) rfl Bx 0 rfl LX _ (fun w' h => h) Tryd.underlying63 rfl SZX.out) hH0 ?_
      simp only [Act.put, List.getElem_toArray, List.getElem_cons_zero, List.getElem_cons_succ, List.setIfInBounds_toArray, List.set_cons_zero, List.set_cons_succ]
      refine wpAnyH_ready (rs := [3, 5]) (by kernel_rfl) (by simp) ?_
      refine AllReadyH.cons rfl (fun K hK => ?_) (AllReadyH.cons rfl (fun K hK => ?_) AllReadyH.nil)
      · go_simp
        refine Shut.out hK _ _ hH0 (fun hH1 => ?_)
        clear hK K
        try simp only [Act.put, List.getElem_toArray, List.getElem_cons_zero, List.getElem_cons_succ, List.setIfInBounds_toArray, List.set_cons_zero, List.set_cons_succ]
        refine wpAnyH_ready (rs := [5]) (by kernel_rfl) (by simp) ?_
        refine AllReadyH.cons rfl (fun K hK => ?_) AllReadyH.nil
        refine step_build1 (by rfl) 60 63 (.tmp 48) (by rfl) isl _ Tryd.underlying60 hil hil0 LX (by rw [hil1, HLX.out]) (by rw [HLX.out]; kernel_rfl) (by rw [HLX.out]; decide) (by rw [HLX.out]; decide) (by rfl) ?_
        refine Shut.out hK _ _ hSb (fun hH2 => ?_)
        clear hK K
        try simp only [Act.put, List.getElem_toArray, List.getElem_cons_zero, List.getElem_cons_succ, List.setIfInBounds_toArray, List.set_cons_zero, List.set_cons_succ]
        refine wpAnyH_ready (rs := [6]) (by kernel_rfl) (by simp) ?_
        refine AllReadyH.cons rfl (fun K hK => ?_) AllReadyH.nil
        refine step_append_stays (by rfl) _ _ 60 (by rfl) B9 63 isl _ 34 64 Tryd.underlying60 hil hil0 hil1 hil2 HZ34.out (by decide) (.slice fa fn fc) fn FC (by rfl) HOWB.out ⟨W10.heap.size, 0, none⟩ 1 1 LX (by rfl) (by rw [HLX.out]) HNEW.out HONEX.out (by decide) HML.out HBY.out HBS.out _ rfl ?_
        intro g6 cap6 w6 hown6 hgr6 hat6 hlt6 hsy6
        obtain ⟨hfin6, hS6, hS8, hfr6, v6, hce6⟩ := HPUSH.out g6 cap6 w6 hown6 hgr6 hat6
        clear hown6 hgr6 hat6 hlt6 hsy6
        refine Shut.out hK _ _ hS6 (fun hH3 => ?_)
        clear hK K
        try simp only [Act.put, List.getElem_toArray, List.getElem_cons_zero, List.getElem_cons_succ, List.setIfInBounds_toArray, List.set_cons_zero, List.set_cons_succ]
        refine wpAnyH_take (i := 7) (v := ((.pointer (some ⟨B9, b, none⟩)))) rfl (by kernel_rfl) (by kernel_rfl) (by kernel_rfl) (fun _ _ _ h => h) (Or.inl ⟨by kernel_rfl, by intro w' hS; go_simp⟩) hH3 ?_
        simp only [Act.put, List.getElem_toArray, List.getElem_cons_zero, List.getElem_cons_succ, List.setIfInBounds_toArray, List.set_cons_zero, List.set_cons_succ]
        refine wpAnyH_ready (rs := [8]) (by kernel_rfl) (by simp) ?_
        refine AllReadyH.cons rfl (fun K hK => ?_) AllReadyH.nil
        go_simp
        refine Shut.out hK _ _ hS8 (fun hH4 => ?_)
        clear hK K
        try simp only [Act.put, List.getElem_toArray, List.getElem_cons_zero, List.getElem_cons_succ, List.setIfInBounds_toArray, List.set_cons_zero, List.set_cons_succ]
        refine wpAnyH_done (by kernel_rfl) ?_ _
        refine NoPanic.normal ?_
        have HFIN := Lib.hid hfin6
        clear hS0 hSb hS6 hS8 hH0 hH1 hH2 hH3 hH4 hd1 hd2 hidx hfr6 hfin6 hce6
        go_wp2
        go_roundw
        case rel => exact ⟨k + 1, by first | rfl | exact congrArg (Value.int .i64) HWK.out, HK2.out.1, HFIN.out⟩
        case measure =>
          first | exact HK2.out.2 | (show n - (intOf (Value.int .i64 (wrap64 ((k : Int) + 1)))).toNat < _; rw [HWK.out]; exact HK2.out.2)
      · refine step_build1 (by rfl) 60 63 (.tmp 48) (by rfl) isl _ Tryd.underlying60 hil hil0 LX (by rw [hil1, HLX.out]) (by rw [HLX.out]; kernel_rfl) (by rw [HLX.out]; decide) (by rw [HLX.out]; decide) (by rfl) ?_
        refine Shut.out hK _ _ hSb (fun hH1 => ?_)
        clear hK K
        try simp only [Act.put, List.getElem_toArray, List.getElem_cons_zero, List.getElem_cons_succ, List.setIfInBounds_toArray, List.set_cons_zero, List.set_cons_succ]
        refine wpAnyH_ready (rs := [3]) (by kernel_rfl) (by simp) ?_
        refine AllReadyH.cons rfl (fun K hK => ?_) AllReadyH.nil
        go_simp
        refine Shut.out hK _ _ hH1 (fun hH2 => ?_)
        clear hK K
        try simp only [Act.put, List.getElem_toArray, List.getElem_cons_zero, List.getElem_cons_succ, List.setIfInBounds_toArray, List.set_cons_zero, List.set_cons_succ]
        refine wpAnyH_ready (rs := [6]) (by kernel_rfl) (by simp) ?_
        refine AllReadyH.cons rfl (fun K hK => ?_) AllReadyH.nil
        refine step_append_stays (by rfl) _ _ 60 (by rfl) B9 63 isl _ 34 64 Tryd.underlying60 hil hil0 hil1 hil2 HZ34.out (by decide) (.slice fa fn fc) fn FC (by rfl) HOWB.out ⟨W10.heap.size, 0, none⟩ 1 1 LX (by rfl) (by rw [HLX.out]) HNEW.out HONEX.out (by decide) HML.out HBY.out HBS.out _ rfl ?_
        intro g6 cap6 w6 hown6 hgr6 hat6 hlt6 hsy6
        obtain ⟨hfin6, hS6, hS8, hfr6, v6, hce6⟩ := HPUSH.out g6 cap6 w6 hown6 hgr6 hat6
        clear hown6 hgr6 hat6 hlt6 hsy6
        refine Shut.out hK _ _ hS6 (fun hH3 => ?_)
        clear hK K
        try simp only [Act.put, List.getElem_toArray, List.getElem_cons_zero, List.getElem_cons_succ, List.setIfInBounds_toArray, List.set_cons_zero, List.set_cons_succ]
        refine wpAnyH_take (i := 7) (v := ((.pointer (some ⟨B9, b, none⟩)))) rfl (by kernel_rfl) (by kernel_rfl) (by kernel_rfl) (fun _ _ _ h => h) (Or.inl ⟨by kernel_rfl, by intro w' hS; go_simp⟩) hH3 ?_
        simp only [Act.put, List.getElem_toArray, List.getElem_cons_zero, List.getElem_cons_succ, List.setIfInBounds_toArray, List.set_cons_zero, List.set_cons_succ]
        refine wpAnyH_ready (rs := [8]) (by kernel_rfl) (by simp) ?_
        refine AllReadyH.cons rfl (fun K hK => ?_) AllReadyH.nil
        go_simp
        refine Shut.out hK _ _ hS8 (fun hH4 => ?_)
        clear hK K
        try simp only [Act.put, List.getElem_toArray, List.getElem_cons_zero, List.getElem_cons_succ, List.setIfInBounds_toArray, List.set_cons_zero, List.set_cons_succ]
        refine wpAnyH_done (by kernel_rfl) ?_ _
        refine NoPanic.normal ?_
        have HFIN := Lib.hid hfin6
        clear hS0 hSb hS6 hS8 hH0 hH1 hH2 hH3 hH4 hd1 hd2 hidx hfr6 hfin6 hce6
        go_wp2
        go_roundw
        case rel => exact ⟨k + 1, by first | rfl | exact congrArg (Value.int .i64) HWK.out, HK2.out.1, HFIN.out⟩
        case measure =>
          first | exact HK2.out.2 | (show n - (intOf (Value.int .i64 (wrap64 ((k : Int) + 1)))).toNat < _; rw [HWK.out]; exact HK2.out.2)
    · obtain rfl : k = n := by omega
      have hno : ¬ (k : Int) < (k : Int) := by omega
      obtain ⟨f, hsd, h4, h8, hbel⟩ := HI.out
      rw [List.take_of_length_le (by rw [HX.out.len]; exact Nat.le_refl _)] at hsd
      obtain ⟨a0, c0, hf0⟩ := own_form (hsd.own 0 (by decide))
      obtain ⟨a1, c1, hf1⟩ := own_form (hsd.own 1 (by decide))
      obtain ⟨n0, hn0⟩ : ∃ m, m = (sideS xs h 0).length := ⟨_, rfl⟩
      obtain ⟨n1, hn1⟩ : ∃ m, m = (sideS xs h 1).length := ⟨_, rfl⟩
      have ho0 := hsd.own 0 (by decide)
      have ho1 := hsd.own 1 (by decide)
      have hblk := hsd.blk
      rw [hf0] at ho0 hblk
      rw [hf1] at ho1 hblk
      change wr.ownsRow B9 63 34 (.slice a0 (sideS xs h 0).length c0) (sideS xs h 0).length ((sideS xs h 0).flatMap Sel.cells) at ho0
      change wr.ownsRow B9 63 34 (.slice a1 (sideS xs h 1).length c1) (sideS xs h 1).length ((sideS xs h 1).flatMap Sel.cells) at ho1
      change Has wr B9 114 #[.slice a0 (sideS xs h 0).length c0, .slice a1 (sideS xs h 1).length c1] at hblk
      have hl0 := sideS_len xs h 0
      have hl1 := sideS_len xs h 1
      have hxl := HX.out.len
      have hbw : ∀ v, Kept (fun _ => False) wr v → Below w.heap.size w v := fun v hk => hbel.trans (hk.below hbel.size (fun _ h => h.elim))
      have hemp : ∀ v, Kept (fun _ => False) wr v → EmpAt v K s0 ge := fun v hk => HE.out.kept (Kept.of_below (S := fun _ => False) (hbw v hk)) (fun h => h)
      have hok : ∀ v, Kept (fun _ => False) wr v → ∀ y ∈ xs, y.ok v := fun v hk y hy => (HX.out.ok y hy).below (hbw v hk)
      have hss := sumS_sides xs h
      have hsum := HSUM.out
      obtain ⟨L0, hL0⟩ : ∃ L, L = ndV (partNd K s0 h ((sideS xs h 0).map Sel.leaf)) := ⟨_, rfl⟩
      obtain ⟨L1, hL1⟩ : ∃ L, L = ndV (partNd K s0 h ((sideS xs h 1).map Sel.leaf)) := ⟨_, rfl⟩
      have hp0 : ∀ v, Kept (fun _ => False) wr v → Calls Tryd.prog 29 #[.agg LT.toArray, .slice (some ⟨ge, 0, none⟩) 257 ce, .slice a0 n0 c0, .int .i64 (h : Int)] v fun e w' => e = .returned (.agg L0.toArray) ∧ Below v.heap.size v w' := fun v hk => by
        have := HIH.out v a0 _ c0 (sideS xs h 0) (own_sels (own_kept ho0 hk (fun _ _ h => h)) (fun y hy => hok v hk y (sideS_mem hy)) (by have := HN.out; omega)) (by have := HN.out; omega) (hemp v hk) (by omega)
        unfold PartC at this
        rw [ELT.out, hL0, hn0]; exact this
      have hp1 : ∀ v, Kept (fun _ => False) wr v → Calls Tryd.prog 29 #[.agg LT.toArray, .slice (some ⟨ge, 0, none⟩) 257 ce, .slice a1 n1 c1, .int .i64 (h : Int)] v fun e w' => e = .returned (.agg L1.toArray) ∧ Below v.heap.size v w' := fun v hk => by
        have := HIH.out v a1 _ c1 (sideS xs h 1) (own_sels (own_kept ho1 hk (fun _ _ h => h)) (fun y hy => hok v hk y (sideS_mem hy)) (by have := HN.out; omega)) (by have := HN.out; omega) (hemp v hk) (by omega)
        unfold PartC at this
        rw [ELT.out, hL1, hn1]; exact this
      have hbr : ∀ v, Calls Tryd.prog 21 #[.agg LT.toArray, .agg L0.toArray, .agg L1.toArray] v fun e w' => e = .returned (.agg LN.toArray) ∧ Below v.heap.size v w' := fun v => by
        have e0 := part_le K s0 h ((sideS xs h 0).map Sel.leaf)
        have e1 := part_le K s0 h ((sideS xs h 1).map Sel.leaf)
        rw [sumS_leaf] at e0 e1
        have := refBranch_is K s0 HL.out.1 HL.out.2 v _ _ _ _ (part_hash K s0 HL.out.2 h ((sideS xs h 0).map Sel.leaf)) (part_hash K s0 HL.out.2 h ((sideS xs h 1).map Sel.leaf)) (show (partNd K s0 h ((sideS xs h 0).map Sel.leaf)).s + (partNd K s0 h ((sideS xs h 1).map Sel.leaf)).s < 18446744073709551616 by omega)
        have e2 : LN = ncells (brNd K s0 (partNd K s0 h ((sideS xs h 0).map Sel.leaf)) (partNd K s0 h ((sideS xs h 1).map Sel.leaf))).h (brNd K s0 (partNd K s0 h ((sideS xs h 0).map Sel.leaf)) (partNd K s0 h ((sideS xs h 1).map Sel.leaf))).s := by
          rw [ELN.out, side_leaf, side_leaf]; rfl
        rw [ELT.out, hL0, hL1, e2]; exact this
      have HP0 := Lib.hid hp0
      have HP1 := Lib.hid hp1
      have HBR := Lib.hid hbr
      have hne94 : B4 ≠ B8 ∧ B9 ≠ B8 := by have h1 := EB.out; have h2 := EB9.out; omega
      have HKS := Lib.hid (show ∀ v, Kept (· = B8) wr v → v.rangeAt B4 0 LT ∧ v.cell? ⟨B9, 0, none⟩ = some (.slice a0 n0 c0) ∧ v.cell? ⟨B9, 1, none⟩ = some (.slice a1 n1 c1) from fun v hk => by
        rw [hn0, hn1]
        exact ⟨(h4.kept hk hne94.1).row0, (hblk.kept hk hne94.2).cell_is rfl, (hblk.kept hk hne94.2).cell_is rfl⟩)
      have HZ12 := Lib.hid h8
      have HBE12 := Lib.hid hbel
      have hwrap : IntKind.i64.wrap (H - 1) = (h : Int) := by rw [hsub, IntKind.wrap_i64]; omega
      have hw64 : wrap64 (H - 1) = (h : Int) := by rw [hsub]; unfold wrap64; omega
      have hwh : IntKind.i64.wrap (h : Int) = (h : Int) := by rw [IntKind.wrap_i64]; omega
      clear hsd h4 h8 hbel hf0 hf1 ho0 ho1 hblk hl0 hl1 hxl hbw hemp hok hss hsum hL0 hL1 hp0 hp1 hbr hne94 hn0 hn1
      go_upto_region 12 with (fail)
      obtain ⟨W12, hW12⟩ : ∃ W, W = wr := ⟨_, rfl⟩
      subst hW12
      have hKept0 : Kept (fun _ => False) W12 W12.drew := (Kept.refl _ _).drew
      have hS0 := HKS.out W12 (Kept.refl _ _)
      refine wp_region_noPanic ?_
      refine wp_region_held_drew (S := (fun v => v.rangeAt B4 0 LT ∧ v.cell? ⟨B9, 0, none⟩ = some (.slice a0 n0 c0) ∧ v.cell? ⟨B9, 1, none⟩ = some (.slice a1 n1 c1))) (by kernel_rfl) hS0 (fun hH0 => ?_)
      refine wpAnyH_take (i := 0) (v := (.agg LT.toArray)) rfl (by kernel_rfl) (by kernel_rfl) (by kernel_rfl) (fun _ _ _ h => h) (yieldsIf_load_mid (by kernel_rfl) 35 (.tmp 4) rfl B4 0 rfl LT _ (fun w' h => h.1) Tryd.underlying35 rfl SZT.out) hH0 ?_
      simp only [Act.put, List.getElem_toArray, List.getElem_cons_zero, List.getElem_cons_succ, List.setIfInBounds_toArray, List.set_cons_zero, List.set_cons_succ]
      refine wpAnyH_take (i := 1) (v := (.agg LT.toArray)) rfl (by kernel_rfl) (by kernel_rfl) (by kernel_rfl) (fun _ _ _ h => h) (yieldsIf_load_mid (by kernel_rfl) 35 (.tmp 4) rfl B4 0 rfl LT _ (fun w' h => h.1) Tryd.underlying35 rfl SZT.out) hH0 ?_
      simp only [Act.put, List.getElem_toArray, List.getElem_cons_zero, List.getElem_cons_succ, List.setIfInBounds_toArray, List.set_cons_zero, List.set_cons_succ]
      refine wpAnyH_take (i := 2) (v := ((.slice (some ⟨ge, 0, none⟩) 257 ce))) rfl (by kernel_rfl) (by kernel_rfl) (by kernel_rfl) (fun _ _ _ h => h) (Or.inl ⟨by kernel_rfl, by intro w' hS; obtain ⟨z0, z1, z2⟩ := hS; go_simp⟩) hH0 ?_
      simp only [Act.put, List.getElem_toArray, List.getElem_cons_zero, List.getElem_cons_succ, List.setIfInBounds_toArray, List.set_cons_zero, List.set_cons_succ]
      refine wpAnyH_take (i := 3) (v := ((.pointer (some ⟨B9, 0, none⟩)))) rfl (by kernel_rfl) (by kernel_rfl) (by kernel_rfl) (fun _ _ _ h => h) (Or.inl ⟨by kernel_rfl, by intro w' hS; obtain ⟨z0, z1, z2⟩ := hS; go_simp⟩) hH0 ?_
      simp only [Act.put, List.getElem_toArray, List.getElem_cons_zero, List.getElem_cons_succ, List.setIfInBounds_toArray, List.set_cons_zero, List.set_cons_succ]
      refine wpAnyH_take (i := 4) (v := ((.slice a0 n0 c0))) rfl (by kernel_rfl) (by kernel_rfl) (by kernel_rfl) (fun _ _ _ h => h) (Or.inl ⟨by kernel_rfl, by intro w' hS; obtain ⟨z0, z1, z2⟩ := hS; go_simp⟩) hH0 ?_
      simp only [Act.put, List.getElem_toArray, List.getElem_cons_zero, List.getElem_cons_succ, List.setIfInBounds_toArray, List.set_cons_zero, List.set_cons_succ]
      refine wpAnyH_take (i := 5) (v := ((.int .i64 H))) rfl (by kernel_rfl) (by kernel_rfl) (by kernel_rfl) (fun _ _ _ h => h) (Or.inl ⟨by kernel_rfl, by intro w' hS; obtain ⟨z0, z1, z2⟩ := hS; go_simp⟩) hH0 ?_
      simp only [Act.put, List.getElem_toArray, List.getElem_cons_zero, List.getElem_cons_succ, List.setIfInBounds_toArray, List.set_cons_zero, List.set_cons_succ]
      refine wpAnyH_take (i := 6) (v := ((.int .i64 (h : Int)))) rfl (by kernel_rfl) (by kernel_rfl) (by kernel_rfl) (fun _ _ _ h => h) (Or.inl ⟨by kernel_rfl, by intro w' hS; obtain ⟨z0, z1, z2⟩ := hS; go_simp⟩) hH0 ?_
      simp only [Act.put, List.getElem_toArray, List.getElem_cons_zero, List.getElem_cons_succ, List.setIfInBounds_toArray, List.set_cons_zero, List.set_cons_succ]
      refine wpAnyH_take (i := 8) (v := (.agg LT.toArray)) rfl (by kernel_rfl) (by kernel_rfl) (by kernel_rfl) (fun _ _ _ h => h) (yieldsIf_load_mid (by kernel_rfl) 35 (.tmp 4) rfl B4 0 rfl LT _ (fun w' h => h.1) Tryd.underlying35 rfl SZT.out) hH0 ?_
      simp only [Act.put, List.getElem_toArray, List.getElem_cons_zero, List.getElem_cons_succ, List.setIfInBounds_toArray, List.set_cons_zero, List.set_cons_succ]
      refine wpAnyH_take (i := 9) (v := ((.slice (some ⟨ge, 0, none⟩) 257 ce))) rfl (by kernel_rfl) (by kernel_rfl) (by kernel_rfl) (fun _ _ _ h => h) (Or.inl ⟨by kernel_rfl, by intro w' hS; obtain ⟨z0, z1, z2⟩ := hS; go_simp⟩) hH0 ?_
      simp only [Act.put, List.getElem_toArray, List.getElem_cons_zero, List.getElem_cons_succ, List.setIfInBounds_toArray, List.set_cons_zero, List.set_cons_succ]
      refine wpAnyH_take (i := 10) (v := ((.pointer (some ⟨B9, 1, none⟩)))) rfl (by kernel_rfl) (by kernel_rfl) (by kernel_rfl) (fun _ _ _ h => h) (Or.inl ⟨by kernel_rfl, by intro w' hS; obtain ⟨z0, z1, z2⟩ := hS; go_simp⟩) hH0 ?_
      simp only [Act.put, List.getElem_toArray, List.getElem_cons_zero, List.getElem_cons_succ, List.setIfInBounds_toArray, List.set_cons_zero, List.set_cons_succ]
      refine wpAnyH_take (i := 11) (v := ((.slice a1 n1 c1))) rfl (by kernel_rfl) (by kernel_rfl) (by kernel_rfl) (fun _ _ _ h => h) (Or.inl ⟨by kernel_rfl, by intro w' hS; obtain ⟨z0, z1, z2⟩ := hS; go_simp⟩) hH0 ?_
      simp only [Act.put, List.getElem_toArray, List.getElem_cons_zero, List.getElem_cons_succ, List.setIfInBounds_toArray, List.set_cons_zero, List.set_cons_succ]
      refine wpAnyH_take (i := 12) (v := ((.int .i64 H))) rfl (by kernel_rfl) (by kernel_rfl) (by kernel_rfl) (fun _ _ _ h => h) (Or.inl ⟨by kernel_rfl, by intro w' hS; obtain ⟨z0, z1, z2⟩ := hS; go_simp⟩) hH0 ?_
      simp only [Act.put, List.getElem_toArray, List.getElem_cons_zero, List.getElem_cons_succ, List.setIfInBounds_toArray, List.set_cons_zero, List.set_cons_succ]
      refine wpAnyH_take (i := 13) (v := ((.int .i64 (h : Int)))) rfl (by kernel_rfl) (by kernel_rfl) (by kernel_rfl) (fun _ _ _ h => h) (Or.inl ⟨by kernel_rfl, by intro w' hS; obtain ⟨z0, z1, z2⟩ := hS; go_simp⟩) hH0 ?_
      simp only [Act.put, List.getElem_toArray, List.getElem_cons_zero, List.getElem_cons_succ, List.setIfInBounds_toArray, List.set_cons_zero, List.set_cons_succ]
      refine wpAnyH_ready (rs := [7]) (by kernel_rfl) (by simp) ?_
      refine AllReadyH.cons rfl (fun K hK => ?_) AllReadyH.nil
      go_simp
      refine (HP0.out _ hKept0).mono ?_
      rintro _ x1 ⟨rfl, hc1⟩
      have hk1 : Kept (fun _ => False) W12 x1 := hKept0.trans (Kept.of_below hc1)
      have hs1 := HKS.out _ (hk1.mono (S' := (· = B8)) (fun _ _ h => h.elim))
      refine Shut.out hK _ _ hs1 (fun hH1 => ?_)
      clear hK K
      try simp only [Act.put, List.getElem_toArray, List.getElem_cons_zero, List.getElem_cons_succ, List.setIfInBounds_toArray, List.set_cons_zero, List.set_cons_succ]
      refine wpAnyH_ready (rs := [14]) (by kernel_rfl) (by simp) ?_
      refine AllReadyH.cons rfl (fun K hK => ?_) AllReadyH.nil
      go_simp
      refine (HP1.out _ hk1).mono ?_
      rintro _ x2 ⟨rfl, hc2⟩
      have hk2 := hk1.trans (Kept.of_below hc2)
      have hs2 := HKS.out _ (hk2.mono (S' := (· = B8)) (fun _ _ h => h.elim))
      refine Shut.out hK _ _ hs2 (fun hH2 => ?_)
      clear hK K
      try simp only [Act.put, List.getElem_toArray, List.getElem_cons_zero, List.getElem_cons_succ, List.setIfInBounds_toArray, List.set_cons_zero, List.set_cons_succ]
      refine wpAnyH_ready (rs := [15]) (by kernel_rfl) (by simp) ?_
      refine AllReadyH.cons rfl (fun K hK => ?_) AllReadyH.nil
      go_simp
      refine (HBR.out _).mono ?_
      rintro _ x3 ⟨rfl, hc3⟩
      have hk3 := hk2.trans (Kept.of_below hc3)
      have hs3 := HKS.out _ (hk3.mono (S' := (· = B8)) (fun _ _ h => h.elim))
      have hz1 := HZ12.out.kept hk3 (fun h => h)
      have HTH := Lib.hid (hz1.there 0 33 (by rw [EZ.out]; decide))
      obtain ⟨hr3, hkr⟩ := rset hz1 (show Z.size = LN.length by rw [EZ.out, HLNL.out])
      have hkk := (hk3.mono (S' := (· = B8)) (fun _ _ h => h.elim)).trans hkr
      have HS4 := Lib.hid (HKS.out _ hkk)
      have HFIN := Lib.hid (And.intro hr3 (HBE12.out.trans (hkk.below HBE12.out.size (fun k e => by have e' : k = B8 := e; have := EB.out; omega))))
      clear hc1 hc2 hc3 hz1 hr3 hkr hkk
      refine Shut.out hK _ _ hs3 (fun hH3 => ?_)
      clear hK K
      try simp only [Act.put, List.getElem_toArray, List.getElem_cons_zero, List.getElem_cons_succ, List.setIfInBounds_toArray, List.set_cons_zero, List.set_cons_succ]
      refine wpAnyH_ready (rs := [16]) (by kernel_rfl) (by simp) ?_
      refine AllReadyH.cons rfl (fun K hK => ?_) AllReadyH.nil
      refine step_store_mid rfl 38 (.tmp 8) (.tmp 68) rfl B8 0 LN.toArray rfl rfl (by rw [List.size_toArray, HLNL.out]; exact HTH.out) SZN.out ONEN.out ?_
      refine Shut.out hK _ _ HS4.out (fun hH4 => ?_)
      clear hK K
      try simp only [Act.put, List.getElem_toArray, List.getElem_cons_zero, List.getElem_cons_succ, List.setIfInBounds_toArray, List.set_cons_zero, List.set_cons_succ]
      refine wpAnyH_done (by kernel_rfl) ?_ _
      refine NoPanic.normal ?_
      clear hS0 hH0 hH1 hH2 hH3 hs1 hs2 hs3 hk1 hk2 hk3 hwrap hw64 hwh hne hnn hsub hHb hHz
      go_wp2_with fail
      refine bodyPost_ret (results_cell_row rfl _ _ B8 38 LN.toArray (0, 0) _ rfl HFIN.out.1 Tryd.underlying38 rfl SZN.out) rfl ?_
      exact ⟨rfl, HFIN.out.2⟩
end Go.Proofs.YtcpomddkehhkkaaDoor
